/-
  The texts Nd, Ne, Nf, Ng in one.
-/
import Derived.Test.YtlffopdoeobgaaaGreatDoorT09
import Derived.Test.YtlffopdoeobgaaaGreatDoorT07
import Derived.Test.YtlffopdoeobgaaaGreatDoorT00
import Derived.Test.YtlffopdoeobgaaaGreatDoorT04
import Derived.Test.YtlffopdoeobgaaaGreatDoorT05
import Derived.Deep.DrawnRows
import Derived.Laws.OwnMore
import Derived.Lib.IndexBytes
import Derived.Deep.DeepCutAuto
set_option linter.unusedVariables false
set_option linter.unusedSimpArgs false

section
namespace Go.Proofs.YtlffopdoeobgaaaGreatDoor
open Go Go.RowKit
attribute [local go_sem ↓] Go.wp_at_zero Go.wp_at_succ
theorem idx10 : ∀ l : List UInt8, Lib.indexByte l 10 = if Pl.fd1 l = true then ((Pl.ln1 l).length : Int) else -1
  | [] => by simp [Lib.indexByte, Pl.fd1]
  | c :: l => by
    have ih := idx10 l
    unfold Lib.indexByte
    by_cases hc : c = 10
    · subst hc
      simp [Pl.fd1, Pl.ln1]
    · have e1 : Pl.ln1 (c :: l) = c :: Pl.ln1 l := by unfold Pl.ln1; rw [List.takeWhile_cons_of_pos (by simpa using hc)]
      have e2 : Pl.fd1 (c :: l) = Pl.fd1 l := by unfold Pl.fd1; rw [List.any_cons]; simp [hc]
      rw [if_neg (by simpa using hc), e1, e2, ih]
      cases h : Pl.fd1 l with
      | true => first | (simp; done) | (simp; omega)
      | false => simp
theorem cut10 (l : List UInt8) : Lib.cut l [10] = (Pl.ln1 l, Pl.rs1 l, Pl.fd1 l) := by
  unfold Lib.cut
  rw [Lib.index_one, idx10]
  cases h : Pl.fd1 l with
  | true =>
    have e := Pl.ln1_found h
    rw [if_pos rfl, if_pos (by omega)]
    have e1 : l.take (Pl.ln1 l).length = Pl.ln1 l := by
      conv => lhs; rw [e]
      rw [List.take_left']
      rw [← e]
    have e2 : l.drop ((Pl.ln1 l).length + 1) = Pl.rs1 l := by
      conv => lhs; rw [e]
      rw [← List.drop_drop, List.drop_left']
      · rfl
      · rw [← e]
    simp only [Int.toNat_natCast, List.length_singleton]
    rw [e1, e2]
  | false =>
    obtain ⟨h1, h2, _⟩ := Pl.ln1_whole h
    simp [h1, h2]
def rdT (l : List UInt8) : Option Mv := if rdB ⟨l.toArray⟩ = true then some (rdM (wsR ⟨l.toArray⟩)) else none
theorem rdT_some {t : ByteArray} (h : rdB t = true) : rdT t.data.toList = some (rdM (wsR t)) := by
  unfold rdT
  rw [show (⟨t.data.toList.toArray⟩ : ByteArray) = t from rfl, if_pos h]
theorem rdT_none {t : ByteArray} (h : rdB t = false) : rdT t.data.toList = none := by
  unfold rdT
  rw [show (⟨t.data.toList.toArray⟩ : ByteArray) = t from rfl, h]
  rfl
def PrsPost (l : List UInt8) (w : World) (e : Ending) (w' : World) : Prop :=
  (∀ i b, Pl.pvA rdT l 1 [] = .inl (i, b) → e = .returned (.tuple #[.slice none 0 0, .int .i64 (i : Int), .int .i64 (if b = true then 4 else 3)])) ∧
  (∀ ms, Pl.pvA rdT l 1 [] = .inr ms → ∃ v, e = .returned (.tuple #[v, .int .i64 0, .int .i64 0]) ∧ w'.ownsRow w.heap.size 36 5 v ms.length (mvs ms)) ∧ Below w.heap.size w w'
theorem prs_err {l : List UInt8} {w W' : World} {i : Nat} {b : Bool} {c : Int} (h : Pl.pvA rdT l 1 [] = .inl (i, b)) (hc : c = if b = true then 4 else 3) (hb : Below w.heap.size w W') : PrsPost l w (.returned (.tuple #[.slice none 0 0, .int .i64 (i : Int), .int .i64 c])) W' :=
  ⟨fun i' b' h' => (by rw [h] at h'; injection h' with h'; injection h' with h1 h2; subst h1 h2; rw [hc]), fun ms h' => (by rw [h] at h'; cases h'), hb⟩
set_option maxRecDepth 100000 in
set_option maxHeartbeats 4000000 in
theorem mparse_any (s : ByteArray) (hs : s.size ≤ 65536) (w : World) (hg : GV w) :
    Calls Tryz.prog 21 #[.string s] w (PrsPost s.data.toList w) := by
  have HG := hide hg
  have hs1 : ¬ ((65536 : Int) < (s.size : Int)) := by omega
  obtain ⟨l0, hl0⟩ : ∃ l, l = s.data.toList := ⟨_, rfl⟩
  have hsz := Lib.size_eq s
  rw [← hl0] at hsz ⊢
  have HSZ := hide hsz
  have HL0 := hide hl0
  clear hg hsz hl0
  go_enter Tryz.func21, Tryz.ntmps21
  go_wp2_with fail
  go_loopg [0, 5, 6, 7, 8, 9, 10, 11] l0.length (fun g s0 s5 s6 s7 s8 s9 s10 s11 wx => ∃ (t : ByteArray) (i : Nat) (acc : List Mv), g = t.data.toList.length ∧ s0 = .string t ∧ s6 = .int .i64 (i : Int) ∧ Pl.pvA rdT l0 1 [] = Pl.pvA rdT t.data.toList i acc ∧ wx.ownsRow w.heap.size 36 5 s5 acc.length (mvs acc) ∧ Below w.heap.size w wx ∧ i + t.data.toList.length ≤ 65537 ∧ acc.length + t.data.toList.length ≤ 65536)
  case atStart => exact ⟨s, 1, [], by rw [HL0.out], rfl, rfl, by rw [HL0.out], World.ownsRow_nil _ _ _ _, Below.refl _ _, by rw [← HL0.out]; have := HSZ.out; omega, by rw [← HL0.out]; have := HSZ.out; simp; omega⟩
  case round =>
    obtain ⟨t, i, acc, hgt, rfl, rfl, hpa, ho, hb, hi, hal⟩ := hrel
    have HPA := hide hpa
    have OW := hide ho
    have HB := hide hb
    have HGT := hide hgt
    have htz := Lib.size_eq t
    have HTZ := hide htz
    have ht6 : t.size ≤ 65536 := by omega
    obtain ⟨A4, c4, rfl⟩ := owns_slice OW.out
    clear hpa ho hb htz
    by_cases hl : t.data.toList = []
    · have hem : t.toList.isEmpty = true := by rw [ByteArray.toList_eq, hl]; rfl
      have HR := hide (show Pl.pvA rdT l0 1 [] = .inr acc by rw [HPA.out, hl, Pl.pvA_nil])
      clear hl
      go_wp2_with fail
      refine bodyPost_ret (v := .tuple #[.slice A4 acc.length c4, .int .i64 0, .int .i64 0]) (by simp [results, Tryz.results21, go_sem]) rfl ?_
      exact ⟨fun i' b' h' => (by rw [HR.out] at h'; cases h'), fun ms h' => by
        rw [HR.out] at h'
        injection h' with h'
        subst h'
        exact ⟨_, rfl, OW.out⟩, HB.out⟩
    · have hem : t.toList.isEmpty = false := by
        rw [ByteArray.toList_eq]
        cases h : t.data.toList with
        | nil => exact absurd h hl
        | cons _ _ => rfl
      have HL := hide hl
      obtain ⟨mv, hmv⟩ := (HG.out.below HB.out).m
      clear hl
      go_wp2_with fail
      refine (Tryz.strings_Cut t ⟨#[10]⟩ mv _ (by omega) hmv).mono ?_
      rintro e w1 ⟨rfl, nd, rfl⟩
      rw [show Lib.cut t.data.toList (⟨#[10]⟩ : ByteArray).data.toList = (Pl.ln1 t.data.toList, Pl.rs1 t.data.toList, Pl.fd1 t.data.toList) from cut10 _]
      obtain ⟨la, hla⟩ : ∃ x : ByteArray, x = ⟨(Pl.ln1 t.data.toList).toArray⟩ := ⟨_, rfl⟩
      obtain ⟨lb, hlb⟩ : ∃ x : ByteArray, x = ⟨(Pl.rs1 t.data.toList).toArray⟩ := ⟨_, rfl⟩
      obtain ⟨fd, hfd⟩ : ∃ x, x = Pl.fd1 t.data.toList := ⟨_, rfl⟩
      have HLA := hide (show la.data.toList = Pl.ln1 t.data.toList by rw [hla])
      have HLB := hide (show lb.data.toList = Pl.rs1 t.data.toList by rw [hlb])
      have HFD := hide hfd
      have hla1 : la.size ≤ 65536 := by
        rw [Lib.size_eq, HLA.out]
        have : (Pl.ln1 t.data.toList).length ≤ t.data.toList.length := (List.takeWhile_sublist _).length_le
        omega
      simp only []
      rw [← hla, ← hlb, ← hfd]
      clear hla hlb hfd hmv
      obtain ⟨V1, hV1⟩ : ∃ V, V = wr.drewN nd := ⟨_, rfl⟩
      have O1 := hide (show V1.ownsRow w.heap.size 36 5 (.slice A4 acc.length c4) acc.length (mvs acc) by rw [hV1]; exact own_below OW.out (below_drewN (Below.refl _ _) _))
      have B1 := hide (show Below w.heap.size w V1 by rw [hV1]; exact below_drewN HB.out _)
      rw [← hV1]
      clear hV1 OW HB
      go_wp2_with fail
      refine (read_any la (by omega) _ (HG.out.below B1.out)).mono ?_
      rintro e w2 ⟨rfl, hb2⟩
      have B2 := hide (B1.out.trans (hb2.mono B1.out.size))
      have O2 := hide (own_below O1.out hb2)
      obtain ⟨z, hz⟩ : ∃ z, z = rdM (wsR la) := ⟨_, rfl⟩
      obtain ⟨rb, hrb⟩ : ∃ z, z = rdB la := ⟨_, rfl⟩
      rw [← hz, ← hrb]
      obtain ⟨zk, zx, zy, zs, zo⟩ := z
      rw [show (Mv.mk zk zx zy zs zo).v = .agg #[.int .i64 zk, .int .i64 zx, .int .i64 zy, .int .i64 zs, .bool zo] from rfl]
      cases rb with
      | false =>
        have HR := hide (show Pl.pvA rdT l0 1 [] = .inl (i, false) by rw [HPA.out]; exact Pl.pvA_bad HL.out (by rw [← HLA.out]; exact rdT_none hrb.symm))
        have B3 := hide (B2.out.alloc B2.out.size (.cells #[.int .i64 zk, .int .i64 zx, .int .i64 zy, .int .i64 zs, .bool zo] 36))
        clear hz hrb hb2
        go_wp2_with fail
        refine bodyPost_ret (v := .tuple #[.slice none 0 0, .int .i64 (i : Int), .int .i64 3]) (by simp [results, Tryz.results21, go_sem]) rfl ?_
        exact prs_err HR.out rfl B3.out
      | true =>
        have HRD := hide (show rdT (Pl.ln1 t.data.toList) = some ⟨zk, zx, zy, zs, zo⟩ by rw [← HLA.out, rdT_some hrb.symm, hz])
        clear hz hrb
        cases fd with
        | false =>
          have HR := hide (show Pl.pvA rdT l0 1 [] = .inl (i, true) by rw [HPA.out]; exact Pl.pvA_end HL.out HRD.out HFD.out.symm)
          have B3 := hide (B2.out.alloc B2.out.size (.cells #[.int .i64 zk, .int .i64 zx, .int .i64 zy, .int .i64 zs, .bool zo] 36))
          clear hb2
          go_wp2_with fail
          refine bodyPost_ret (v := .tuple #[.slice none 0 0, .int .i64 (i : Int), .int .i64 4]) (by simp [results, Tryz.results21, go_sem]) rfl ?_
          exact prs_err HR.out rfl B3.out
        | true =>
          have hlt := Pl.rs1_lt (l := t.data.toList) HFD.out.symm
          rw [← HLB.out] at hlt
          have HP2 := hide (show Pl.pvA rdT l0 1 [] = Pl.pvA rdT lb.data.toList (i + 1) (acc ++ [⟨zk, zx, zy, zs, zo⟩]) by rw [HPA.out, Pl.pvA_step HRD.out HFD.out.symm, HLB.out])
          have hb20 : w.heap.size ≤ w2.heap.size := B2.out.size
          have B3 := hide ((B2.out.alloc B2.out.size (.cells #[.int .i64 zk, .int .i64 zx, .int .i64 zy, .int .i64 zs, .bool zo] 36)).alloc (by simp; omega) (.cells (Mv.cells ⟨zk, zx, zy, zs, zo⟩).toArray 36))
          have O3 := hide (own_below (own_below O2.out ((Below.refl w2.heap.size w2).alloc (Nat.le_refl _) (.cells #[.int .i64 zk, .int .i64 zx, .int .i64 zy, .int .i64 zs, .bool zo] 36))) ((Below.refl _ _).alloc (Nat.le_refl _) (.cells (Mv.cells ⟨zk, zx, zy, zs, zo⟩).toArray 36)))
          have NW := hide (five_news (w2.alloc (.cells #[.int .i64 zk, .int .i64 zx, .int .i64 zy, .int .i64 zs, .bool zo] 36)) (w2.heap.size + 1) (by simp) ⟨zk, zx, zy, zs, zo⟩)
          have A1 : ∀ u ∈ Mv.cells ⟨zk, zx, zy, zs, zo⟩, u.oneCell' = true := by simp [Mv.cells, Value.oneCell']
          have A2 : acc.length + 1 ≤ maxLen := by unfold maxLen; omega
          have A3 : (acc.length + 1) * 40 ≤ 140737488355328 := by omega
          obtain ⟨n0, hn0, hz0, hz1, hz2⟩ := info_parts moveInfo
          have HN1 := hide (show w.heap.size ≤ ((w2.alloc (.cells #[.int .i64 zk, .int .i64 zx, .int .i64 zy, .int .i64 zs, .bool zo] 36)).alloc (.cells (Mv.cells ⟨zk, zx, zy, zs, zo⟩).toArray 36)).heap.size by simp; omega)
          have HI2 := hide (show i + 1 + lb.data.toList.length ≤ 65537 by omega)
          have HA2 := hide (show (acc ++ [(⟨zk, zx, zy, zs, zo⟩ : Mv)]).length + lb.data.toList.length ≤ 65536 by rw [List.length_append, List.length_singleton]; omega)
          clear hb2
          go_wp2_with (at_builtin; refine wpList_append_lies _ (by rfl) _ _ 25 (by rfl) w.heap.size 36 n0 (.agg #[.int .i64 0, .int .i64 0, .int .i64 0, .int .i64 0, .bool false]) 5 40 Tryz.underlying25 hn0 hz0 hz1 hz2 rfl (by omega) _ acc.length (mvs acc) (by rfl) O3.out ⟨w2.heap.size + 1, 0, none⟩ 1 1 (Mv.cells ⟨zk, zx, zy, zs, zo⟩) (by rfl) (by rfl) NW.out A1 (by omega) A2 A3 HN1.out (w2.heap.size + 1 + 1) (by simp) ?_; intro g2 c2 w6 own2 grow2 at2 lt2; have OWN2 := hide own2; have GR2 := hide grow2; clear own2 grow2 at2)
          go_roundg lb.data.toList.length
          case measure => omega
          case rel =>
            refine ⟨lb, i + 1, acc ++ [⟨zk, zx, zy, zs, zo⟩], rfl, rfl, by go_num, HP2.out, ?_, B3.out.grown GR2.out HN1.out (fun k hk => by have := (O3.out.lt k hk).1; omega), HI2.out, HA2.out⟩
            rw [mvs_app, List.length_append]
            exact OWN2.out
end Go.Proofs.YtlffopdoeobgaaaGreatDoor
end

section
namespace Go.Proofs.YtlffopdoeobgaaaGreatDoor
open Go Go.RowKit Go.Shelf
attribute [local go_sem ↓] Go.wp_at_zero Go.wp_at_succ
def wbR : Go.Shelf.Ren := ⟨fun | 167 => 55 | n => Tryz.lays156_ren.f n, Tryz.lays156_ren.t, Tryz.lays156_ren.g⟩
set_option maxRecDepth 100000 in
theorem wbX : Builder.Extra Tryz.prog wbR := { Tryz.Builder_Extra_156 with }
set_option maxRecDepth 100000 in
theorem l167 : Go.Proofs.Lays.n167 Tryz.prog wbR := { Tryz.lays156 with
  f167 := Tryz.func55.trans (congrArg some (by kernel_rfl))
  t5 := Tryz.Builder_Extra_156.t5
  a5 := Tryz.Builder_Extra_156.a5
  z5 := Tryz.Builder_Extra_156.z5
  v5 := Tryz.Builder_Extra_156.v5 }
theorem l166 : Go.Proofs.Lays.n166 Tryz.prog Tryz.lays156_ren := { Tryz.lays156 with }
def IsB (B b : Nat) (l : List UInt8) (w : World) : Prop := Lib.IsBuilderF 79 5 B b (Lib.byteCells l) w
theorem writeByte_any (B b : Nat) (l : List UInt8) (c : UInt8) (w : World) (h : IsB B b l w) (hlen : l.length + 1 ≤ 140737488355328) (hBw : B ≤ w.heap.size) :
    Calls Tryz.prog 55 #[.pointer (some ⟨b, 0, none⟩), .int .u8 c.toNat] w fun e w' => e = .returned .nilIface ∧ IsB B b (l ++ [c]) w' ∧ Below B w w' :=
  (Any.Builder_WriteByte_k l167 wbX B b (Lib.byteCells l) c.toNat w h (by simpa [Lib.byteCells_length] using hlen) hBw).mono fun e w' ⟨he, h1, h2, _⟩ =>
    ⟨he, .inr (by rw [show Lib.byteCells (l ++ [c]) = Lib.byteCells l ++ [.int .u8 c.toNat] from by simp [Lib.byteCells]]; exact h1), h2⟩
theorem writeString_any (B b : Nat) (l : List UInt8) (s : ByteArray) (w : World) (h : IsB B b l w) (hlen : l.length + s.size ≤ 140737488355328) (hBw : B ≤ w.heap.size) :
    Calls Tryz.prog 54 #[.pointer (some ⟨b, 0, none⟩), .string s] w fun e w' => e = .returned (.tuple #[.int .i64 s.size, .nilIface]) ∧ IsB B b (l ++ s.data.toList) w' ∧ Below B w w' :=
  (Any.Builder_WriteString_k l166 Tryz.Builder_Extra_156 B b (Lib.byteCells l) s w h (by simpa [Lib.byteCells_length] using hlen) hBw).mono fun e w' ⟨he, h1, h2, _⟩ =>
    ⟨he, .inr (by rw [show Lib.byteCells (l ++ s.data.toList) = Lib.byteCells l ++ Lib.strCells s from by simp [Lib.byteCells, Lib.strCells]]; exact h1), h2⟩
theorem string_any (B b : Nat) (l : List UInt8) (w : World) (h : IsB B b l w) (hBw : B ≤ w.heap.size) :
    Calls Tryz.prog 56 #[.pointer (some ⟨b, 0, none⟩)] w fun e w' => e = .returned (.string ⟨l.toArray⟩) ∧ IsB B b l w' ∧ Below B w w' :=
  Tryz.Builder_String_any_f B b l w h hBw
theorem isB_new (w : World) : IsB w.heap.size w.heap.size [] (w.alloc (.cells #[.pointer none, .slice none 0 0] 79)) := by
  rcases Lib.fresh_isBuilder 79 5 w with ⟨h1, v, h2, h3, h4⟩ | ⟨h1, v, h2, h3, h4⟩
  · exact .inl ⟨h1, v, h2, World.ownsRowF_of h3, h4⟩
  · exact .inr ⟨h1, v, h2, World.ownsRowF_of h3, h4⟩
theorem isB_more {B b : Nat} {l : List UInt8} {w w' : World} (h : IsB B b l w) (hb : Below w.heap.size w w') : IsB B b l w' := by
  have key : ∀ p, Lib.BuilderAtF 79 5 B b p (Lib.byteCells l) w → Lib.BuilderAtF 79 5 B b p (Lib.byteCells l) w' := by
    rintro p ⟨h1, v, h2, h3, h4⟩
    refine ⟨h1, v, (hb.block b (lt_of_heap h2)).trans h2, ⟨h3.1, ?_⟩, h4⟩
    rcases h3.2 with hz | ⟨g, cap, cur, fz, r1, r2, r3, r4⟩
    · exact .inl hz
    · exact .inr ⟨g, cap, cur, fz, r1, r2, (hb.block g (lt_of_heap r3)).trans r3, r4⟩
  rcases h with h | h
  · exact .inl (key _ h)
  · exact .inr (key _ h)
def MvsA (w : World) (A : Option Addr) (n : Nat) (ms : List Mv) : Prop := n = ms.length ∧ (0 < n → ∃ b o, A = some ⟨b, o, none⟩ ∧ ∀ (j : Nat) (z : Mv), ms[j]? = some z → ∀ (i : Nat) (u : Value), z.cells[i]? = some u → w.cell? ⟨b, o + j * 5 + i, none⟩ = some u)
theorem MvsA.keep {w w' : World} {A : Option Addr} {n : Nat} {ms : List Mv} (h : MvsA w A n ms) (hb : Below w.heap.size w w') : MvsA w' A n ms :=
  ⟨h.1, fun hp => let ⟨b, o, e, hc⟩ := h.2 hp; ⟨b, o, e, fun j z hz i u hu => cell_below (hc j z hz i u hu) hb⟩⟩
theorem MvsA.at_ {w : World} {A : Option Addr} {n j : Nat} {ms : List Mv} (h : MvsA w A n ms) (hj : j < n) : ∃ b o k x y s v, A = some ⟨b, o, none⟩ ∧ ms[j]? = some ⟨k, x, y, s, v⟩ ∧ w.cell? ⟨b, o + j * 5, none⟩ = some (.int .i64 k) ∧ w.cell? ⟨b, o + j * 5 + 1, none⟩ = some (.int .i64 x) ∧ w.cell? ⟨b, o + j * 5 + 2, none⟩ = some (.int .i64 y) ∧ w.cell? ⟨b, o + j * 5 + 3, none⟩ = some (.int .i64 s) ∧ w.cell? ⟨b, o + j * 5 + 4, none⟩ = some (.bool v) := by
  obtain ⟨b, o, e, hc⟩ := h.2 (by omega)
  have hj' : j < ms.length := by rw [← h.1]; exact hj
  have hz : ms[j]? = some (ms[j]'hj') := List.getElem?_eq_getElem hj'
  obtain ⟨z, hz'⟩ : ∃ z, z = ms[j]'hj' := ⟨_, rfl⟩
  rw [← hz'] at hz
  clear hz'
  obtain ⟨k, x, y, s, v⟩ := z
  exact ⟨b, o, k, x, y, s, v, e, hz, hc j _ hz 0 _ rfl, hc j _ hz 1 _ rfl, hc j _ hz 2 _ rfl, hc j _ hz 3 _ rfl, hc j _ hz 4 _ rfl⟩
theorem MovesV.a {w : World} {A : Option Addr} {n : Nat} {ms : List Mv} (h : MovesV w A n ms) : MvsA w A n ms :=
  ⟨h.1, fun hp => let ⟨g, e, _, hc⟩ := h.2 hp; ⟨g, 0, e, fun j z hz i u hu => by rw [Nat.zero_add]; exact hc j z hz i u hu⟩⟩
def MvIn (m : Mv) : Prop := (-9223372036854775808 ≤ m.x ∧ m.x ≤ 9223372036854775807) ∧ (-9223372036854775808 ≤ m.y ∧ m.y ≤ 9223372036854775807) ∧ (-9223372036854775808 ≤ m.sign ∧ m.sign ≤ 9223372036854775807)
def lnF (m : Mv) : List UInt8 := if lnB m = true then (lnT m).data.toList else [63]
theorem lnT_len {m : Mv} (h : MvIn m) : (lnT m).data.toList.length ≤ 200 := by
  obtain ⟨k, x, y, s, o⟩ := m
  obtain ⟨h1, h2, h3⟩ := h
  have a1 := itB_len x h1.1 h1.2
  have a2 := itB_len y h2.1 h2.2
  have a3 := itB_len s h3.1 h3.2
  have a4 : (sdB o).data.toList.length ≤ 30 := by cases o <;> decide
  show (Lib.join ((lnW ⟨k, x, y, s, o⟩).map (·.data.toList)) [32]).toArray.toList.length ≤ 200
  rw [List.toList_toArray]
  unfold lnW
  have key : ∀ (a : List UInt8) (r : List (List UInt8)), a.length ≤ 30 → (∀ z, z ∈ r → z.length ≤ 30) → r.length ≤ 4 → (Lib.join (a :: r) [32]).length ≤ 200 := fun a r ha hr hl => Nat.le_trans (join_small a r 4 ha hr hl) (by omega)
  dsimp only
  repeat' split
  all_goals first
    | (refine key _ _ (by decide) ?_ (by simp)
       intro z hz
       simp only [List.map_cons, List.map_nil, List.mem_cons, List.not_mem_nil, or_false] at hz
       first
       | (rcases hz with rfl | rfl | rfl | rfl <;> assumption)
       | (rcases hz with rfl | rfl | rfl <;> assumption)
       | (rcases hz with rfl | rfl <;> assumption)
       | (rcases hz with rfl <;> assumption))
    | (simp [Lib.join])
theorem lnF_len {m : Mv} (h : MvIn m) : (lnF m).length ≤ 200 := by
  unfold lnF
  split
  · exact lnT_len h
  · decide
theorem fmA_len : ∀ (ms : List Mv), (∀ m, m ∈ ms → MvIn m) → (Pl.fmA lnF ms).length ≤ 201 * ms.length
  | [], _ => by simp [Pl.fmA]
  | m :: ms, h => by
    have h1 := fmA_len ms (fun z hz => h z (by simp [hz]))
    have h2 := lnF_len (h m (by simp))
    rw [Pl.fmA_cons, List.length_append, List.length_append, List.length_cons, List.length_cons, List.length_nil]
    omega
set_option maxRecDepth 100000 in
set_option maxHeartbeats 4000000 in
theorem mformat_any (ms : List Mv) (A : Option Addr) (n c : Nat) (w : World) (hA : MvsA w A n ms) (hn : n ≤ 1000000) (hr : ∀ m, m ∈ ms → MvIn m) (hg : GV w) :
    Calls Tryz.prog 27 #[.slice A n c] w fun e w' => e = .returned (.string ⟨(Pl.fmA lnF ms).toArray⟩) ∧ Below w.heap.size w w' := by
  have HG := hide hg
  have HA := hide hA
  have HR := hide hr
  have HL := hide (show ms.length = n from hA.1.symm)
  clear hg hA hr
  have I0 := hide (isB_new w)
  have B0 := hide (show Below w.heap.size w (w.alloc (.cells #[.pointer none, .slice none 0 0] 79)) from (Below.refl _ _).alloc (Nat.le_refl _) _)
  go_enter Tryz.func27, Tryz.ntmps27
  go_wp2_with fail
  go_loopg [5, 6, 7, 10] n (fun g s5 s6 s7 i wx => ∃ k : Nat, k + g = n ∧ i = .int .i64 (k : Int) ∧ IsB w.heap.size w.heap.size (Pl.fmA lnF (ms.take k)) wx ∧ Below w.heap.size w wx)
  case atStart => exact ⟨0, by omega, rfl, I0.out, B0.out⟩
  case round =>
    clear I0 B0
    obtain ⟨k, hkg, rfl, hi, hb⟩ := hrel
    have HKG := hide hkg
    have HI := hide hi
    have HB := hide hb
    have hkn : k ≤ n := by omega
    clear hkg hi hb
    have hfl : (Pl.fmA lnF (ms.take k)).length ≤ 201 * k := by
      have h := fmA_len (ms.take k) (fun m hm => HR.out m (List.mem_of_mem_take hm))
      rw [List.length_take] at h
      have : 201 * min k ms.length ≤ 201 * k := Nat.mul_le_mul_left _ (Nat.min_le_left _ _)
      omega
    by_cases hk : k < n
    · have hki : (k : Int) < (n : Int) := by omega
      have k0 : (0 : Int) ≤ (k : Int) := by omega
      obtain ⟨ga, go, zk, zx, zy, zs, zo, rfl, hz, a0, a1, a2, a3, a4⟩ := (HA.out.keep HB.out).at_ hk
      have HZ := hide (HR.out _ (List.mem_of_getElem? hz))
      have HT := hide (show Pl.fmA lnF (ms.take (k + 1)) = Pl.fmA lnF (ms.take k) ++ (lnF ⟨zk, zx, zy, zs, zo⟩ ++ [10]) by rw [Pl.take_one hz, Pl.fmA_snoc])
      have h200 := lnT_len HZ.out
      rw [← Lib.size_eq] at h200
      clear hz
      have B1 := hide (show Below wr.heap.size wr (wr.alloc (.cells #[.int .i64 zk, .int .i64 zx, .int .i64 zy, .int .i64 zs, .bool zo] 36)) from (Below.refl _ _).alloc (Nat.le_refl _) _)
      go_wp2_with fail
      refine (line_m zk zx zy zs zo _ (HG.out.below (HB.out.trans (B1.out.mono HB.out.size))) HZ.out.1 HZ.out.2.1 HZ.out.2.2).mono ?_
      rintro e w2 ⟨rfl, hb2⟩
      have I2 := hide (isB_more HI.out (B1.out.trans (hb2.mono B1.out.size)))
      have B2 := hide (HB.out.trans ((B1.out.trans (hb2.mono B1.out.size)).mono HB.out.size))
      have hs2 : w.heap.size ≤ w2.heap.size := B2.out.size
      obtain ⟨tx, htx⟩ : ∃ x, x = lnT ⟨zk, zx, zy, zs, zo⟩ := ⟨_, rfl⟩
      obtain ⟨ok, hok⟩ : ∃ x, x = lnB ⟨zk, zx, zy, zs, zo⟩ := ⟨_, rfl⟩
      rw [← htx] at h200
      rw [← htx, ← hok]
      obtain ⟨fm, hfm⟩ : ∃ x, x = Pl.fmA lnF (ms.take k) := ⟨_, rfl⟩
      rw [← hfm] at hfl I2 HT
      clear a0 a1 a2 a3 a4 hb2 B1 hfm
      cases ok with
      | true =>
        have HF := hide (show lnF ⟨zk, zx, zy, zs, zo⟩ = tx.data.toList by unfold lnF; rw [← hok, if_pos rfl, htx])
        clear hok htx
        go_wp2_with fail
        refine (writeString_any w.heap.size w.heap.size fm tx _ I2.out (by omega) hs2).mono ?_
        rintro e w3 ⟨rfl, hi3, hb3⟩
        have I3 := hide hi3
        have B3 := hide (B2.out.trans hb3)
        have hs3 : w.heap.size ≤ w3.heap.size := B3.out.size
        have hl3 : (fm ++ tx.data.toList).length + 1 ≤ 140737488355328 := by rw [List.length_append, ← Lib.size_eq]; omega
        clear hi3 hb3
        go_wp2_with fail
        refine (writeByte_any w.heap.size w.heap.size _ 10 _ I3.out hl3 hs3).mono ?_
        rintro e w4 ⟨rfl, hi4, hb4⟩
        have I4 := hide hi4
        have B4 := hide (B3.out.trans hb4)
        clear hi4 hb4
        go_wp2_with fail
        go_roundg (gk - 1)
        case measure => have := HKG.out; omega
        case rel => exact ⟨k + 1, by have := HKG.out; omega, by go_num, by rw [HT.out, HF.out, ← List.append_assoc]; exact I4.out, B4.out⟩
      | false =>
        have HF := hide (show lnF ⟨zk, zx, zy, zs, zo⟩ = (⟨#[63]⟩ : ByteArray).data.toList by unfold lnF; rw [← hok]; rfl)
        clear hok htx
        go_wp2_with fail
        refine (writeString_any w.heap.size w.heap.size fm ⟨#[63]⟩ _ I2.out (by have : (⟨#[63]⟩ : ByteArray).size = 1 := rfl; omega) hs2).mono ?_
        rintro e w3 ⟨rfl, hi3, hb3⟩
        have I3 := hide hi3
        have B3 := hide (B2.out.trans hb3)
        have hs3 : w.heap.size ≤ w3.heap.size := B3.out.size
        have hl3 : (fm ++ (⟨#[63]⟩ : ByteArray).data.toList).length + 1 ≤ 140737488355328 := by
          rw [List.length_append]
          have : (⟨#[63]⟩ : ByteArray).data.toList.length = 1 := rfl
          omega
        clear hi3 hb3
        go_wp2_with fail
        refine (writeByte_any w.heap.size w.heap.size _ 10 _ I3.out hl3 hs3).mono ?_
        rintro e w4 ⟨rfl, hi4, hb4⟩
        have I4 := hide hi4
        have B4 := hide (B3.out.trans hb4)
        clear hi4 hb4
        go_wp2_with fail
        go_roundg (gk - 1)
        case measure => have := HKG.out; omega
        case rel => exact ⟨k + 1, by have := HKG.out; omega, by go_num, by rw [HT.out, HF.out, ← List.append_assoc]; exact I4.out, B4.out⟩
    · have hki : ¬ ((k : Int) < (n : Int)) := by omega
      have HT := hide (show ms.take k = ms from List.take_of_length_le (by have := HL.out; omega))
      rw [HT.out] at HI
      have hs2 : w.heap.size ≤ wr.heap.size := HB.out.size
      go_wp2_with fail
      refine (string_any w.heap.size w.heap.size _ _ HI.out hs2).mono ?_
      rintro e w4 ⟨rfl, hi4, hb4⟩
      have B4 := hide (HB.out.trans hb4)
      clear hi4 hb4
      go_wp2_with fail
      go_ret
      exact ⟨rfl, B4.out⟩
end Go.Proofs.YtlffopdoeobgaaaGreatDoor
end

section
namespace Go.Proofs.YtlffopdoeobgaaaGreatDoor
open Go Go.RowKit
attribute [local go_sem ↓] Go.wp_at_zero Go.wp_at_succ
set_option maxRecDepth 100000 in
set_option maxHeartbeats 4000000 in
theorem leading_any (d : Pl.Dg) (hd : Pl.Wf d) (A B : Option Addr) (cp cq m n : Nat) (lp : Int) (x y : Nat) (w : World) (hm : m = 4 * d.n) (hg : DgAt w A B d) (hx : x < d.n) :
    Calls Tryz.prog 32 #[.agg #[.slice A n cp, .slice B m cq, .int .i64 lp], .int .i64 (x : Int), .int .i64 (y : Int)] w fun e w' => (e = .returned (.int .i64 (x : Int)) ∨ e = .returned (.int .i64 (y : Int))) ∧ Below w.heap.size w w' := by
  have HG := hide hg
  have HM := hide hm
  have HD := hide hd
  have hn := hd.few
  have X0 := hide (row_at (W := w) (g := w.heap.size) (t := 24) (vs := [.slice A n cp, .slice B m cq, .int .i64 lp]) rfl)
  have B0 := hide (show Below w.heap.size w (w.alloc (.cells #[.slice A n cp, .slice B m cq, .int .i64 lp] 24)) from (Below.refl _ _).alloc (Nat.le_refl _) _)
  obtain ⟨V, hV⟩ : ∃ V, V = w.alloc (.cells #[.slice A n cp, .slice B m cq, .int .i64 lp] 24) := ⟨_, rfl⟩
  have HV := hide hV
  rw [← hV] at X0 B0
  obtain ⟨d0, d1, d2, d3⟩ := box3 X0.out
  have HGV := hide (HG.out.keep B0.out)
  clear hg hm hd hV
  go_enter Tryz.func32, Tryz.ntmps32
  go_wp2_with fail
  rw [← HV.out]
  go_loopg [7, 8, 9] (4 * x + 4) (fun g s7 s8 s9 wx => ∃ h : Nat, h + g = 4 * x + 4 + 4 * x ∧ 4 * x ≤ h ∧ s7 = .int .i64 (h : Int) ∧ wx = V)
  case atStart => exact ⟨4 * x, by omega, by omega, by go_num, rfl⟩
  case round =>
    obtain ⟨h, hhg, hxh, rfl, rfl⟩ := hrel
    have HHG := hide hhg
    have h0 : (0 : Int) ≤ (h : Int) := by omega
    by_cases hh : h < 4 * x + 4
    · have hhi : (h : Int) < 4 * (x : Int) + 4 := by omega
      have hhn : h < 4 * d.n := by omega
      have hhm : (h : Int) < (m : Int) := by have := HM.out; omega
      obtain ⟨b, o, rfl, c0⟩ := HGV.out.mate hhn
      have hmn := HD.out.lt h hhn
      obtain ⟨mh, hmh⟩ : ∃ z, z = d.m h := ⟨_, rfl⟩
      rw [← hmh] at c0 hmn
      have hg3 : Pl.tn mh 3 < 4 * d.n := by unfold Pl.tn; omega
      obtain ⟨b', o', e', c1⟩ := HGV.out.mate hg3
      injection e' with e'
      injection e' with e1 e2
      subst e1 e2
      obtain ⟨g3, hg3'⟩ : ∃ z, z = Pl.tn mh 3 := ⟨_, rfl⟩
      rw [← hg3'] at c1 hg3
      have hg3m : (g3 : Int) < (m : Int) := by have := HM.out; omega
      have hg30 : (0 : Int) ≤ (g3 : Int) := by omega
      have HT := hide hg3'
      clear hhg hmh hg3'
      go_upto_region 6 with (go_at_call 60; refine (turn_back mh _ (by omega)).mono ?_; rintro e w2 ⟨rfl, rfl⟩; rw [← HT.out])
      have BF := hide (show Below w.heap.size w wr by rw [HV.out]; exact (Below.refl _ _).alloc (Nat.le_refl _) _)
      have NXT : h + 1 ≤ 4 * x + 4 := by omega
      by_cases q1 : ((g3 : Int) / 4) = (y : Int)
      · go_wp2_with (go_at_call 60; refine (turn_back _ _ (by have := HD.out.lt g3 hg3; omega)).mono ?_; rintro e w2 ⟨rfl, rfl⟩)
        all_goals first
          | (go_ret; exact ⟨.inl rfl, BF.out⟩)
          | (go_roundg (gk - 1)
             case measure => have := HHG.out; omega
             case rel => exact ⟨h + 1, by have := HHG.out; omega, by omega, by go_num, rfl⟩)
      · go_wp2_with fail
        all_goals first
          | (go_ret; exact ⟨.inl rfl, BF.out⟩)
          | (go_roundg (gk - 1)
             case measure => have := HHG.out; omega
             case rel => exact ⟨h + 1, by have := HHG.out; omega, by omega, by go_num, rfl⟩)
    · have hhi : ¬ ((h : Int) < 4 * (x : Int) + 4) := by omega
      go_wp2_with fail
      go_ret
      exact ⟨.inr rfl, by rw [HV.out]; exact (Below.refl _ _).alloc (Nat.le_refl _) _⟩
set_option maxRecDepth 100000 in
set_option maxHeartbeats 4000000 in
theorem drop_any {base g n c : Nat} {xs : List Int} (W : World) (h : W.ownsRow base 3 1 (.slice (some ⟨g, 0, none⟩) (n + 1) c) (n + 1) (xs.map (.int .i64))) (hn : n ≤ 100000) :
    Calls Tryz.prog 62 #[.slice (some ⟨g, 0, none⟩) (n + 1) c] W fun e w' => e = .returned (.slice (some ⟨g, 0, none⟩) n c) ∧ (∃ ys : List Int, w'.ownsRow base 3 1 (.slice (some ⟨g, 0, none⟩) n c) n (ys.map (.int .i64))) ∧ W.grownBy w' (some g) := by
  have H := hide h
  obtain ⟨hc1, hc2⟩ := own_capI h (Nat.succ_pos n)
  have hcut := cut_own g n c (by omega) hc2
  have c0 := World.ownsRow.cellAt h n (by omega)
  have hxl : xs.length = n + 1 := by have := h.1; simpa using this
  rw [List.getElem?_map, List.getElem?_eq_getElem (by omega)] at c0
  simp only [Option.map_some] at c0
  obtain ⟨gone, hgone⟩ : ∃ z, z = xs[n]'(by omega) := ⟨_, rfl⟩
  rw [← hgone] at c0
  have HS := hide (show W.ownsRow base 3 1 (.slice (some ⟨g, 0, none⟩) n c) n ((xs.dropLast).map (.int .i64)) by rw [List.map_dropLast]; exact own_shrink h)
  have i1 : (0 : Int) ≤ (n : Int) := by omega
  have i2 : (n : Int) < (n : Int) + 1 := by omega
  have i3 : (n : Int) + 1 - 1 = (n : Int) := by omega
  clear h hgone hc1 hc2
  go_enter Tryz.func62, Tryz.ntmps62
  go_wp2_with fail
  go_loopg [5, 6, 19] n (fun m s5 s6 i wx => ∃ k : Nat, k + m = n ∧ i = .int .i64 (k : Int) ∧ (∃ ys : List Int, wx.ownsRow base 3 1 (.slice (some ⟨g, 0, none⟩) n c) n (ys.map (.int .i64))) ∧ W.grownBy wx (some g))
  case atStart => exact ⟨0, by omega, rfl, ⟨_, HS.out⟩, ⟨rfl, rfl, rfl, Nat.le_refl _, fun _ _ _ => rfl⟩⟩
  case round =>
    obtain ⟨k, hkg, rfl, ⟨ys, hy⟩, hg⟩ := hrel
    have HKG := hide hkg
    have HY := hide hy
    have HGR := hide hg
    by_cases hk : k < n
    · have hki : (k : Int) < (n : Int) := by omega
      have k0 : (0 : Int) ≤ (k : Int) := by omega
      have hyl : ys.length = n := by have := hy.1; simpa using this
      have c1 := World.ownsRow.cellAt hy k (by omega)
      rw [List.getElem?_map, List.getElem?_eq_getElem (by omega)] at c1
      simp only [Option.map_some] at c1
      obtain ⟨y, hyy⟩ : ∃ z, z = ys[k]'(by omega) := ⟨_, rfl⟩
      rw [← hyy] at c1
      have f1 := World.ownsRow.frozenAt hy k
      clear hkg hy hg hyl hyy c0
      by_cases hgt : gone < y
      · go_wp2_with fail
        go_roundg (gk - 1)
        case measure => have := HKG.out; omega
        case rel => exact ⟨k + 1, by have := HKG.out; omega, by go_num, ⟨ys.set k _, by rw [List.map_set]; exact (World.ownsRow.stored HY.out k _).1⟩, grownBy_trans HGR.out (World.ownsRow.stored HY.out k _).2⟩
      · go_wp2_with fail
        go_roundg (gk - 1)
        case measure => have := HKG.out; omega
        case rel => exact ⟨k + 1, by have := HKG.out; omega, by go_num, ⟨ys, HY.out⟩, HGR.out⟩
    · have hki : ¬ ((k : Int) < (n : Int)) := by omega
      go_wp2_with fail
      go_ret
      exact ⟨rfl, ⟨ys, HY.out⟩, HGR.out⟩
end Go.Proofs.YtlffopdoeobgaaaGreatDoor
end

section
namespace Go.Proofs.YtlffopdoeobgaaaGreatDoor
open Go Go.RowKit
attribute [local go_sem ↓] Go.wp_at_zero Go.wp_at_succ
theorem run_ints0 (n : Nat) (hn : n ≤ 100000) (w : World) (z : Int) (hz : z = (n : Int)) : (Instr.makeSlice 22 (.int .i64 0) (.int .i64 z)).run Tryz.prog w = .ok (.slice (some ⟨w.heap.size, 0, none⟩) 0 n) (w.alloc (.cells (Array.replicate n (Value.int .i64 0)) 3)) := by
  subst hz
  obtain ⟨i0, hi, hz0, hz1, hz2⟩ := info_parts intInfo
  have := run_make (P := Tryz.prog) w 22 3 i0 (.int .i64 0) Tryz.underlying22 hi hz0 .i64 .i64 0 n (Int.le_refl _) (by omega) (by rw [hz2]; omega) (by omega)
  rw [hz1, Nat.mul_one, Int.toNat_natCast, show madeCells (Value.cells (.int .i64 0)) n = (List.replicate n (.int .i64 0)).toArray from made_rep _ _] at this
  exact this
def AdOk : Nat → Nat → List Nat → Prop
  | _, _, [] => True
  | l, m, a :: r => l ≤ a ∧ a ≤ l + m ∧ AdOk (a + 1) (l + m - a) r
theorem AdOk.put {l m a : Nat} {r : List Nat} (h : AdOk l m (a :: r)) (e : a = l) : AdOk (l + 1) m r := by
  have h3 := h.2.2
  rw [e, show l + m - l = m by omega] at h3
  exact h3
theorem AdOk.next {l m a : Nat} {r : List Nat} (h : AdOk l (m + 1) (a :: r)) (e : a ≠ l) : AdOk (l + 1) m (a :: r) := by
  obtain ⟨h1, h2, h3⟩ := h
  refine ⟨by omega, by omega, ?_⟩
  rw [show l + 1 + m - a = l + (m + 1) - a by omega]
  exact h3
theorem AdOk.more {l a : Nat} {r : List Nat} (h : AdOk l 0 (a :: r)) : a = l := by have := h.1; have := h.2.1; omega
set_option maxRecDepth 100000 in
set_option maxHeartbeats 8000000 in
theorem add_any (xs : List Int) (bs : List Nat) (A B : Option Addr) (n q c e0 : Nat) (w : World) (hA : IntsAt w A n xs) (hB : IntsAt w B q (nats bs)) (hn : n ≤ 1000) (hq : q ≤ 1000) (hc : n ≤ c) (he : q ≤ e0) (hok : AdOk 0 n bs) :
    Calls Tryz.prog 63 #[.slice A n c, .slice B q e0] w fun e w' => ∃ (v : Value) (ys : List Int), e = .returned v ∧ w'.ownsRow w.heap.size 3 1 v (n + q) (ys.map (.int .i64)) ∧ Below w.heap.size w w' := by
  have HA := hide hA
  have HB := hide hB
  have HOK := hide hok
  have hmk : ∀ W : World, (Instr.makeSlice 22 (.int .i64 0) (.int .i64 ((n : Int) + (q : Int)))).run Tryz.prog W = .ok (.slice (some ⟨W.heap.size, 0, none⟩) 0 (n + q)) (W.alloc (.cells (Array.replicate (n + q) (Value.int .i64 0)) 3)) := fun W => run_ints0 (n + q) (by omega) W _ (by omega)
  have O0 := hide (show (w.alloc (.cells (Array.replicate (n + q) (Value.int .i64 0)) 3)).ownsRow w.heap.size 3 1 (.slice (some ⟨w.heap.size, 0, none⟩) 0 (n + q)) 0 [] from World.ownsRow_made w _ _ (Nat.le_refl _) (by unfold maxLen; omega) (by simp))
  have B0 := hide (show Below w.heap.size w (w.alloc (.cells (Array.replicate (n + q) (Value.int .i64 0)) 3)) from (Below.refl _ _).alloc (Nat.le_refl _) _)
  clear hA hB hok
  go_enter Tryz.func63, Tryz.ntmps63
  go_wp2_with fail
  go_loopg [0, 1, 5, 6] (n + q) (fun g s0 s1 s5 s6 wx => ∃ (m p l : Nat) (A1 B1 : Option Addr) (c1 e1 : Nat) (x1 : List Int) (a1 : List Nat) (cnt : Int) (ys : List Int), m + p = g ∧ l + m + p = n + q ∧ s0 = .slice A1 m c1 ∧ s1 = .slice B1 p e1 ∧ m ≤ c1 ∧ p ≤ e1 ∧ IntsAt w A1 m x1 ∧ IntsAt w B1 p (nats a1) ∧ AdOk l m a1 ∧ s6 = .int .i64 cnt ∧ wx.ownsRow w.heap.size 3 1 s5 l (ys.map (.int .i64)) ∧ Below w.heap.size w wx)
  case atStart => exact ⟨n, q, 0, A, B, c, e0, xs, bs, _, [], rfl, by omega, rfl, rfl, hc, he, HA.out, HB.out, HOK.out, rfl, O0.out, B0.out⟩
  case round =>
    clear O0 B0
    obtain ⟨m, p, l, A1, B1, c1, e1, x1, a1, cnt, ys, hg, hl, rfl, rfl, hmc, hpe, hA1, hB1, had, rfl, ho, hb⟩ := hrel
    have HG := hide hg
    have HLL := hide hl
    have HA1 := hide hA1
    have HB1 := hide hB1
    have HAD := hide had
    have OW := hide ho
    have HBW := hide hb
    have hbig : w.heap.size ≤ wr.heap.size := HBW.out.size
    have hll : l ≤ 2000 := by omega
    have hpl := HB1.out.len
    unfold nats at hpl
    rw [List.length_map] at hpl
    obtain ⟨A5, c5, rfl⟩ := owns_slice OW.out
    obtain ⟨i0, hi0, hz0, hz1, hz2⟩ := info_parts intInfo
    clear hA1 hB1 had ho hb hg hl
    by_cases hp : 0 < p
    · obtain ⟨a, r, rfl⟩ : ∃ a r, a1 = a :: r := by
        cases a1 with
        | nil => simp at hpl; omega
        | cons a r => exact ⟨a, r, rfl⟩
      obtain ⟨bb, oo, hB1e, x0⟩ := (HB1.out.keep HBW.out).at_ hp
      subst hB1e
      have hx0 : (nats (a :: r)).getD 0 0 = (a : Int) := rfl
      rw [hx0] at x0
      simp only [Nat.add_zero] at x0
      have hpi : (0 : Int) < (p : Int) := by omega
      by_cases hal : a = l
      · subst hal
        obtain ⟨B2, hB2, hcut⟩ := cut_hi (A := some ⟨bb, oo, none⟩) (c := e1) HB1.out (k := 1) (by omega) (by omega)
        have hcut' : ∀ W : World, (Instr.slice 22 (.slice (some ⟨bb, oo, none⟩) p e1) (some (.int .i64 1)) none none).run Tryz.prog W = .ok (.slice B2 (p - 1) (e1 - 1)) W := hcut
        have HB2 := hide (show IntsAt w B2 (p - 1) (nats r) from hB2)
        have OA := hide (own_below OW.out ((Below.refl wr.heap.size wr).alloc (Nat.le_refl _) (.cells #[.int .i64 cnt] 3)))
        have HAD2 := hide (HAD.out.put rfl)
        clear hB2 hcut hx0
        by_cases hm : 0 < m
        · have hmi : (0 : Int) < (m : Int) := by omega
          go_wp2_with (at_builtin; refine wpList_append_lies _ (by rfl) _ _ 22 (by rfl) w.heap.size 3 i0 (.int .i64 0) 1 8 Tryz.underlying22 hi0 hz0 hz1 hz2 rfl (by omega) _ a _ (by rfl) OA.out ⟨wr.heap.size, 0, none⟩ 1 1 [.int .i64 cnt] (by rfl) (by rfl) (one_news _ _) (by simp [Value.oneCell']) (by omega) (by unfold maxLen; omega) (by omega) (by simp; omega) (wr.heap.size + 1) (by simp) ?_; intro g3 c3 w3 own3 grow3 at3 lt3; have OWN3 := hide own3; have GR3 := hide grow3; clear own3 grow3 at3)
          go_roundg (m + (p - 1))
          case measure => have := HG.out; omega
          case rel =>
            refine ⟨m, p - 1, a + 1, A1, B2, c1, e1 - 1, x1, r, _, ys ++ [cnt], rfl, by have := HLL.out; omega, rfl, rfl, hmc, by omega, HA1.out, HB2.out, HAD2.out, rfl, ?_, (HBW.out.alloc hbig _).grown GR3.out (by simp; omega) (fun j hj => (OA.out.lt j hj).1)⟩
            rw [List.map_append]; exact OWN3.out
        · obtain rfl : m = 0 := by omega
          go_wp2_with (at_builtin; refine wpList_append_lies _ (by rfl) _ _ 22 (by rfl) w.heap.size 3 i0 (.int .i64 0) 1 8 Tryz.underlying22 hi0 hz0 hz1 hz2 rfl (by omega) _ a _ (by rfl) OA.out ⟨wr.heap.size, 0, none⟩ 1 1 [.int .i64 cnt] (by rfl) (by rfl) (one_news _ _) (by simp [Value.oneCell']) (by omega) (by unfold maxLen; omega) (by omega) (by simp; omega) (wr.heap.size + 1) (by simp) ?_; intro g3 c3 w3 own3 grow3 at3 lt3; have OWN3 := hide own3; have GR3 := hide grow3; clear own3 grow3 at3)
          go_roundg (0 + (p - 1))
          case measure => have := HG.out; omega
          case rel =>
            refine ⟨0, p - 1, a + 1, A1, B2, c1, e1 - 1, x1, r, _, ys ++ [cnt], rfl, by have := HLL.out; omega, rfl, rfl, hmc, by omega, HA1.out, HB2.out, HAD2.out, rfl, ?_, (HBW.out.alloc hbig _).grown GR3.out (by simp; omega) (fun j hj => (OA.out.lt j hj).1)⟩
            rw [List.map_append]; exact OWN3.out
      · have hm : 0 < m := by
          rcases Nat.eq_zero_or_pos m with h0 | h0
          · exfalso
            have h := HAD.out
            rw [h0] at h
            exact hal h.more
          · exact h0
        have hali : ¬ ((a : Int) = (l : Int)) := by omega
        have halb : ((a : Int) == (l : Int)) = false := by rw [beq_eq_false_iff_ne]; exact hali
        clear hx0
        obtain ⟨b2, o2, hA1e, y0⟩ := (HA1.out.keep HBW.out).at_ hm
        subst hA1e
        obtain ⟨xv, hxv⟩ : ∃ z, z = Pl.pv x1 0 := ⟨_, rfl⟩
        first | rw [← hxv] at y0 | (rw [show x1.getD 0 0 = xv from hxv.symm] at y0)
        obtain ⟨A2, hA2, hcut⟩ := cut_hi (A := some ⟨b2, o2, none⟩) (c := c1) HA1.out (k := 1) (by omega) (by omega)
        have HA2 := hide hA2
        have hmi : (0 : Int) < (m : Int) := by omega
        simp only [Nat.add_zero] at y0
        have hcut' : ∀ W : World, (Instr.slice 22 (.slice (some ⟨b2, o2, none⟩) m c1) (some (.int .i64 1)) none none).run Tryz.prog W = .ok (.slice A2 (m - 1) (c1 - 1)) W := hcut
        have OA := hide (own_below OW.out ((Below.refl wr.heap.size wr).alloc (Nat.le_refl _) (.cells #[.int .i64 xv] 3)))
        clear hA2 hxv hcut
        go_wp2_with (at_builtin; refine wpList_append_lies _ (by rfl) _ _ 22 (by rfl) w.heap.size 3 i0 (.int .i64 0) 1 8 Tryz.underlying22 hi0 hz0 hz1 hz2 rfl (by omega) _ l _ (by rfl) OA.out ⟨wr.heap.size, 0, none⟩ 1 1 [.int .i64 xv] (by rfl) (by rfl) (one_news _ _) (by simp [Value.oneCell']) (by omega) (by unfold maxLen; omega) (by omega) (by simp; omega) (wr.heap.size + 1) (by simp) ?_; intro g3 c3 w3 own3 grow3 at3 lt3; have OWN3 := hide own3; have GR3 := hide grow3; clear own3 grow3 at3)
        go_roundg (m - 1 + p)
        case measure => have := HG.out; omega
        case rel =>
          refine ⟨m - 1, p, l + 1, A2, some ⟨bb, oo, none⟩, c1 - 1, e1, _, (a :: r), cnt, ys ++ [xv], rfl, by have := HLL.out; omega, rfl, rfl, by omega, hpe, HA2.out, HB1.out, ?_, rfl, ?_, (HBW.out.alloc hbig _).grown GR3.out (by simp; omega) (fun j hj => (OA.out.lt j hj).1)⟩
          · obtain ⟨m2, rfl⟩ : ∃ m2, m = m2 + 1 := ⟨m - 1, by omega⟩
            exact HAD.out.next hal
          · rw [List.map_append]; exact OWN3.out
    · obtain rfl : p = 0 := by omega
      by_cases hm : 0 < m
      · have hnil : a1 = [] := List.length_eq_zero_iff.1 (by omega)
        obtain ⟨b2, o2, hA1e, y0⟩ := (HA1.out.keep HBW.out).at_ hm
        subst hA1e
        obtain ⟨xv, hxv⟩ : ∃ z, z = Pl.pv x1 0 := ⟨_, rfl⟩
        first | rw [← hxv] at y0 | (rw [show x1.getD 0 0 = xv from hxv.symm] at y0)
        obtain ⟨A2, hA2, hcut⟩ := cut_hi (A := some ⟨b2, o2, none⟩) (c := c1) HA1.out (k := 1) (by omega) (by omega)
        have HA2 := hide hA2
        have hmi : (0 : Int) < (m : Int) := by omega
        simp only [Nat.add_zero] at y0
        have hcut' : ∀ W : World, (Instr.slice 22 (.slice (some ⟨b2, o2, none⟩) m c1) (some (.int .i64 1)) none none).run Tryz.prog W = .ok (.slice A2 (m - 1) (c1 - 1)) W := hcut
        have OA := hide (own_below OW.out ((Below.refl wr.heap.size wr).alloc (Nat.le_refl _) (.cells #[.int .i64 xv] 3)))
        clear hA2 hxv hcut
        go_wp2_with (at_builtin; refine wpList_append_lies _ (by rfl) _ _ 22 (by rfl) w.heap.size 3 i0 (.int .i64 0) 1 8 Tryz.underlying22 hi0 hz0 hz1 hz2 rfl (by omega) _ l _ (by rfl) OA.out ⟨wr.heap.size, 0, none⟩ 1 1 [.int .i64 xv] (by rfl) (by rfl) (one_news _ _) (by simp [Value.oneCell']) (by omega) (by unfold maxLen; omega) (by omega) (by simp; omega) (wr.heap.size + 1) (by simp) ?_; intro g3 c3 w3 own3 grow3 at3 lt3; have OWN3 := hide own3; have GR3 := hide grow3; clear own3 grow3 at3)
        go_roundg (m - 1 + 0)
        case measure => have := HG.out; omega
        case rel =>
          refine ⟨m - 1, 0, l + 1, A2, B1, c1 - 1, e1, _, a1, cnt, ys ++ [xv], rfl, by have := HLL.out; omega, rfl, rfl, by omega, hpe, HA2.out, HB1.out, ?_, rfl, ?_, (HBW.out.alloc hbig _).grown GR3.out (by simp; omega) (fun j hj => (OA.out.lt j hj).1)⟩
          · rw [hnil]; trivial
          · rw [List.map_append]; exact OWN3.out
      · obtain rfl : m = 0 := by omega
        have hln : l = n + q := by have := HLL.out; omega
        subst hln
        go_wp2_with fail
        go_ret
        exact ⟨_, ys, rfl, OW.out, HBW.out⟩
end Go.Proofs.YtlffopdoeobgaaaGreatDoor
end
