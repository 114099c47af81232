/-
  The texts Np, Nu, Nv, Nw, Nx in one.
-/
import Derived.Test.YtlffopdoeobgaaaGreatDoorT10
import Derived.Test.YtlffopdoeobgaaaGreatDoorT07
import Derived.Test.YtlffopdoeobgaaaGreatDoorRows
import Derived.Deep.Slices
import Derived.Deep.Fields
import Derived.ChangeSame
import Derived.Stop.LaidErr
import Derived.Lib.LaidTab
import Derived.Test.YtlffopdoeobgaaaGreatDoorT12
import Derived.Laws.Strings2
import Derived.Lib.IndexBytes
import Derived.Lib.Split
import Derived.Lib.Join
import Derived.Lib.AtoiAllCases
import Derived.Lib.ItoaNum
set_option linter.unusedVariables false
set_option linter.unusedSimpArgs false

section
namespace Go.Proofs.YtlffopdoeobgaaaGreatDoor
open Go Go.ChangeShapes Go.WideShapes Go.ChangeAt Go.RowKit Go.Deep
theorem star_err : "*" ++ "errors.errorString" = "*errors.errorString" := by decide
theorem row_err (u : TypeId) (h : Tryz.prog.typeName? 3 u = some "*errors.errorString") : u = 196 :=
  typeName_ptr_named (nm := "errors.errorString") (by rw [star_err]; kernel_rfl) (by kernel_rfl) (by decide) u (by rw [star_err]; exact h)
theorem gv_of7 {W : World} {t1 t2 t3 t4 : String × DataW Unit} (hm : ∃ m, W.cell? ⟨0, 0, none⟩ = some (.int .i64 m))
    (hL : laidMet Tryz.prog [t1, t2, ("internal/strconv.uint64pow10", Rows.laid_internal_strconv_uint64pow10), t3, ("strconv.ErrRange", Rows.laid_strconv_ErrRange), ("strconv.ErrSyntax", Rows.laid_strconv_ErrSyntax), t4] W) : GV W := by
  have h3 := hL.tail.tail
  have h4 := h3.tail.tail
  have h5 := h4.tail
  refine ⟨hm, ?_, ?_, ?_⟩
  · exact Lib.tabIs_of_head (g := 3) (t := 200) (e := 182) (n := 20) (by kernel_rfl) (by kernel_rfl) (by kernel_rfl) (by kernel_rfl) (by kernel_rfl) (by kernel_rfl) (rest := _) h3
  · obtain ⟨a1, s1, hv1, -, -, -⟩ := laid_sentinel h5 (g := 1) (ti := 83) (tp := 196) (te := 198) (ts := 9) (by kernel_rfl) (by kernel_rfl) Tryz.underlying83 row_err Tryz.underlying196 Tryz.underlying198 rfl rfl Tryz.underlying9 (by kernel_rfl) (by kernel_rfl)
    exact ⟨_, (by have h0 := World.var?_cell (P := Tryz.prog) (g := 1) (by kernel_rfl) hv1 0; simpa using h0), .inr ⟨_, _, rfl⟩⟩
  · obtain ⟨a1, s1, hv1, -, -, -⟩ := laid_sentinel h4 (g := 2) (ti := 83) (tp := 196) (te := 198) (ts := 9) (by kernel_rfl) (by kernel_rfl) Tryz.underlying83 row_err Tryz.underlying196 Tryz.underlying198 rfl rfl Tryz.underlying9 (by kernel_rfl) (by kernel_rfl)
    exact ⟨_, (by have h0 := World.var?_cell (P := Tryz.prog) (g := 2) (by kernel_rfl) hv1 0; simpa using h0), .inr ⟨_, _, rfl⟩⟩
section
variable {H : Type} {enc : TypeId × Value → H} {P : Program} {w : World} {base : Nat} {spare : Nat → Bool} {held : Bool}
theorem open_slice_mv {t e : TypeId} {fs : Array Field} {fuel : Nat} {cs : List Value} {x : DataW H × List MemPlace} (ht : P.underlying t = some (.slice e)) (he : P.underlying e = some (.struct fs))
    (hone : oneCellFields P fs = true) (hC : P.cellsOf e = fs.size) (h : DataW.trod enc P w base spare held fuel t cs = some x) :
    (cs = [.slice none 0 0] ∧ x = (.nil, [])) ∨
    ∃ (a : Addr) (len cap m : Nat), cs = [.slice (some a) len cap] ∧ base ≤ a.block ∧ len ≤ cap ∧ cap ≤ maxLen ∧ m = (if spare a.block then cap else len) ∧
      ∀ i, i < m → ∃ (ys : List (DataW H × List MemPlace)) (n : Nat), ys.length = fs.size ∧
        ∀ (j : Nat) (f : Field), fs[j]? = some f → ∃ (v : Value) (y : DataW H × List MemPlace), w.cell? (a.add (i * fs.size + j)) = some v ∧ ys[j]? = some y ∧ DataW.trod enc P w base spare held n f.type [v] = some y := by
  rcases open_slice ht h with h0 | ⟨a, len, cap, m, n, D, Q, hcs, hb, hl, hm, hmm, hx, hi⟩
  · exact .inl h0
  · refine .inr ⟨a, len, cap, m, hcs, hb, hl, hm, hmm, fun i him => ?_⟩
    obtain ⟨cs', hc, ht'⟩ := hi i him
    rw [hC] at hc
    obtain ⟨ys, n', hn', hy, hlen, hyl, hf⟩ := DataW.trod_struct he ht'
    obtain ⟨_, hcl, hat⟩ := World.cells?_some hc
    refine ⟨ys, n', hyl, fun j f hj => ?_⟩
    obtain ⟨ho, hk⟩ := hone_of hone j f hj
    have hjl : j < fs.size := (Array.getElem?_eq_some_iff.1 hj).1
    have hcell := hat j hjl
    have hv : cs'[j]? = some (cs'[j]'(by omega)) := List.getElem?_eq_getElem (by omega)
    have h1 := hf j f hj
    rw [ho, hk] at h1
    have hone' : (cs'.drop j).take 1 = [cs'[j]'(by omega)] := by
      rw [List.drop_eq_getElem_cons (by omega)]
      rfl
    rw [hone'] at h1
    have hys : ys[j]? = some (ys[j]'(by omega)) := List.getElem?_eq_getElem (by omega)
    refine ⟨_, _, ?_, hys, h1.trans hys⟩
    rw [← Go.Deep.add_add, hcell, hv]
end
set_option maxRecDepth 100000 in
set_option maxHeartbeats 2000000 in
theorem open_mvs {H : Type} {enc : TypeId × Value → H} {w : World} {base : Nat} {spare : Nat → Bool} {held : Bool} {r : Reach} {b0 : Nat} {v : Value} {d : DataW H} {p : List MemPlace} (hval : Value.okWide Tryz.prog w r b0 25 v) (h : DataW.Trod enc Tryz.prog w base spare held 25 v d p) :
    ∃ (A : Option Addr) (n c : Nat) (ms : List Mv), v = .slice A n c ∧ n ≤ c ∧ c ≤ maxLen ∧ MvsA w A n ms ∧ ∀ m, m ∈ ms → MvIn m := by
  obtain ⟨A, len, cap, rfl⟩ := okWide_slice Tryz.underlying25 hval
  obtain ⟨fuel, hf⟩ := h
  have hf' : DataW.trod enc Tryz.prog w base spare held fuel 25 [.slice A len cap] = some (d, p) := hf
  rcases open_slice_mv Tryz.underlying25 Tryz.underlying36 (by kernel_rfl) (by kernel_rfl) hf' with ⟨h1, _⟩ | ⟨a, len', cap', m, h1, _, hl, hm, hmm, hi⟩
  · obtain ⟨rfl, rfl, rfl⟩ : A = none ∧ len = 0 ∧ cap = 0 := by simpa using h1
    exact ⟨none, 0, 0, [], rfl, Nat.le_refl _, Nat.zero_le _, ⟨rfl, fun h => absurd h (by omega)⟩, fun m hm => by cases hm⟩
  · obtain ⟨rfl, rfl, rfl⟩ : A = some a ∧ len = len' ∧ cap = cap' := by simpa using h1
    have hlm : len ≤ m := by rw [hmm]; split <;> omega
    have key : ∀ i, i < len → ∃ z : Mv, MvIn z ∧ ∀ (j : Nat) (u : Value), z.cells[j]? = some u → w.cell? (a.add (i * 5 + j)) = some u := by
      intro i hil
      obtain ⟨ys, n, hyl, hfld⟩ := hi i (by omega)
      obtain ⟨v0, y0, c0, _, t0⟩ := hfld 0 _ rfl
      obtain ⟨v1, y1, c1, _, t1⟩ := hfld 1 _ rfl
      obtain ⟨v2, y2, c2, _, t2⟩ := hfld 2 _ rfl
      obtain ⟨v3, y3, c3, _, t3⟩ := hfld 3 _ rfl
      obtain ⟨v4, y4, c4, _, t4⟩ := hfld 4 _ rfl
      obtain ⟨k, rfl, _⟩ := int_of_trod t0
      obtain ⟨x, rfl, hx⟩ := int_of_trod t1
      obtain ⟨y, rfl, hy⟩ := int_of_trod t2
      obtain ⟨s, rfl, hs⟩ := int_of_trod t3
      obtain ⟨o, rfl⟩ := bool_of_trod t4
      refine ⟨⟨k, x, y, s, o⟩, ⟨hx, hy, hs⟩, fun j u hu => ?_⟩
      match j, hu with
      | 0, hu => injection hu with hu; subst hu; exact c0
      | 1, hu => injection hu with hu; subst hu; exact c1
      | 2, hu => injection hu with hu; subst hu; exact c2
      | 3, hu => injection hu with hu; subst hu; exact c3
      | 4, hu => injection hu with hu; subst hu; exact c4
      | j + 5, hu => simp [Mv.cells] at hu
    obtain ⟨f, hf⟩ : ∃ f : Nat → Mv, ∀ i, i < len → MvIn (f i) ∧ ∀ (j : Nat) (u : Value), (f i).cells[j]? = some u → w.cell? (a.add (i * 5 + j)) = some u := by
      classical
      refine ⟨fun i => if h : i < len then (key i h).choose else ⟨0, 0, 0, 0, false⟩, fun i hi => ?_⟩
      simp only [dif_pos hi]
      exact (key i hi).choose_spec
    refine ⟨some a, len, cap, (List.range len).map f, rfl, hl, hm, ⟨by simp, fun hp => ?_⟩, fun z hz => ?_⟩
    · obtain ⟨b, o, rfl⟩ := addr_formM (v := .int .i64 (f 0).kind) (by have := (hf 0 hp).2 0 _ rfl; simpa using this)
      refine ⟨b, o, rfl, fun j z hz i u hu => ?_⟩
      rw [List.getElem?_map] at hz
      obtain ⟨k, hk, rfl⟩ := Option.map_eq_some_iff.1 hz
      have hjl := (List.getElem?_eq_some_iff.1 hk)
      obtain ⟨hj, hjk⟩ := hjl
      rw [List.getElem_range] at hjk
      subst hjk
      have h := (hf j (by simpa using hj)).2 i u hu
      rw [Addr.add_lit] at h
      rw [show o + j * 5 + i = o + (j * 5 + i) by omega]
      exact h
    · obtain ⟨i, hi, rfl⟩ := List.mem_map.1 hz
      exact (hf i (List.mem_range.1 hi)).1
end Go.Proofs.YtlffopdoeobgaaaGreatDoor
end

section
namespace Go.Proofs.YtlffopdoeobgaaaGreatDoor
open Go Go.RowKit
attribute [local go_sem ↓] Go.wp_at_zero Go.wp_at_succ
theorem ba_ext {a b : ByteArray} (h : a.data.toList = b.data.toList) : a = b := by
  cases a; cases b
  simp only [ByteArray.mk.injEq]
  exact Array.toList_inj.1 h
theorem mparse_inr (s : ByteArray) (hs : s.size ≤ 65536) (w : World) (hg : GV w) {ms : List Mv} (h : Pl.pvA rdT s.data.toList 1 [] = .inr ms) :
    Calls Tryz.prog 21 #[.string s] w fun e w' => ∃ (A : Option Addr) (c : Nat), e = .returned (.tuple #[.slice A ms.length c, .int .i64 0, .int .i64 0]) ∧ MvsA w' A ms.length ms ∧ Below w.heap.size w w' := by
  refine (mparse_any s hs w hg).mono ?_
  rintro e w' ⟨_, hp, hb⟩
  obtain ⟨v, he, ho⟩ := hp _ h
  obtain ⟨A, c, rfl⟩ := owns_slice ho
  exact ⟨A, c, he, (movesV_own ho rfl).a, hb⟩
theorem mparse_inl (s : ByteArray) (hs : s.size ≤ 65536) (w : World) (hg : GV w) {i : Nat} {b : Bool} (h : Pl.pvA rdT s.data.toList 1 [] = .inl (i, b)) :
    Calls Tryz.prog 21 #[.string s] w fun e w' => e = .returned (.tuple #[.slice none 0 0, .int .i64 (i : Int), .int .i64 (if b = true then 4 else 3)]) ∧ Below w.heap.size w w' := by
  refine (mparse_any s hs w hg).mono ?_
  rintro e w' ⟨hp, _, hb⟩
  exact ⟨hp _ _ h, hb⟩
end Go.Proofs.YtlffopdoeobgaaaGreatDoor
end

section
namespace Go.Proofs.YtlffopdoeobgaaaGreatDoor
open Go
theorem dig_nat {k : Nat} (h : k < 10) : (UInt8.ofNat (48 + k)).toNat = 48 + k := by
  rw [UInt8.toNat_ofNat']
  omega
theorem decDigits_all : ∀ (u : Nat) (c : UInt8), c ∈ Lib.decDigits u → 48 ≤ c.toNat ∧ c.toNat ≤ 57 := by
  intro u
  induction u using Nat.strongRecOn with
  | ind u ih =>
    intro c hc
    rw [Lib.decDigits] at hc
    split at hc
    · rename_i h
      rw [List.mem_singleton] at hc
      rw [hc, dig_nat h]
      omega
    · rename_i h
      rw [List.mem_append, List.mem_singleton] at hc
      rcases hc with hc | hc
      · exact ih _ (by omega) c hc
      · rw [hc, dig_nat (Nat.mod_lt _ (by omega))]
        have := Nat.mod_lt u (show 0 < 10 by omega)
        omega
theorem decDigits_ne (u : Nat) : Lib.decDigits u ≠ [] := by
  rw [Lib.decDigits]
  split <;> simp
theorem parse_dec : ∀ (u : Nat), u < 18446744073709551616 → ∀ r, Lib.parseUint10 0 (Lib.decDigits u ++ r) = Lib.parseUint10 u r := by
  intro u
  induction u using Nat.strongRecOn with
  | ind u ih =>
    intro hu r
    rw [Lib.decDigits]
    split
    · rename_i h
      rw [List.singleton_append, Lib.parseUint10, dig_nat h, if_pos (by omega), if_neg (by omega), if_neg (by omega)]
      congr 1
      omega
    · rename_i h
      have hm := Nat.mod_lt u (show 0 < 10 by omega)
      rw [List.append_assoc, ih _ (by omega) (by omega), List.singleton_append, Lib.parseUint10, dig_nat hm, if_pos (by omega), if_neg (by omega), if_neg (by omega)]
      congr 1
      omega
theorem parseMag_dec (u : Nat) (hu : u < 18446744073709551616) : Lib.parseMag (Lib.decDigits u) = .ok u := by
  unfold Lib.parseMag
  rw [if_neg (decDigits_ne u)]
  have := parse_dec u hu []
  rw [List.append_nil] at this
  rw [this, Lib.parseUint10]
theorem atoi_itoa (v : Int) (h0 : -9223372036854775808 ≤ v) (h1 : v ≤ 9223372036854775807) : Lib.atoiAll (Lib.itoa v) = .ok v := by
  unfold Lib.itoa
  split
  · rename_i h
    rw [Lib.atoiAll_minus, parseMag_dec _ (by omega)]
    unfold Lib.signed
    simp only
    rw [if_neg (by omega)]
    congr 1
    omega
  · rename_i h
    obtain ⟨c, r, hc⟩ := List.exists_cons_of_ne_nil (decDigits_ne v.toNat)
    have hb := decDigits_all v.toNat c (by rw [hc]; simp)
    have hp := parseMag_dec v.toNat (by omega)
    rw [hc] at hp ⊢
    rw [Lib.atoiAll_plain c r (by omega) (by omega), hp]
    unfold Lib.signless
    simp only
    rw [if_neg (by omega)]
    congr 1
    omega
theorem itoa_mem {v : Int} {c : UInt8} (h : c ∈ Lib.itoa v) : c = 45 ∨ (48 ≤ c.toNat ∧ c.toNat ≤ 57) := by
  unfold Lib.itoa at h
  split at h
  · rw [List.mem_cons] at h
    exact h.imp id (decDigits_all _ _)
  · exact .inr (decDigits_all _ _ h)
theorem itoa_no {v : Int} {c : UInt8} (h : c.toNat < 45) : c ∉ Lib.itoa v := fun hm => by
  rcases itoa_mem hm with e | e
  · subst e; simp at h
  · omega
theorem idx_no (c : UInt8) : ∀ (x : List UInt8), c ∉ x → Lib.indexByte x c = -1
  | [], _ => rfl
  | d :: x, h => by
    simp only [List.mem_cons, not_or] at h
    have ih := idx_no c x h.2
    unfold Lib.indexByte
    rw [if_neg (by simpa using fun e => h.1 (by rw [e])), ih]
    rfl
theorem idx_app (c : UInt8) : ∀ (x r : List UInt8), c ∉ x → Lib.indexByte (x ++ c :: r) c = x.length
  | [], r, _ => by simp [Lib.indexByte]
  | d :: x, r, h => by
    simp only [List.mem_cons, not_or] at h
    have ih := idx_app c x r h.2
    rw [List.cons_append]
    unfold Lib.indexByte
    rw [if_neg (by simpa using fun e => h.1 (by rw [e])), ih]
    simp only [List.length_cons]
    first | (simp; done) | (split <;> omega) | omega
theorem split_join : ∀ (ws : List (List UInt8)) (x : List UInt8), (∀ y, y ∈ x :: ws → (32 : UInt8) ∉ y) → Lib.splitK [32] 0 (Lib.count (Lib.join (x :: ws) [32]) [32]) (Lib.join (x :: ws) [32]) = x :: ws
  | [], x, h => by
    have hx := h x (by simp)
    have hi : Lib.index x [32] = -1 := by rw [Lib.index_one, idx_no 32 x hx]
    rw [Lib.join_one, Lib.count_miss hi]
    rfl
  | y :: ws, x, h => by
    have hx := h x (by simp)
    have ih := split_join ws y (fun z hz => h z (List.mem_cons_of_mem _ hz))
    have e : Lib.join (x :: y :: ws) [32] = x ++ 32 :: Lib.join (y :: ws) [32] := by
      rw [Lib.join_cons, Lib.join_cons]
      unfold Lib.joinTail
      simp
    rw [e]
    have hi : Lib.index (x ++ 32 :: Lib.join (y :: ws) [32]) [32] = (x.length : Int) := by rw [Lib.index_one, idx_app 32 x _ hx]
    have hd : (x ++ 32 :: Lib.join (y :: ws) [32]).drop (x.length + 1) = Lib.join (y :: ws) [32] := by
      rw [← List.drop_drop, List.drop_left' rfl]; rfl
    rw [Lib.count_hit (by simp) hi, Nat.add_comm 1]
    unfold Lib.splitK
    rw [hi, if_neg (fun e => by have := beq_iff_eq.1 e; omega)]
    simp only [Int.toNat_natCast, Nat.add_zero, List.length_singleton]
    rw [hd, List.take_left' rfl, ih]
end Go.Proofs.YtlffopdoeobgaaaGreatDoor
end

section
namespace Go.Proofs.YtlffopdoeobgaaaGreatDoor
open Go Go.RowKit
attribute [local go_sem ↓] Go.wp_at_zero Go.wp_at_succ
theorem numV_itoa (v : Int) (h0 : -9223372036854775808 ≤ v) (h1 : v ≤ 9223372036854775807) : numV (Lib.itoa v) = v := by
  unfold numV
  rw [atoi_itoa v h0 h1]
theorem numK_itoa (v : Int) (h0 : -9223372036854775808 ≤ v) (h1 : v ≤ 9223372036854775807) : numK (Lib.itoa v) = true := by
  unfold numK
  rw [atoi_itoa v h0 h1]
theorem itB_data (v : Int) : (itB v).data.toList = Lib.itoa v := by unfold itB; simp
theorem wsR_join (x : ByteArray) (ws : List ByteArray) (h : ∀ y, y ∈ x :: ws → (32 : UInt8) ∉ y.data.toList) : wsR ⟨(Lib.join ((x :: ws).map (·.data.toList)) [32]).toArray⟩ = x :: ws := by
  have key : (wsR ⟨(Lib.join ((x :: ws).map (·.data.toList)) [32]).toArray⟩).map (·.data.toList) = (x :: ws).map (·.data.toList) := by
    unfold wsR
    rw [Lib.splitB_data]
    have := split_join (ws.map (·.data.toList)) x.data.toList (fun y hy => by
      rw [← List.map_cons (f := fun z : ByteArray => z.data.toList)] at hy
      obtain ⟨z, hz, rfl⟩ := List.mem_map.1 hy
      exact h z hz)
    rw [List.map_cons]
    exact this
  exact (List.map_inj_right (fun a b e => ba_ext e)).1 key
theorem kind_of {m : Mv} (h : lnB m = true) : (m.kind = 1 ∧ m.y = 0) ∨ (m.kind = 2 ∧ m.y = 0 ∧ m.sign = 0 ∧ m.over = false) ∨ m.kind = 3 ∨ (m.kind = 4 ∧ m.sign = 0 ∧ m.over = false) ∨ (m.kind = 5 ∧ m.y = 0 ∧ m.sign = 0 ∧ m.over = false) := by
  unfold lnB at h
  split at h
  · rename_i e; exact .inl ⟨e, by simpa using h⟩
  · split at h
    · rename_i e; exact .inr (.inl ⟨e, by simpa [and_assoc] using h⟩)
    · split at h
      · rename_i e; exact .inr (.inr (.inl e))
      · split at h
        · rename_i e; exact .inr (.inr (.inr (.inl ⟨e, by simpa using h⟩)))
        · split at h
          · rename_i e; exact .inr (.inr (.inr (.inr ⟨e, by simpa [and_assoc] using h⟩)))
          · cases h
theorem lnW_no {m : Mv} {c : UInt8} (h1 : c.toNat < 45) : ∀ y, y ∈ lnW m → c ∉ y.data.toList := by
  have a : ∀ v, c ∉ (itB v).data.toList := fun v => by rw [itB_data]; exact itoa_no h1
  have b : c ∉ (sdB m.over).data.toList := by
    cases m.over <;> (intro hm; simp [sdB] at hm; rcases hm with rfl | rfl | rfl | rfl | rfl <;> simp at h1)
  have k : ∀ l : List UInt8, (∀ d, d ∈ l → 45 ≤ d.toNat) → c ∉ l := fun l hl hc => by have := hl c hc; omega
  intro y hy
  unfold lnW at hy
  split at hy
  · simp only [List.mem_cons, List.not_mem_nil, or_false] at hy
    rcases hy with rfl | rfl | rfl | rfl
    · exact k _ (by decide)
    · exact a _
    · exact a _
    · exact b
  · split at hy
    · simp only [List.mem_cons, List.not_mem_nil, or_false] at hy
      rcases hy with rfl | rfl
      · exact k _ (by decide)
      · exact a _
    · split at hy
      · simp only [List.mem_cons, List.not_mem_nil, or_false] at hy
        rcases hy with rfl | rfl | rfl | rfl | rfl
        · exact k _ (by decide)
        · exact a _
        · exact a _
        · exact a _
        · exact b
      · split at hy
        · simp only [List.mem_cons, List.not_mem_nil, or_false] at hy
          rcases hy with rfl | rfl | rfl
          · exact k _ (by decide)
          · exact a _
          · exact a _
        · split at hy
          · simp only [List.mem_cons, List.not_mem_nil, or_false] at hy
            rcases hy with rfl | rfl
            · exact k _ (by decide)
            · exact a _
          · cases hy
theorem lnW_cons {m : Mv} (h : lnB m = true) : ∃ x ws, lnW m = x :: ws ∧ ∃ c r, x.data.toList = c :: r ∧ c ≠ 63 := by
  rcases kind_of h with ⟨e, _⟩ | ⟨e, _⟩ | e | ⟨e, _⟩ | ⟨e, _⟩
  · exact ⟨_, _, by unfold lnW; rw [if_pos e], _, _, rfl, by decide⟩
  · exact ⟨_, _, by unfold lnW; rw [if_neg (by omega), if_pos e], _, _, rfl, by decide⟩
  · exact ⟨_, _, by unfold lnW; rw [if_neg (by omega), if_neg (by omega), if_pos e], _, _, rfl, by decide⟩
  · exact ⟨_, _, by unfold lnW; rw [if_neg (by omega), if_neg (by omega), if_neg (by omega), if_pos e], _, _, rfl, by decide⟩
  · exact ⟨_, _, by unfold lnW; rw [if_neg (by omega), if_neg (by omega), if_neg (by omega), if_neg (by omega), if_pos e], _, _, rfl, by decide⟩
theorem wsR_line {m : Mv} (h : lnB m = true) : wsR (lnT m) = lnW m := by
  obtain ⟨x, ws, e, _⟩ := lnW_cons h
  unfold lnT
  rw [e]
  exact wsR_join x ws (by rw [← e]; exact lnW_no (by decide))
theorem rd_line {m : Mv} (hb : lnB m = true) (hi : MvIn m) : rdT (lnF m) = some m := by
  have hw := wsR_line hb
  have key : rdK (lnW m) = true ∧ rdM (lnW m) = m := by
    obtain ⟨⟨x0, x1⟩, ⟨y0, y1⟩, ⟨s0, s1⟩⟩ := hi
    have nx : ∀ v, -9223372036854775808 ≤ v → v ≤ 9223372036854775807 → numV (itB v).data.toList = v ∧ numK (itB v).data.toList = true := fun v h0 h1 => by
      rw [itB_data]; exact ⟨numV_itoa v h0 h1, numK_itoa v h0 h1⟩
    have ax := nx _ x0 x1
    have ay := nx _ y0 y1
    have az := nx _ s0 s1
    have so : ∀ o, decide (sdB o = ⟨#[111, 118, 101, 114]⟩) = o := by decide
    obtain ⟨k, x, y, s, o⟩ := m
    rcases kind_of hb with ⟨e, e2⟩ | ⟨e, e2, e3, e4⟩ | e | ⟨e, e3, e4⟩ | ⟨e, e2, e3, e4⟩ <;> simp only at e <;> subst e
    · simp only at e2
      subst e2
      simp [lnW, rdK, rdM, wd, nk, nv, ax, az, so]
    · simp only at e2 e3 e4
      subst e2 e3 e4
      simp [lnW, rdK, rdM, wd, nk, nv, ax]
    · simp [lnW, rdK, rdM, wd, nk, nv, ax, ay, az, so]
    · simp only at e3 e4
      subst e3 e4
      simp [lnW, rdK, rdM, wd, nk, nv, ax, ay]
    · simp only at e2 e3 e4
      subst e2 e3 e4
      simp [lnW, rdK, rdM, wd, nk, nv, ax]
  have hr : rdB (lnT m) = true := by
    unfold rdB
    rw [hw, key.1, key.2]
    simp
  have := rdT_some hr
  rw [hw, key.2] at this
  unfold lnF
  rw [if_pos hb]
  exact this
theorem join_no {c : UInt8} (h : c ≠ 32) : ∀ (x : List UInt8) (ws : List (List UInt8)), (∀ y, y ∈ x :: ws → c ∉ y) → c ∉ Lib.join (x :: ws) [32]
  | x, [], hx => by rw [Lib.join_one]; exact hx x (by simp)
  | x, y :: ws, hx => by
    have ih := join_no h y ws (fun z hz => hx z (List.mem_cons_of_mem _ hz))
    have e : Lib.join (x :: y :: ws) [32] = x ++ 32 :: Lib.join (y :: ws) [32] := by
      rw [Lib.join_cons, Lib.join_cons]
      unfold Lib.joinTail
      simp
    rw [e]
    simp only [List.mem_append, List.mem_cons, not_or]
    exact ⟨hx x (by simp), h, ih⟩
theorem lnF_nl (m : Mv) : (10 : UInt8) ∉ lnF m := by
  unfold lnF
  split
  · rename_i h
    obtain ⟨x, ws, e, _⟩ := lnW_cons h
    unfold lnT
    rw [e, List.map_cons]
    refine join_no (by decide) _ _ (fun y hy => ?_)
    rw [← List.map_cons (f := fun z : ByteArray => z.data.toList)] at hy
    obtain ⟨z, hz, rfl⟩ := List.mem_map.1 hy
    exact lnW_no (m := m) (by decide) z (by rw [e]; exact hz)
  · decide
theorem lnF_bad {m : Mv} : lnF m = [63] ↔ lnB m = false := by
  constructor
  · intro h
    cases hb : lnB m with
    | false => rfl
    | true =>
      obtain ⟨x, ws, e, c, r, e2, hc⟩ := lnW_cons hb
      unfold lnF at h
      rw [if_pos hb] at h
      unfold lnT at h
      rw [e, List.map_cons, Lib.join_cons, e2] at h
      simp only [List.toList_toArray, List.cons_append, List.cons.injEq] at h
      exact absurd h.1 hc
  · intro h
    unfold lnF
    rw [h]; rfl
theorem rd_qm : rdT [63] = none := by kernel_rfl
theorem dig_cut : ∀ r : Fin 10, (⟨#[48, 49, 50, 51, 52, 53, 54, 55, 56, 57]⟩ : ByteArray).extract r.val (r.val + 1) = ⟨#[UInt8.ofNat (48 + r.val)]⟩ := by decide +kernel
theorem dig_run (r : Nat) (h : r < 10) (W : World) : (Instr.slice 9 (.string ⟨#[48, 49, 50, 51, 52, 53, 54, 55, 56, 57]⟩) (some (.int .i64 (r : Int))) (some (.int .i64 ((r : Int) + 1))) none).run Tryz.prog W = .ok (.string ⟨#[UInt8.ofNat (48 + r)]⟩) W := by
  have hs : (⟨#[48, 49, 50, 51, 52, 53, 54, 55, 56, 57]⟩ : ByteArray).size = 10 := rfl
  rw [run_slice_string W 9 _ .i64 .i64 (r : Int) ((r : Int) + 1) Tryz.underlying9 (by omega) (by omega) (by rw [hs]; omega)]
  have e1 : ((r : Int) + 1).toNat = r + 1 := by omega
  have e2 := dig_cut ⟨r, h⟩
  simp only at e2
  rw [e1, Int.toNat_natCast, e2]
theorem sz_mk (l : List UInt8) : (⟨l.toArray⟩ : ByteArray).size = l.length := by simp [ByteArray.size]
theorem add_small (a b : ByteArray) (h : a.size + b.size ≤ 100000) (W : World) : (Op.stringOp .add a b).run Tryz.prog W = .ok (.string (a ++ b)) W := run_string_add_sum (P := Tryz.prog) W a b (by omega)
theorem dec_len {u : Nat} (h : u < 9223372036854775808) : (Lib.decDigits u).length ≤ 30 := by
  have h1 := Lib.itoa_length_le (u : Int) (by omega) (by omega)
  unfold Lib.itoa at h1
  rw [if_neg (by omega), Int.toNat_natCast] at h1
  omega
set_option maxRecDepth 100000 in
set_option maxHeartbeats 2000000 in
theorem dec_nat : ∀ (u : Nat), u < 9223372036854775808 → ∀ (w : World), Calls Tryz.prog 57 #[.int .i64 (u : Int)] w fun e w' => e = .returned (.string ⟨(Lib.decDigits u).toArray⟩) ∧ w = w' := by
  intro u
  induction u using Nat.strongRecOn with
  | ind u ih =>
    intro hu w
    have hneg : ¬ ((u : Int) < 0) := by omega
    obtain ⟨r, hr⟩ : ∃ r, r = u % 10 := ⟨_, rfl⟩
    obtain ⟨q, hq⟩ : ∃ q, q = u / 10 := ⟨_, rfl⟩
    have hr10 : r < 10 := by omega
    have hr0 : (0 : Int) ≤ (r : Int) := by omega
    have hrem : (u : Int).tmod 10 = (r : Int) := by rw [hr]; rfl
    have hquo : (u : Int).tdiv 10 = (q : Int) := by rw [hq]; rfl
    have hslice := fun W => dig_run r hr10 W
    by_cases h : u < 10
    · have hi : (u : Int) < 10 := by omega
      have hd : Lib.decDigits u = [UInt8.ofNat (48 + r)] := by rw [Lib.decDigits, dif_pos h, hr, Nat.mod_eq_of_lt h]
      rw [hd]
      obtain ⟨c, hc⟩ : ∃ c, c = UInt8.ofNat (48 + r) := ⟨_, rfl⟩
      rw [← hc] at hslice ⊢
      clear hd ih hr hq hc hquo
      go_enter Tryz.func57, Tryz.ntmps57
      go_wp2
      go_ret
      exact ⟨rfl, rfl⟩
    · have hi : ¬ ((u : Int) < 10) := by omega
      have hd : Lib.decDigits u = Lib.decDigits q ++ [UInt8.ofNat (48 + r)] := by rw [Lib.decDigits, dif_neg h, hr, hq]
      have IH := hide (ih q (by omega) (by omega))
      have hql := dec_len (u := q) (by omega)
      rw [hd]
      obtain ⟨c, hc⟩ : ∃ c, c = UInt8.ofNat (48 + r) := ⟨_, rfl⟩
      rw [← hc] at hslice ⊢
      have HE := hide (show (⟨(Lib.decDigits q).toArray⟩ : ByteArray) ++ ⟨#[c]⟩ = ⟨(Lib.decDigits q ++ [c]).toArray⟩ from ba_ext (by rw [ByteArray.data_append]; simp))
      have hadd := fun W => add_small ⟨(Lib.decDigits q).toArray⟩ ⟨#[c]⟩ (by simp only [sz_mk, List.length_cons, List.length_nil]; omega) W
      obtain ⟨x, hx⟩ : ∃ x : ByteArray, x = ⟨(Lib.decDigits q).toArray⟩ := ⟨_, rfl⟩
      rw [← hx] at HE IH hadd
      have hq2 : q < 9223372036854775808 := by omega
      clear hd ih hr hq hc hx hql
      go_enter Tryz.func57, Tryz.ntmps57
      go_wp2_with fail
      refine (IH.out _).mono ?_
      rintro e w' ⟨rfl, rfl⟩
      go_wp2
      go_ret
      exact ⟨by rw [HE.out]; rfl, rfl⟩
set_option maxRecDepth 100000 in
theorem dec_neg (n : Nat) (h0 : 0 < n) (hn : n < 9223372036854775808) (w : World) : Calls Tryz.prog 57 #[.int .i64 (-(n : Int))] w fun e w' => e = .returned (.string ⟨(45 :: Lib.decDigits n).toArray⟩) ∧ w = w' := by
  have hneg : -(n : Int) < 0 := by omega
  have IH := hide (dec_nat n hn)
  have hql := dec_len hn
  have HE := hide (show (⟨#[45]⟩ : ByteArray) ++ ⟨(Lib.decDigits n).toArray⟩ = ⟨(45 :: Lib.decDigits n).toArray⟩ from ba_ext (by rw [ByteArray.data_append]; simp))
  have hadd := fun W => add_small ⟨#[45]⟩ ⟨(Lib.decDigits n).toArray⟩ (by simp only [sz_mk, List.length_cons, List.length_nil]; omega) W
  obtain ⟨x, hx⟩ : ∃ x : ByteArray, x = ⟨(Lib.decDigits n).toArray⟩ := ⟨_, rfl⟩
  rw [← hx] at HE IH hadd
  clear hx hql
  go_enter Tryz.func57, Tryz.ntmps57
  go_wp2_with fail
  refine (IH.out _).mono ?_
  rintro e w' ⟨rfl, rfl⟩
  go_wp2
  go_ret
  exact ⟨by rw [HE.out]; rfl, rfl⟩
theorem dec_any (v : Int) (h : -1152921504606846976 ≤ v ∧ v ≤ 1152921504606846976) (w : World) : Calls Tryz.prog 57 #[.int .i64 v] w fun e w' => e = .returned (.string (itB v)) ∧ w = w' := by
  unfold itB Lib.itoa
  split
  · rename_i hv
    obtain ⟨n, rfl⟩ : ∃ n : Nat, v = -(n : Int) := ⟨v.natAbs, by omega⟩
    rw [Int.natAbs_neg, Int.natAbs_natCast]
    exact dec_neg n (by omega) (by omega) w
  · rename_i hv
    obtain ⟨n, rfl⟩ : ∃ n : Nat, v = (n : Int) := ⟨v.toNat, by omega⟩
    rw [Int.toNat_natCast]
    exact dec_nat n (by omega) w
def sdS (o : Bool) : ByteArray := if o then ⟨#[32, 111, 118, 101, 114]⟩ else ⟨#[32, 117, 110, 100, 101, 114]⟩
theorem sdS_eq (o : Bool) : (sdS o).data.toList = 32 :: (sdB o).data.toList := by cases o <;> rfl
theorem sdS_sz (o : Bool) : (sdS o).size ≤ 10 := by cases o <;> decide
theorem side_any (o : Bool) (w : World) : Calls Tryz.prog 58 #[.bool o] w fun e w' => e = .returned (.string (sdS o)) ∧ w = w' := by
  cases o
  · go_enter Tryz.func58, Tryz.ntmps58
    go_wp2
    go_ret
    exact ⟨rfl, rfl⟩
  · go_enter Tryz.func58, Tryz.ntmps58
    go_wp2
    go_ret
    exact ⟨rfl, rfl⟩
end Go.Proofs.YtlffopdoeobgaaaGreatDoor
end

section
namespace Go.Proofs.YtlffopdoeobgaaaGreatDoor
open Go Go.RowKit
attribute [local go_sem ↓] Go.wp_at_zero Go.wp_at_succ
def BigV (v : Int) : Prop := 1152921504606846976 < v ∨ v < -1152921504606846976
def Big (m : Mv) : Prop := BigV m.x ∨ BigV m.y ∨ BigV m.sign
theorem small_in {m : Mv} (h : ¬ Big m) : (-1152921504606846976 ≤ m.x ∧ m.x ≤ 1152921504606846976) ∧ (-1152921504606846976 ≤ m.y ∧ m.y ≤ 1152921504606846976) ∧ (-1152921504606846976 ≤ m.sign ∧ m.sign ≤ 1152921504606846976) := by
  unfold Big BigV at h
  omega
theorem itB_sz {v : Int} (h : -1152921504606846976 ≤ v ∧ v ≤ 1152921504606846976) : (itB v).size ≤ 30 := by
  have := itB_len v (by omega) (by omega)
  rw [Array.length_toList] at this
  exact this
theorem cat_sz (a b : ByteArray) : (a ++ b).size = a.size + b.size := by simp
set_option maxRecDepth 100000 in
set_option maxHeartbeats 4000000 in
theorem rline_any (m : Mv) (hm : ¬ Big m) (w : World) :
    Calls Tryz.prog 29 #[.agg #[.int .i64 m.kind, .int .i64 m.x, .int .i64 m.y, .int .i64 m.sign, .bool m.over]] w fun e w' => e = .returned (.string ⟨(lnF m).toArray⟩) ∧ Below w.heap.size w w' := by
  obtain ⟨⟨x0, x1⟩, ⟨y0, y1⟩, ⟨s0, s1⟩⟩ := small_in hm
  have zx := itB_sz ⟨x0, x1⟩
  have zy := itB_sz ⟨y0, y1⟩
  have zs := itB_sz ⟨s0, s1⟩
  have zo := sdS_sz m.over
  have HZ := And.intro zx (And.intro zy (And.intro zs zo))
  clear hm zx zy zs zo
  obtain ⟨k, x, y, s, o⟩ := m
  simp only at x0 x1 y0 y1 s0 s1 HZ ⊢
  have X0 := hide (row_at (W := w) (g := w.heap.size) (t := 36) (vs := [.int .i64 k, .int .i64 x, .int .i64 y, .int .i64 s, .bool o]) rfl)
  obtain ⟨W0, hW0⟩ : ∃ W, W = w.alloc (.cells #[.int .i64 k, .int .i64 x, .int .i64 y, .int .i64 s, .bool o] 36) := ⟨_, rfl⟩
  have B0 := hide (show Below w.heap.size w W0 by rw [hW0]; exact (Below.refl _ _).alloc (Nat.le_refl _) _)
  rw [← hW0] at X0
  go_enter Tryz.func29, Tryz.ntmps29
  go_upto_region 1 with fail
  rw [← hW0]
  clear hW0
  have HD := hide (fun (p : Cls (fun W => Below W0.heap.size W0 W)) (v : Int) (h0 : -1152921504606846976 ≤ v) (h1 : v ≤ 1152921504606846976) => calls_cls (C := (fun W => Below W0.heap.size W0 W)) (dec_any v ⟨h0, h1⟩ p.w) (fun e w' h => ⟨h.1, by rw [← h.2]; exact p.ok⟩))
  have c1 : ∀ p : Cls (fun W => Below W0.heap.size W0 W), p.w.cell? ⟨w.heap.size, 1, none⟩ = some (.int .i64 x) := fun p => (X0.out.below p.ok).cell (i := 1) (by show 1 < 5; omega)
  have c2 : ∀ p : Cls (fun W => Below W0.heap.size W0 W), p.w.cell? ⟨w.heap.size, 2, none⟩ = some (.int .i64 y) := fun p => (X0.out.below p.ok).cell (i := 2) (by show 2 < 5; omega)
  have c3 : ∀ p : Cls (fun W => Below W0.heap.size W0 W), p.w.cell? ⟨w.heap.size, 3, none⟩ = some (.int .i64 s) := fun p => (X0.out.below p.ok).cell (i := 3) (by show 3 < 5; omega)
  refine wp_region_cls (fun W => Below W0.heap.size W0 W) (by kernel_rfl) (by kernel_rfl) (Below.refl W0.heap.size W0).drew (fun hne => ?_)
  repeat (go_big_quiet_step (((go_at_call 57; exact HD.out _ _ (by assumption) (by assumption)))))
  refine wpQuiet_nil ?_
  rintro _ ⟨p, rfl⟩
  have X1 := hide (X0.out.below p.ok)
  have B1 := hide (B0.out.trans (p.ok.mono B0.out.size))
  obtain ⟨W1, hW1⟩ : ∃ W, W = p.w := ⟨_, rfl⟩
  rw [← hW1] at X1 B1 ⊢
  clear HD c1 c2 c3 hW1 X0 B0
  obtain ⟨e0, e1, e2, e3, e4, e5⟩ := box5 X1.out
  obtain ⟨bx, hbx⟩ : ∃ b, b = itB x := ⟨_, rfl⟩
  obtain ⟨by', hby⟩ : ∃ b, b = itB y := ⟨_, rfl⟩
  obtain ⟨bs, hbs⟩ : ∃ b, b = itB s := ⟨_, rfl⟩
  obtain ⟨bo, hbo⟩ : ∃ b, b = sdS o := ⟨_, rfl⟩
  have HX := hide (show bx.data.toList = Lib.itoa x by rw [hbx]; exact itB_data x)
  have HY := hide (show by'.data.toList = Lib.itoa y by rw [hby]; exact itB_data y)
  have HS := hide (show bs.data.toList = Lib.itoa s by rw [hbs]; exact itB_data s)
  have HO := hide (show bo.data.toList = 32 :: (sdB o).data.toList by rw [hbo]; exact sdS_eq o)
  rw [← hbx, ← hby, ← hbs, ← hbo] at HZ
  have HSD := hide (show ∀ W : World, Calls Tryz.prog 58 #[.bool o] W fun e w' => e = .returned (.string bo) ∧ W = w' by rw [hbo]; exact side_any o)
  first | rw [← hbx, ← hby, ← hbs] | skip
  obtain ⟨zx, zy, zs, zo⟩ := HZ
  clear hbx hby hbs hbo
  by_cases k1 : k = 1
  · subst k1
    by_cases hy : y = 0
    · subst hy
      have a1 := fun W => add_small (⟨#[99, 117, 114, 108, 32]⟩ : ByteArray) bx (by simp only [cat_sz, sz_mk, List.length_cons, List.length_nil]; omega) W
      have a2 := fun W => add_small ((⟨#[99, 117, 114, 108, 32]⟩ : ByteArray) ++ bx) (⟨#[32]⟩ : ByteArray) (by simp only [cat_sz, sz_mk, List.length_cons, List.length_nil]; omega) W
      have a3 := fun W => add_small (((⟨#[99, 117, 114, 108, 32]⟩ : ByteArray) ++ bx) ++ (⟨#[32]⟩ : ByteArray)) bs (by simp only [cat_sz, sz_mk, List.length_cons, List.length_nil]; omega) W
      have a4 := fun W => add_small ((((⟨#[99, 117, 114, 108, 32]⟩ : ByteArray) ++ bx) ++ (⟨#[32]⟩ : ByteArray)) ++ bs) bo (by simp only [cat_sz, sz_mk, List.length_cons, List.length_nil]; omega) W
      have HRES := hide (show (((((⟨#[99, 117, 114, 108, 32]⟩ : ByteArray) ++ bx) ++ (⟨#[32]⟩ : ByteArray)) ++ bs) ++ bo) = (⟨(lnF ⟨1, x, 0, s, o⟩).toArray⟩ : ByteArray) from ba_ext (by
        simp [ByteArray.data_append, HX.out, HY.out, HS.out, HO.out, lnF, lnB, lnT, lnW, itB, Lib.join_cons, Lib.joinTail]))
      go_wp2_with fail
      refine (HSD.out _).mono ?_
      rintro e w' ⟨rfl, rfl⟩
      go_wp2
      go_ret
      exact ⟨by rw [HRES.out]; first | done | rfl, B1.out⟩
    · skip
      have hyb : (y == 0) = false := by rw [beq_eq_false_iff_ne]; exact hy
      have HRES := hide (show lnF ⟨1, x, y, s, o⟩ = [63] from lnF_bad.2 (by simp [lnB, hy]))
      go_wp2
      go_ret
      exact ⟨by rw [HRES.out]; first | done | rfl, B1.out⟩
  · skip
    have k1b : (k == 1) = false := by rw [beq_eq_false_iff_ne]; exact k1
    by_cases k2 : k = 2
    · subst k2
      clear k1 k1b
      by_cases hy : y = 0
      · subst hy
        by_cases hs : s = 0
        · subst hs
          cases o with
          | false =>
            have a1 := fun W => add_small (⟨#[117, 110, 99, 117, 114, 108, 32]⟩ : ByteArray) bx (by simp only [cat_sz, sz_mk, List.length_cons, List.length_nil]; omega) W
            have HRES := hide (show ((⟨#[117, 110, 99, 117, 114, 108, 32]⟩ : ByteArray) ++ bx) = (⟨(lnF ⟨2, x, 0, 0, false⟩).toArray⟩ : ByteArray) from ba_ext (by
              simp [ByteArray.data_append, HX.out, HY.out, HS.out, HO.out, lnF, lnB, lnT, lnW, itB, Lib.join_cons, Lib.joinTail]))
            go_wp2
            go_ret
            exact ⟨by rw [HRES.out]; first | done | rfl, B1.out⟩
          | true =>
            have HRES := hide (show lnF ⟨2, x, 0, 0, true⟩ = [63] from lnF_bad.2 (by simp [lnB]))
            go_wp2
            go_ret
            exact ⟨by rw [HRES.out]; first | done | rfl, B1.out⟩
        · skip
          have hsb : (s == 0) = false := by rw [beq_eq_false_iff_ne]; exact hs
          have HRES := hide (show lnF ⟨2, x, 0, s, o⟩ = [63] from lnF_bad.2 (by simp [lnB, hs]))
          go_wp2
          go_ret
          exact ⟨by rw [HRES.out]; first | done | rfl, B1.out⟩
      · skip
        have hyb : (y == 0) = false := by rw [beq_eq_false_iff_ne]; exact hy
        have HRES := hide (show lnF ⟨2, x, y, s, o⟩ = [63] from lnF_bad.2 (by simp [lnB, hy]))
        go_wp2
        go_ret
        exact ⟨by rw [HRES.out]; first | done | rfl, B1.out⟩
    · skip
      have k2b : (k == 2) = false := by rw [beq_eq_false_iff_ne]; exact k2
      by_cases k3 : k = 3
      · subst k3
        clear k1 k1b k2 k2b
        have a1 := fun W => add_small (⟨#[112, 111, 107, 101, 32]⟩ : ByteArray) bx (by simp only [cat_sz, sz_mk, List.length_cons, List.length_nil]; omega) W
        have a2 := fun W => add_small ((⟨#[112, 111, 107, 101, 32]⟩ : ByteArray) ++ bx) (⟨#[32]⟩ : ByteArray) (by simp only [cat_sz, sz_mk, List.length_cons, List.length_nil]; omega) W
        have a3 := fun W => add_small (((⟨#[112, 111, 107, 101, 32]⟩ : ByteArray) ++ bx) ++ (⟨#[32]⟩ : ByteArray)) by' (by simp only [cat_sz, sz_mk, List.length_cons, List.length_nil]; omega) W
        have a4 := fun W => add_small ((((⟨#[112, 111, 107, 101, 32]⟩ : ByteArray) ++ bx) ++ (⟨#[32]⟩ : ByteArray)) ++ by') (⟨#[32]⟩ : ByteArray) (by simp only [cat_sz, sz_mk, List.length_cons, List.length_nil]; omega) W
        have a5 := fun W => add_small (((((⟨#[112, 111, 107, 101, 32]⟩ : ByteArray) ++ bx) ++ (⟨#[32]⟩ : ByteArray)) ++ by') ++ (⟨#[32]⟩ : ByteArray)) bs (by simp only [cat_sz, sz_mk, List.length_cons, List.length_nil]; omega) W
        have a6 := fun W => add_small ((((((⟨#[112, 111, 107, 101, 32]⟩ : ByteArray) ++ bx) ++ (⟨#[32]⟩ : ByteArray)) ++ by') ++ (⟨#[32]⟩ : ByteArray)) ++ bs) bo (by simp only [cat_sz, sz_mk, List.length_cons, List.length_nil]; omega) W
        have HRES := hide (show (((((((⟨#[112, 111, 107, 101, 32]⟩ : ByteArray) ++ bx) ++ (⟨#[32]⟩ : ByteArray)) ++ by') ++ (⟨#[32]⟩ : ByteArray)) ++ bs) ++ bo) = (⟨(lnF ⟨3, x, y, s, o⟩).toArray⟩ : ByteArray) from ba_ext (by
          simp [ByteArray.data_append, HX.out, HY.out, HS.out, HO.out, lnF, lnB, lnT, lnW, itB, Lib.join_cons, Lib.joinTail]))
        go_wp2_with fail
        refine (HSD.out _).mono ?_
        rintro e w' ⟨rfl, rfl⟩
        go_wp2
        go_ret
        exact ⟨by rw [HRES.out]; first | done | rfl, B1.out⟩
      · skip
        have k3b : (k == 3) = false := by rw [beq_eq_false_iff_ne]; exact k3
        by_cases k4 : k = 4
        · subst k4
          clear k1 k1b k2 k2b k3 k3b
          by_cases hs : s = 0
          · subst hs
            cases o with
            | false =>
              have a1 := fun W => add_small (⟨#[117, 110, 112, 111, 107, 101, 32]⟩ : ByteArray) bx (by simp only [cat_sz, sz_mk, List.length_cons, List.length_nil]; omega) W
              have a2 := fun W => add_small ((⟨#[117, 110, 112, 111, 107, 101, 32]⟩ : ByteArray) ++ bx) (⟨#[32]⟩ : ByteArray) (by simp only [cat_sz, sz_mk, List.length_cons, List.length_nil]; omega) W
              have a3 := fun W => add_small (((⟨#[117, 110, 112, 111, 107, 101, 32]⟩ : ByteArray) ++ bx) ++ (⟨#[32]⟩ : ByteArray)) by' (by simp only [cat_sz, sz_mk, List.length_cons, List.length_nil]; omega) W
              have HRES := hide (show ((((⟨#[117, 110, 112, 111, 107, 101, 32]⟩ : ByteArray) ++ bx) ++ (⟨#[32]⟩ : ByteArray)) ++ by') = (⟨(lnF ⟨4, x, y, 0, false⟩).toArray⟩ : ByteArray) from ba_ext (by
                simp [ByteArray.data_append, HX.out, HY.out, HS.out, HO.out, lnF, lnB, lnT, lnW, itB, Lib.join_cons, Lib.joinTail]))
              go_wp2
              go_ret
              exact ⟨by rw [HRES.out]; first | done | rfl, B1.out⟩
            | true =>
              have HRES := hide (show lnF ⟨4, x, y, 0, true⟩ = [63] from lnF_bad.2 (by simp [lnB]))
              go_wp2
              go_ret
              exact ⟨by rw [HRES.out]; first | done | rfl, B1.out⟩
          · skip
            have hsb : (s == 0) = false := by rw [beq_eq_false_iff_ne]; exact hs
            have HRES := hide (show lnF ⟨4, x, y, s, o⟩ = [63] from lnF_bad.2 (by simp [lnB, hs]))
            go_wp2
            go_ret
            exact ⟨by rw [HRES.out]; first | done | rfl, B1.out⟩
        · skip
          have k4b : (k == 4) = false := by rw [beq_eq_false_iff_ne]; exact k4
          by_cases k5 : k = 5
          · subst k5
            clear k1 k1b k2 k2b k3 k3b k4 k4b
            by_cases hy : y = 0
            · subst hy
              by_cases hs : s = 0
              · subst hs
                cases o with
                | false =>
                  have a1 := fun W => add_small (⟨#[115, 108, 105, 100, 101, 32]⟩ : ByteArray) bx (by simp only [cat_sz, sz_mk, List.length_cons, List.length_nil]; omega) W
                  have HRES := hide (show ((⟨#[115, 108, 105, 100, 101, 32]⟩ : ByteArray) ++ bx) = (⟨(lnF ⟨5, x, 0, 0, false⟩).toArray⟩ : ByteArray) from ba_ext (by
                    simp [ByteArray.data_append, HX.out, HY.out, HS.out, HO.out, lnF, lnB, lnT, lnW, itB, Lib.join_cons, Lib.joinTail]))
                  go_wp2
                  go_ret
                  exact ⟨by rw [HRES.out]; first | done | rfl, B1.out⟩
                | true =>
                  have HRES := hide (show lnF ⟨5, x, 0, 0, true⟩ = [63] from lnF_bad.2 (by simp [lnB]))
                  go_wp2
                  go_ret
                  exact ⟨by rw [HRES.out]; first | done | rfl, B1.out⟩
              · skip
                have hsb : (s == 0) = false := by rw [beq_eq_false_iff_ne]; exact hs
                have HRES := hide (show lnF ⟨5, x, 0, s, o⟩ = [63] from lnF_bad.2 (by simp [lnB, hs]))
                go_wp2
                go_ret
                exact ⟨by rw [HRES.out]; first | done | rfl, B1.out⟩
            · skip
              have hyb : (y == 0) = false := by rw [beq_eq_false_iff_ne]; exact hy
              have HRES := hide (show lnF ⟨5, x, y, s, o⟩ = [63] from lnF_bad.2 (by simp [lnB, hy]))
              go_wp2
              go_ret
              exact ⟨by rw [HRES.out]; first | done | rfl, B1.out⟩
          · skip
            have k5b : (k == 5) = false := by rw [beq_eq_false_iff_ne]; exact k5
            have HRES := hide (show lnF ⟨k, x, y, s, o⟩ = [63] from lnF_bad.2 (by simp [lnB, k1, k2, k3, k4, k5]))
            go_wp2
            go_ret
            exact ⟨by rw [HRES.out]; first | done | rfl, B1.out⟩
set_option maxRecDepth 100000 in
set_option maxHeartbeats 4000000 in
theorem rformat_any (ms : List Mv) (A : Option Addr) (n c : Nat) (w : World) (hA : MvsA w A n ms) (hn : n ≤ 100) (hr : ∀ m, m ∈ ms → ¬ Big m) (hi : ∀ m, m ∈ ms → MvIn m) :
    Calls Tryz.prog 28 #[.slice A n c] w fun e w' => e = .returned (.string ⟨(Pl.fmA lnF ms).toArray⟩) ∧ Below w.heap.size w w' := by
  have HA := hide hA
  have HR := hide hr
  have HL := hide (show ms.length = n from hA.1.symm)
  have HLEN := hide (show ∀ k, k ≤ n → (Pl.fmA lnF (ms.take k)).length ≤ 201 * k from fun k hk => by
    have h := fmA_len (ms.take k) (fun m hm => hi m (List.mem_of_mem_take hm))
    have h2 : (ms.take k).length ≤ k := by rw [List.length_take]; omega
    exact Nat.le_trans h (Nat.mul_le_mul_left _ h2))
  clear hA hr hi
  go_enter Tryz.func28, Tryz.ntmps28
  go_wp2_with fail
  go_loopg [3, 4] n (fun g s3 s4 wx => ∃ (k : Nat) (t : ByteArray), k + g = n ∧ s4 = .int .i64 (k : Int) ∧ s3 = .string t ∧ t.data.toList = Pl.fmA lnF (ms.take k) ∧ Below w.heap.size w wx)
  case atStart => exact ⟨0, ⟨#[]⟩, by omega, rfl, rfl, rfl, Below.refl _ _⟩
  case round =>
    obtain ⟨k, t, hkg, rfl, rfl, ht, hb⟩ := hrel
    have HKG := hide hkg
    have HT := hide ht
    have HB := hide hb
    have htl : t.size ≤ 20100 := by
      have h1 := HLEN.out k (by omega)
      rw [← HT.out, Array.length_toList] at h1
      have h2 : t.size = t.data.size := rfl
      omega
    clear ht hb
    by_cases hk : k < n
    · have hki : (k : Int) < (n : Int) := by omega
      have k0 : (0 : Int) ≤ (k : Int) := by omega
      obtain ⟨bb, oo, zk, zx, zy, zs, zo, rfl, hz, x0, x1, x2, x3, x4⟩ := (HA.out.keep HB.out).at_ hk
      have HZ := hide hz
      have hmem := List.mem_of_getElem? hz
      have hsm := HR.out _ hmem
      have hz2 := small_in hsm
      have hll : (lnF ⟨zk, zx, zy, zs, zo⟩).length ≤ 200 := lnF_len ⟨by simp only at hz2 ⊢; omega, by simp only at hz2 ⊢; omega, by simp only at hz2 ⊢; omega⟩
      have HSM := hide hsm
      clear hz hkg hmem hsm hz2
      go_wp2_with fail
      refine (rline_any ⟨zk, zx, zy, zs, zo⟩ HSM.out _).mono ?_
      rintro e w5 ⟨rfl, hb5⟩
      have B5 := hide (HB.out.trans (hb5.mono HB.out.size))
      obtain ⟨ln, hln⟩ : ∃ b : ByteArray, b = ⟨(lnF ⟨zk, zx, zy, zs, zo⟩).toArray⟩ := ⟨_, rfl⟩
      have HLN := hide (show ln.data.toList = lnF ⟨zk, zx, zy, zs, zo⟩ by rw [hln])
      have hls : ln.size ≤ 200 := by rw [hln, sz_mk]; exact hll
      rw [← hln]
      have a1 := fun W => add_small t ln (by omega) W
      have a2 := fun W => add_small (t ++ ln) ⟨#[10]⟩ (by simp only [cat_sz, sz_mk, List.length_cons, List.length_nil]; omega) W
      clear hb5 hln hll x0 x1 x2 x3 x4
      go_wp2
      go_roundg (gk - 1)
      case measure => have := HKG.out; omega
      case rel =>
        refine ⟨k + 1, t ++ ln ++ ⟨#[10]⟩, by have := HKG.out; omega, by go_num, rfl, ?_, B5.out⟩
        rw [List.take_add_one, HZ.out, Option.toList_some, Pl.fmA_snoc, ← HT.out, ← HLN.out]
        simp [ByteArray.data_append]
    · have hki : ¬ ((k : Int) < (n : Int)) := by omega
      have HE := hide (show t = (⟨(Pl.fmA lnF ms).toArray⟩ : ByteArray) from ba_ext (by
        rw [HT.out, List.take_of_length_le (by have := HL.out; omega)]))
      clear hkg
      go_wp2
      go_ret
      exact ⟨by rw [HE.out]; first | done | rfl, HB.out⟩
set_option maxRecDepth 100000 in
set_option maxHeartbeats 4000000 in
theorem large_any (ms : List Mv) (A : Option Addr) (n c : Nat) (w : World) (hA : MvsA w A n ms) (hn : n ≤ 1000) :
    Calls Tryz.prog 26 #[.slice A n c] w fun e w' => e = .returned (.bool (Pl.vb (∃ m, m ∈ ms ∧ Big m))) ∧ Below w.heap.size w w' := by
  have HA := hide hA
  have HL := hide (show ms.length = n from hA.1.symm)
  clear hA
  go_enter Tryz.func26, Tryz.ntmps26
  go_wp2_with fail
  go_loopg [4, 6, 9] n (fun g s4 s6 s9 wx => ∃ k : Nat, k + g = n ∧ s9 = .int .i64 (k : Int) ∧ (∀ j z, j < k → ms[j]? = some z → ¬ Big z) ∧ Below w.heap.size w wx)
  case atStart => exact ⟨0, by omega, rfl, fun j z hj => absurd hj (Nat.not_lt_zero j), Below.refl _ _⟩
  case round =>
    obtain ⟨k, hkg, rfl, hok, hb⟩ := hrel
    have HKG := hide hkg
    have HOK := hide hok
    have HB := hide hb
    clear hok hb
    by_cases hk : k < n
    · have hki : (k : Int) < (n : Int) := by omega
      have k0 : (0 : Int) ≤ (k : Int) := by omega
      obtain ⟨bb, oo, zk, zx, zy, zs, zo, rfl, hz, x0, x1, x2, x3, x4⟩ := (HA.out.keep HB.out).at_ hk
      have HZ := hide hz
      clear hz hkg
      have hw : w.heap.size ≤ wr.heap.size := HB.out.size
      have X1 := hide (row_at (W := wr) (g := wr.heap.size) (t := 36) (vs := [.int .i64 zk, .int .i64 zx, .int .i64 zy, .int .i64 zs, .bool zo]) rfl)
      obtain ⟨e0, e1, e2, e3, e4, e5⟩ := box5 X1.out
      go_wp2_with fail
      obtain ⟨W2, hW2⟩ : ∃ W, W = (wr.alloc (.cells #[.int .i64 zk, .int .i64 zx, .int .i64 zy, .int .i64 zs, .bool zo] 36)).alloc (.cells #[.int .i64 zx, .int .i64 zy, .int .i64 zs] 3) := ⟨_, rfl⟩
      obtain ⟨g3, hg3⟩ : ∃ g, g = wr.heap.size + 1 := ⟨_, rfl⟩
      have R3 := hide (show Row W2 g3 3 [.int .i64 zx, .int .i64 zy, .int .i64 zs] by rw [hW2, hg3]; exact row_at (vs := [.int .i64 zx, .int .i64 zy, .int .i64 zs]) (by simp))
      have B2 := hide (show Below w.heap.size w W2 by rw [hW2]; exact (HB.out.alloc HB.out.size _).alloc (by simp; omega) _)
      rw [← hW2, ← hg3]
      clear hW2 hg3 e0 e1 e2 e3 e4 e5 X1 x0 x1 x2 x3 x4
      go_loopg [6, 21] 3 (fun g s6 s21 wx => ∃ j : Nat, j + g = 3 ∧ s21 = .int .i64 (j : Int) ∧ (0 < j → ¬ BigV zx) ∧ (1 < j → ¬ BigV zy) ∧ (2 < j → ¬ BigV zs) ∧ wx = W2)
      case atStart => exact ⟨0, rfl, rfl, fun h => absurd h (by decide), fun h => absurd h (by decide), fun h => absurd h (by decide), rfl⟩
      case round =>
        obtain ⟨j, hjg, rfl, q1, q2, q3, rfl⟩ := hrel
        have HJG := hide hjg
        have HQ := hide (And.intro q1 (And.intro q2 q3))
        clear q1 q2 q3
        by_cases hj : j < 3
        · have hji : (j : Int) < 3 := by omega
          have j0 : (0 : Int) ≤ (j : Int) := by omega
          obtain ⟨v, hv, hcv⟩ : ∃ v, ((j = 0 ∧ v = zx) ∨ (j = 1 ∧ v = zy) ∨ (j = 2 ∧ v = zs)) ∧ wr.cell? ⟨g3, j, none⟩ = some (.int .i64 v) := by
            have hj3 : j = 0 ∨ j = 1 ∨ j = 2 := by omega
            rcases hj3 with rfl | rfl | rfl
            · exact ⟨zx, .inl ⟨rfl, rfl⟩, R3.out.cell (i := 0) (by simp)⟩
            · exact ⟨zy, .inr (.inl ⟨rfl, rfl⟩), R3.out.cell (i := 1) (by simp)⟩
            · exact ⟨zs, .inr (.inr ⟨rfl, rfl⟩), R3.out.cell (i := 2) (by simp)⟩
          have HV := hide hv
          clear hv hjg
          by_cases hb1 : 1152921504606846976 < v
          · have HP := hide (show Pl.vb (∃ m, m ∈ ms ∧ Big m) = true from Pl.vb_true ⟨_, List.mem_of_getElem? HZ.out, by
              rcases HV.out with ⟨_, h⟩ | ⟨_, h⟩ | ⟨_, h⟩ <;> rw [h] at hb1
              · exact .inl (.inl hb1)
              · exact .inr (.inl (.inl hb1))
              · exact .inr (.inr (.inl hb1))⟩)
            go_wp2
            go_ret
            exact ⟨by rw [HP.out]; first | done | rfl, B2.out⟩
          · by_cases hb2 : v < -1152921504606846976
            · have HP := hide (show Pl.vb (∃ m, m ∈ ms ∧ Big m) = true from Pl.vb_true ⟨_, List.mem_of_getElem? HZ.out, by
                rcases HV.out with ⟨_, h⟩ | ⟨_, h⟩ | ⟨_, h⟩ <;> rw [h] at hb2
                · exact .inl (.inr hb2)
                · exact .inr (.inl (.inr hb2))
                · exact .inr (.inr (.inr hb2))⟩)
              go_wp2
              go_ret
              exact ⟨by rw [HP.out]; first | done | rfl, B2.out⟩
            · go_wp2
              go_roundg (gk - 1)
              case measure => have := HJG.out; omega
              case rel =>
                have hnb : ¬ BigV v := fun h => by unfold BigV at h; omega
                refine ⟨j + 1, by have := HJG.out; omega, by go_num, fun h => ?_, fun h => ?_, fun h => ?_, rfl⟩
                · rcases HV.out with ⟨h1, h2⟩ | ⟨h1, h2⟩ | ⟨h1, h2⟩
                  · rw [← h2]; exact hnb
                  · exact HQ.out.1 (by omega)
                  · exact HQ.out.1 (by omega)
                · rcases HV.out with ⟨h1, h2⟩ | ⟨h1, h2⟩ | ⟨h1, h2⟩
                  · omega
                  · rw [← h2]; exact hnb
                  · exact HQ.out.2.1 (by omega)
                · rcases HV.out with ⟨h1, h2⟩ | ⟨h1, h2⟩ | ⟨h1, h2⟩
                  · omega
                  · omega
                  · rw [← h2]; exact hnb
        · have hji : ¬ ((j : Int) < 3) := by omega
          have HNB := hide (show ¬ Big ⟨zk, zx, zy, zs, zo⟩ from fun h => by
            have q := HQ.out
            have hj3 : j = 3 := by have := HJG.out; omega
            rcases h with h | h | h
            · exact q.1 (by omega) h
            · exact q.2.1 (by omega) h
            · exact q.2.2 (by omega) h)
          clear hjg
          go_wp2
          go_roundg (n - k - 1)
          case measure => have := HKG.out; omega
          case rel =>
            refine ⟨k + 1, by have := HKG.out; omega, by go_num, fun i z hi hz => ?_, B2.out⟩
            rcases Nat.lt_or_ge i k with h | h
            · exact HOK.out i z h hz
            · obtain rfl : i = k := by omega
              rw [HZ.out] at hz
              injection hz with hz
              rw [← hz]
              exact HNB.out
    · have hki : ¬ ((k : Int) < (n : Int)) := by omega
      have HP := hide (show Pl.vb (∃ m, m ∈ ms ∧ Big m) = false from Pl.vb_false fun ⟨m, hm, hbig⟩ => by
        obtain ⟨i, hi, e⟩ := List.getElem_of_mem hm
        exact HOK.out i m (by have := HL.out; omega) (by rw [List.getElem?_eq_getElem hi, e]) hbig)
      clear hkg
      go_wp2
      go_ret
      exact ⟨by rw [HP.out]; first | done | rfl, HB.out⟩
end Go.Proofs.YtlffopdoeobgaaaGreatDoor
end
