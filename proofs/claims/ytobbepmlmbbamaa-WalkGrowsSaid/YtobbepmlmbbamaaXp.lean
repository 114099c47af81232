/-
  Walks: lists of moves; slides, Slides; Same of the reference.
-/
import Derived.Test.YtobbepmlmbbamaaXo
import Derived.Test.YtobbepmlmbbamaaWcy
import Derived.Deep.AppendLies
set_option linter.unusedVariables false
set_option linter.unusedSimpArgs false
namespace Go.Proofs.Ytobbepmlmbbamaa
open Go Go.RowKit
attribute [local go_sem ↓] Go.wp_at_zero Go.wp_at_succ

theorem moveInfo : (Try.prog.info? 28).map (fun i => (i.zero, i.size, i.bytes)) = some (some (.agg #[.int .i64 0, .int .i64 0, .int .i64 0, .int .i64 0, .bool false]), 5, 40) := by kernel_rfl
def Mv.cells (m : Mv) : List Value := [.int .i64 m.kind, .int .i64 m.x, .int .i64 m.y, .int .i64 m.sign, .bool m.over]
def mvs (ms : List Mv) : List Value := ms.flatMap Mv.cells
theorem mvs_len : ∀ ms : List Mv, (mvs ms).length = ms.length * 5
  | [] => rfl
  | m :: ms => by
    have := mvs_len ms
    unfold mvs at this ⊢
    rw [List.flatMap_cons, List.length_append, this, List.length_cons]
    simp [Mv.cells]
    omega
theorem mvs_app (ms : List Mv) (m : Mv) : mvs (ms ++ [m]) = mvs ms ++ m.cells := by unfold mvs; simp
/-- A diagram and a list of moves, each in its box. -/
structure ML (w : World) (gd gl : Nat) (dv : List Value) (v : Value) (ms : List Mv) (W : World) : Prop where
  d : Row W gd 24 dv
  l : Row W gl 31 [v]
  o : W.ownsRow (gl + 1) 28 5 v ms.length (mvs ms)
  bel : Below w.heap.size w W
  lo : w.heap.size ≤ gd
  lt : gd < gl
section
variable {w W W' W2 : World} {gd gl : Nat} {dv : List Value} {v v' : Value} {ms : List Mv} {m : Mv}
theorem own_below {base : Nat} {e : TypeId} {size n : Nat} {xs : List Value} (h : W.ownsRow base e size v n xs) (hb : Below W.heap.size W W') : W'.ownsRow base e size v n xs := by
  refine ⟨h.1, ?_⟩
  rcases h.2 with hz | ⟨g, cap, cur, r1, r2, r3, r4⟩
  · exact .inl hz
  · exact .inr ⟨g, cap, cur, r1, r2, (hb.block g (lt_of_heap r3)).trans r3, r4⟩
theorem ML.below (h : ML w gd gl dv v ms W) (hb : Below W.heap.size W W') : ML w gd gl dv v ms W' :=
  ⟨h.d.below hb, h.l.below hb, own_below h.o hb, h.bel.trans (hb.mono h.bel.size), h.lo, h.lt⟩
theorem ML.alloc (h : ML w gd gl dv v ms W) (o : Obj) : ML w gd gl dv v ms (W.alloc o) := h.below ((Below.refl _ _).alloc (Nat.le_refl _) o)
theorem ML.drew (h : ML w gd gl dv v ms W) : ML w gd gl dv v ms W.drew := ⟨h.d, h.l, h.o, h.bel.drew, h.lo, h.lt⟩
theorem ML.big (h : ML w gd gl dv v ms W) : gl < W.heap.size := h.l.lt
theorem ML.other (h : ML w gd gl dv v ms W) {g : Nat} (hg : W.heap.size ≤ g) (o : Nat) (x : Value) : ML w gd gl dv v ms (W.setCell ⟨g, o, none⟩ x) :=
  h.below ((Below.refl _ _).setCell hg x)
theorem ML.far (h : ML w gd gl dv v ms W) {g : Nat} (hg : g ≤ gl) : some g ≠ v.ownBlock := fun e => by have := (h.o.lt g e.symm).1; omega
theorem ML.push (h : ML w gd gl dv v ms W) (own : W2.ownsRow (gl + 1) 28 5 v' (ms.length + 1) (mvs ms ++ m.cells)) (gr : W.grownBy W2 v.ownBlock) : ML w gd gl dv v' (ms ++ [m]) (W2.setCell ⟨gl, 0, none⟩ v') := by
  have a := h.lo
  have b := h.lt
  refine ⟨(h.d.grown gr (h.far (by omega))).other (by show gd ≠ gl; omega) _, (h.l.grown gr (h.far (Nat.le_refl _))).set 0 v', ?_, ?_, h.lo, h.lt⟩
  · rw [mvs_app, List.length_append]
    exact ownsRow_setCell_below own (by show gl < gl + 1; omega) _
  · exact (h.bel.grown gr h.bel.size (fun k hk => by have := (h.o.lt k hk).1; omega)).setCell (by show _ ≤ gl; omega) _
end
theorem five_news (W : World) (g : Nat) (hg : W.heap.size = g) (m : Mv) : ∀ j u, m.cells[j]? = some u → (W.alloc (.cells m.cells.toArray 28)).cell? ((⟨g, 0, none⟩ : Addr).add j) = some u := by
  subst hg
  intro j u hu
  rw [Addr.add_lit, Nat.zero_add]
  have hj : j < m.cells.length := by
    rcases Nat.lt_or_ge j m.cells.length with h | h
    · exact h
    · rw [List.getElem?_eq_none h] at hu; cases hu
  have := (Row.new W 28 m.cells).cell hj
  rw [this, ← hu, List.getElem?_eq_getElem hj]
theorem box1 {W : World} {g : Nat} {t : TypeId} {a : Value} (h : Row W g t [a]) : W.cell? ⟨g, 0, none⟩ = some a ∧ ∀ o, W.frozen? ⟨g, o, none⟩ = false := ⟨h.cell (i := 0) (by simp), h.free⟩
/-- One slide, if there is one at h that is the least of its triangle. -/
def slP (d : Pl.Dg) (h : Nat) : Prop := h ≤ th d h 1 ∧ h ≤ th d h 2 ∧ isT d h
open Classical in
noncomputable def slOne (d : Pl.Dg) (h : Nat) : List Mv := if slP d h then [⟨5, h, 0, 0, false⟩] else []
set_option maxRecDepth 100000 in
set_option maxHeartbeats 4000000 in
theorem slTry_any (d : Pl.Dg) (hd : Pl.Wf d) (A B : Option Addr) (cp cq m h gd gl : Nat) (v : Value) (ms : List Mv) (w0 w : World) (hm : m = 4 * d.n) (hg : DgAt w A B d) (hh : h < 4 * d.n) (hms : ms.length ≤ 1000)
    (hp : ML w0 gd gl [.slice A d.n cp, .slice B m cq, .int .i64 (d.lp : Int)] v ms w) :
    Calls Try.prog 110 #[.agg #[.int .i64 5, .int .i64 (h : Int), .int .i64 0, .int .i64 0, .bool false], .pointer (some ⟨gd, 0, none⟩), .pointer (some ⟨gl, 0, none⟩)] w fun e w' => e = .returned (.tuple #[]) ∧ ∃ v', ML w0 gd gl [.slice A d.n cp, .slice B m cq, .int .i64 (d.lp : Int)] v' (ms ++ slOne d h) w' := by
  have HM := hide hm
  have HG := hide hg
  have hn := hd.few
  have hm2 : m ≤ 256 := by omega
  have hHM : h < m := by omega
  obtain ⟨i, hi⟩ : ∃ i, i = th d h 1 := ⟨_, rfl⟩
  obtain ⟨j, hj⟩ : ∃ j, j = th d h 2 := ⟨_, rfl⟩
  have li : i < m := by have := th_lt hd hh 1; omega
  have lj : j < m := by have := th_lt hd hh 2; omega
  have HI := hide (show Pl.nx d h = i from hi.symm)
  have HJ := hide (show Pl.nx d i = j from by rw [hi, hj]; rfl)
  have HT := hide (show slP d h ↔ h ≤ i ∧ h ≤ j ∧ isT d h by unfold slP; rw [hi, hj])
  clear hi hj hm
  have ih0 : (0 : Int) ≤ (h : Int) ∧ (h : Int) < (m : Int) := by omega
  have ii0 : (0 : Int) ≤ (i : Int) ∧ (i : Int) < (m : Int) := by omega
  have hb0 : Below w.heap.size w (w.alloc (.cells #[.int .i64 5, .int .i64 (h : Int), .int .i64 0, .int .i64 0, .bool false] 28)) := (Below.refl _ _).alloc (Nat.le_refl _) _
  have HB0 := hide hb0
  have P1 := hide (hp.below hb0)
  have M1 := hide (row_at (W := w) (g := w.heap.size) (t := 28) (vs := [.int .i64 5, .int .i64 (h : Int), .int .i64 0, .int .i64 0, .bool false]) rfl)
  have hgl : gl < w.heap.size := hp.big
  have hgd : gd < gl := hp.lt
  clear hp hb0 hg
  obtain ⟨d0, d1, d2, d3⟩ := box3 P1.out.d
  obtain ⟨e0, e1, e2, e3, e4, e5⟩ := box5 M1.out
  go_enter Try.func110, Try.ntmps110
  go_wp2_with fail
  refine (next_i d hd B cq m (h : Int) _ HM.out ih0 (by rw [HM.out]; exact (HG.out.keep HB0.out).m)).mono ?_
  rintro e w1 ⟨rfl, rfl⟩
  rw [Int.toNat_natCast, HI.out]
  go_wp2_with fail
  refine (next_i d hd B cq m (i : Int) _ HM.out ii0 (by rw [HM.out]; exact (HG.out.keep HB0.out).m)).mono ?_
  rintro e w1 ⟨rfl, rfl⟩
  rw [Int.toNat_natCast, HJ.out]
  by_cases c1 : (i : Int) < (h : Int)
  · have E := hide (show slOne d h = [] by unfold slOne; rw [if_neg (fun h => by have := HT.out.1 h; omega)])
    go_wp2
    refine bodyPost_ret (results_none rfl _ _ _) rfl ⟨rfl, v, ?_⟩
    rw [E.out, List.append_nil]
    exact P1.out
  · by_cases c2 : (j : Int) < (h : Int)
    · have E := hide (show slOne d h = [] by unfold slOne; rw [if_neg (fun h => by have := HT.out.1 h; omega)])
      go_wp2
      refine bodyPost_ret (results_none rfl _ _ _) rfl ⟨rfl, v, ?_⟩
      rw [E.out, List.append_nil]
      exact P1.out
    · go_wp2_with fail
      refine (tri_v d hd A B cp cq m h _ HM.out (HG.out.keep HB0.out) hh).mono ?_
      rintro e w1 ⟨b0, o0, i0, f0, b1, o1, i1, f1, b2, o2, i2, f2, rfl, _, hb1⟩
      have P2 := hide (P1.out.below hb1)
      have M2 := hide (M1.out.below hb1)
      have hs1 := hb1.size
      have hs20 : w.heap.size + 1 ≤ w1.heap.size := by simpa using hs1
      have hs2 : w.heap.size < w1.heap.size := by omega
      clear hs20
      have hs3 : gl < w1.heap.size := by omega
      have hs4 : gl < w1.heap.size + 1 := by omega
      have hs5 : w.heap.size < w1.heap.size + 1 := by omega
      clear hb1 hs1 d0 d1 d2 d3 e0 e1 e2 e3 e4 e5
      obtain ⟨e0, e1, e2, e3, e4, e5⟩ := box5 M2.out
      by_cases hI : isT d h
      · rw [Pl.vb_true hI]
        have E := hide (show slOne d h = [⟨5, h, 0, 0, false⟩] by unfold slOne; rw [if_pos (HT.out.2 ⟨by omega, by omega, hI⟩)])
        clear hI
        obtain ⟨q0, q1⟩ := box1 P2.out.l
        obtain ⟨n0, hn0, hz0, hz1, hz2⟩ := info_parts moveInfo
        have P3 := hide (P2.out.alloc (.cells #[.int .i64 (b0 : Int), .int .i64 (o0 : Int), .int .i64 (i0 : Int), .int .i64 (f0 : Int), .int .i64 (b1 : Int), .int .i64 (o1 : Int), .int .i64 (i1 : Int), .int .i64 (f1 : Int), .int .i64 (b2 : Int), .int .i64 (o2 : Int), .int .i64 (i2 : Int), .int .i64 (f2 : Int)] 99))
        have A0 := hide (P3.out.alloc (.cells (Mv.cells ⟨5, h, 0, 0, false⟩).toArray 28)).o
        have A1 : ∀ u ∈ Mv.cells ⟨5, h, 0, 0, false⟩, u.oneCell' = true := by simp [Mv.cells, Value.oneCell']
        have A2 : ms.length + 1 ≤ maxLen := by unfold maxLen; omega
        have A3 : (ms.length + 1) * 40 ≤ 140737488355328 := by omega
        have A4 : gl + 1 ≤ w1.heap.size + 1 + 1 := by omega
        have A5 := five_news (w1.alloc (.cells #[.int .i64 (b0 : Int), .int .i64 (o0 : Int), .int .i64 (i0 : Int), .int .i64 (f0 : Int), .int .i64 (b1 : Int), .int .i64 (o1 : Int), .int .i64 (i1 : Int), .int .i64 (f1 : Int), .int .i64 (b2 : Int), .int .i64 (o2 : Int), .int .i64 (i2 : Int), .int .i64 (f2 : Int)] 99)) (w1.heap.size + 1) (by simp) ⟨5, h, 0, 0, false⟩
        have A6 := hide A5
        clear A5
        go_wp2_with (at_builtin; refine wpList_append_lies _ (by rfl) _ _ 31 (by rfl) (gl + 1) 28 n0 (.agg #[.int .i64 0, .int .i64 0, .int .i64 0, .int .i64 0, .bool false]) 5 40 Try.underlying31 hn0 hz0 hz1 hz2 rfl (by omega) v ms.length (mvs ms) (by rfl) A0.out ⟨w1.heap.size + 1, 0, none⟩ 1 1 (Mv.cells ⟨5, h, 0, 0, false⟩) (by rfl) (by rfl) A6.out A1 (by omega) A2 A3 (by simp; omega) (w1.heap.size + 1 + 1) (by simp) ?_; intro g2 c2 w2 own2 grow2 at2 lt2; obtain ⟨q2, q3⟩ := box1 ((P3.out.alloc (.cells (Mv.cells ⟨5, h, 0, 0, false⟩).toArray 28)).l.grown grow2 ((P3.out.alloc (.cells (Mv.cells ⟨5, h, 0, 0, false⟩).toArray 28)).far (Nat.le_refl _))); have OWN2 := hide own2; have GR2 := hide grow2; clear own2 grow2 at2)
        refine bodyPost_end (results_none rfl _ _ _) rfl ⟨rfl, .slice (some ⟨g2, 0, none⟩) (ms.length + 1) c2, ?_⟩
        rw [E.out]
        exact (P3.out.alloc _).push OWN2.out GR2.out
      · rw [Pl.vb_false hI]
        have E := hide (show slOne d h = [] by unfold slOne; rw [if_neg (fun h => hI (HT.out.1 h).2.2)])
        clear hI
        go_wp2
        refine bodyPost_end (results_none rfl _ _ _) rfl ⟨rfl, v, ?_⟩
        rw [E.out, List.append_nil]
        exact P2.out.alloc _
/-- All slides among the first k half-edges. -/
noncomputable def slL (d : Pl.Dg) : Nat → List Mv
  | 0 => []
  | k + 1 => slL d k ++ slOne d k
theorem slL_len (d : Pl.Dg) : ∀ k, (slL d k).length ≤ k
  | 0 => Nat.le_refl _
  | k + 1 => by
    have := slL_len d k
    unfold slL slOne
    rw [List.length_append]
    split <;> simp <;> omega
theorem slL_mem (d : Pl.Dg) (z : Mv) : ∀ k, z ∈ slL d k ↔ ∃ h, h < k ∧ slP d h ∧ z = ⟨5, h, 0, 0, false⟩
  | 0 => by simp [slL]
  | k + 1 => by
    unfold slL
    rw [List.mem_append, slL_mem d z k]
    constructor
    · rintro (⟨h, h1, h2, h3⟩ | h)
      · exact ⟨h, by omega, h2, h3⟩
      · unfold slOne at h
        split at h
        · rename_i hp
          exact ⟨k, by omega, hp, by simpa using h⟩
        · cases h
    · rintro ⟨h, h1, h2, h3⟩
      by_cases e : h = k
      · subst e
        right
        unfold slOne
        rw [if_pos h2, h3]
        simp
      · exact .inl ⟨h, by omega, h2, h3⟩
/-- A list of moves that came back. -/
def MovesAt (w : World) (v : Value) (ms : List Mv) : Prop := ∃ base, w.ownsRow base 28 5 v ms.length (mvs ms)
set_option maxRecDepth 100000 in
set_option maxHeartbeats 4000000 in
theorem slides_any (d : Pl.Dg) (hd : Pl.Wf d) (A B : Option Addr) (cp cq m : Nat) (w : World) (hm : m = 4 * d.n) (hg : DgAt w A B d) :
    Calls Try.prog 61 #[.agg #[.slice A d.n cp, .slice B m cq, .int .i64 d.lp]] w fun e w' => ∃ v, e = .returned v ∧ MovesAt w' v (slL d m) ∧ Below w.heap.size w w' := by
  have HM := hide hm
  have HG := hide hg
  have hn := hd.few
  have hm2 : m ≤ 256 := by omega
  have P0 := hide (show ML w w.heap.size (w.heap.size + 1) [.slice A d.n cp, .slice B m cq, .int .i64 (d.lp : Int)] (.slice none 0 0) [] ((w.alloc (.cells #[.slice A d.n cp, .slice B m cq, .int .i64 (d.lp : Int)] 24)).alloc (.cells #[.slice none 0 0] 31)) from
    ⟨(row_at (vs := [_, _, _]) rfl).alloc _, row_at (vs := [_]) (by simp), ⟨rfl, .inl ⟨rfl, rfl⟩⟩, ((Below.refl _ _).alloc (Nat.le_refl _) _).alloc (by simp) _, Nat.le_refl _, by omega⟩)
  clear hg hm
  go_enter Try.func61, Try.ntmps61
  go_wp2
  go_loopg [5, 10] m (fun g s5 s10 wx => ∃ (k : Nat) (v : Value), k + g = m ∧ s10 = .int .i64 (k : Int) ∧ ML w w.heap.size (w.heap.size + 1) [.slice A d.n cp, .slice B m cq, .int .i64 (d.lp : Int)] v (slL d k) wx)
  case atStart => exact ⟨0, _, by omega, rfl, P0.out⟩
  case round =>
    clear P0
    obtain ⟨k, v, hkg, rfl, hp⟩ := hrel
    have HKG := hide hkg
    have PK := hide hp
    have hlen := slL_len d k
    clear hp
    by_cases hk : k < m
    · have hki : (k : Int) < (m : Int) := by omega
      clear hkg
      go_wp2_with fail
      refine (slTry_any d hd A B cp cq m k w.heap.size (w.heap.size + 1) v (slL d k) w wr HM.out (HG.out.keep PK.out.bel) (by have := HM.out; omega) (by omega) PK.out).mono ?_
      rintro e w1 ⟨rfl, v', hp1⟩
      have P1 := hide hp1
      clear hp1
      go_wp2
      go_roundg (gk - 1)
      case measure => have := HKG.out; omega
      case rel => exact ⟨k + 1, v', by have := HKG.out; omega, by go_num, P1.out⟩
    · have hki : ¬ ((k : Int) < (m : Int)) := by omega
      have e : k = m := by omega
      subst e
      obtain ⟨q0, q1⟩ := box1 PK.out.l
      clear hkg
      go_wp2
      go_ret
      exact ⟨v, rfl, ⟨_, PK.out.o⟩, PK.out.bel⟩
set_option maxRecDepth 100000 in
set_option maxHeartbeats 4000000 in
theorem Slides_any (d : Pl.Dg) (hd : Pl.Valid d) (A B : Option Addr) (cp cq m : Nat) (w : World) (hm : m = 4 * d.n) (hg : DgAt w A B d) :
    Calls Try.prog 28 #[.agg #[.slice A d.n cp, .slice B m cq, .int .i64 d.lp]] w fun e w' => ∃ v, e = .returned v ∧ MovesAt w' v (slL d m) ∧ Below w.heap.size w w' := by
  have HM := hide hm
  have HG := hide hg
  have HW := hide (Pl.Valid.iff.1 hd).1
  clear hg hm
  have hb0 : Below w.heap.size w (w.alloc (.cells #[.slice A d.n cp, .slice B m cq, .int .i64 (d.lp : Int)] 24)) := (Below.refl _ _).alloc (Nat.le_refl _) _
  have r0 := row_at (W := w) (g := w.heap.size) (t := 24) (vs := [.slice A d.n cp, .slice B m cq, .int .i64 (d.lp : Int)]) rfl
  have R0 := hide r0
  have B0 := hide hb0
  clear r0 hb0
  go_enter Try.func28, Try.ntmps28
  go_wp2_with fail
  refine (valid_yes d hd A B cp cq m _ HM.out (HG.out.keep B0.out)).mono ?_
  rintro e w1 ⟨rfl, hb1⟩
  have R1 := hide (R0.out.below hb1)
  have B1 := hide (B0.out.trans (hb1.mono B0.out.size))
  have hs1 := hb1.size
  have hs2 : w.heap.size < w1.heap.size := by have h := R1.out.lt; exact h
  clear hb1 hs1
  obtain ⟨d0, d1, d2, d3⟩ := box3 R1.out
  go_wp2_with fail
  refine (slides_any d HW.out A B cp cq m _ HM.out (HG.out.keep B1.out)).mono ?_
  rintro e w2 ⟨v, rfl, hv, hb2⟩
  have HV := hide hv
  have B2 := hide (B1.out.trans (hb2.mono B1.out.size))
  clear hv hb2
  go_wp2
  go_ret
  exact ⟨v, rfl, HV.out, B2.out⟩
end Go.Proofs.Ytobbepmlmbbamaa
