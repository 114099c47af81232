/-
  The texts Shr, Wj, Wk in one.
-/
import Derived.Test.YtobbepmlmbbamaaBAV07
import Derived.Test.YtobbepmlmbbamaaBAV05
set_option linter.unusedVariables false
set_option linter.unusedSimpArgs false

section
/-
  Plain Lean: crossings removed from the lists of a diagram. No program is named here.
-/
namespace Go.Proofs.Ytobbepmlmbbamaa.Pl

/-- The number of a half-edge when the crossings gs are removed. -/
def shf (gs : List Nat) (h : Nat) : Nat := h - 4 * (gs.filter (fun c => decide (c < h / 4))).length
/-- The crossings that stay. -/
def left (n : Nat) (gs : List Nat) : List Nat := (List.range n).filter (fun c => !gs.contains c)
def four (f : Nat → Nat) (c : Nat) : List Nat := [f (4 * c), f (4 * c + 1), f (4 * c + 2), f (4 * c + 3)]
def shrS (gs : List Nat) (sg : List Int) : List Int := (left sg.length gs).map (fun c => sg.getD c 0)
def shrM (gs : List Nat) (n : Nat) (mt : List Nat) : List Nat := (left n gs).flatMap (four (fun h => shf gs (mt.getD h 0)))

theorem left_succ (n : Nat) (gs : List Nat) : left (n + 1) gs = left n gs ++ if gs.contains n then [] else [n] := by
  unfold left
  rw [List.range_succ, List.filter_append]
  congr 1
  cases h : gs.contains n
  · rw [List.filter_cons, if_pos (by rw [h]; rfl)]; rfl
  · rw [List.filter_cons, if_neg (by rw [h]; decide)]; rfl
theorem left_zero (gs : List Nat) : left 0 gs = [] := rfl
theorem left_le (n : Nat) (gs : List Nat) : (left n gs).length ≤ n := by
  unfold left
  have := List.length_filter_le (fun c => !gs.contains c) (List.range n)
  simpa using this
theorem flat4 (l : List Nat) (f : Nat → Nat) : (l.flatMap (four f)).length = 4 * l.length := by
  induction l with
  | nil => rfl
  | cons a l ih => rw [List.flatMap_cons, List.length_append, ih, List.length_cons]; unfold four; simp only [List.length_cons, List.length_nil]; omega
theorem shrM_len (gs : List Nat) (n : Nat) (mt : List Nat) : (shrM gs n mt).length = 4 * (left n gs).length := flat4 _ _
theorem shrS_len (gs : List Nat) (sg : List Int) : (shrS gs sg).length = (left sg.length gs).length := by unfold shrS; rw [List.length_map]
theorem left_one {n c : Nat} (h : c < n) : (left n [c]).length + 1 = n := by
  induction n with
  | zero => omega
  | succ n ih =>
    rw [left_succ]
    by_cases e : c = n
    · subst e
      have : ∀ k, k ≤ c → (left k [c]).length = k := by
        intro k
        induction k with
        | zero => intro _; rfl
        | succ k ihk => intro hk; rw [left_succ, List.length_append, ihk (by omega)]; have : [c].contains k = false := by simp; omega
                        rw [this]; rfl
      have h2 := this c (Nat.le_refl _)
      simp [h2]
    · have h2 := ih (by omega)
      have : [c].contains n = false := by simp; omega
      rw [this, List.length_append]
      simp
      omega
theorem left_none {n : Nat} {gs : List Nat} (h : ∀ k, k < n → k ∉ gs) : left n gs = List.range n := by
  unfold left
  rw [List.filter_eq_self]
  intro a ha
  simp only [List.mem_range] at ha
  simpa using h a ha
theorem left_two {n x y : Nat} (h : x < y) (hy : y < n) : (left n [x, y]).length + 2 = n := by
  induction n with
  | zero => omega
  | succ n ih =>
    rw [left_succ, List.length_append]
    by_cases e : y = n
    · subst e
      have : ∀ k, k ≤ y → left k [x, y] = left k [x] := by
        intro k
        induction k with
        | zero => intro _; rfl
        | succ k ihk =>
          intro hk
          rw [left_succ, left_succ, ihk (by omega)]
          congr 1
          have : ([x, y].contains k) = ([x].contains k) := by
            rw [Bool.eq_iff_iff]; simp; omega
          rw [this]
      rw [this y (Nat.le_refl _)]
      have := left_one h
      simp
      omega
    · have h2 := ih (by omega)
      have : [x, y].contains n = false := by simp; omega
      rw [this]
      simp
      omega
theorem shf_one (c h : Nat) : shf [c] h = if c < h / 4 then h - 4 else h := by
  unfold shf
  by_cases e : c < h / 4 <;> simp [List.filter_cons, e]
/-- Not more crossings are gone ahead of h than there are. -/
def Few (gs : List Nat) : Prop := ∀ q : Nat, (gs.filter (fun c => decide (c < q))).length ≤ q
theorem few_one (c : Nat) : Few [c] := by
  intro q
  by_cases e : c < q
  · simp [List.filter_cons, e]; omega
  · simp [List.filter_cons, e]
theorem few_two {x y : Nat} (h : x < y) : Few [x, y] := by
  intro q
  by_cases e : x < q <;> by_cases e2 : y < q <;> simp [List.filter_cons, e, e2] <;> omega
theorem shf_le {gs : List Nat} (hf : Few gs) (h : Nat) : 4 * (gs.filter (fun c => decide (c < h / 4))).length ≤ h := by
  have := hf (h / 4)
  omega
end Go.Proofs.Ytobbepmlmbbamaa.Pl
end

section
/-
  Walks: kink.
-/
namespace Go.Proofs.Ytobbepmlmbbamaa
open Go.RowKit

theorem out2_i (d : Pl.Dg) (A B : Option Addr) (n cp q cq : Nat) (l : Value) (h : Int) (w : World) (e : n = d.n) (hh : 0 ≤ h ∧ h < 4 * (n : Int)) (hn : n ≤ 1000) (hs : IntsAt w A n d.sg) :
    Calls Try.prog 119 #[.agg #[.slice A n cp, .slice B q cq, l], .int .i64 h] w fun e w' => e = .returned (.bool (Pl.out d h.toNat)) ∧ Below w.heap.size w w' := by
  obtain ⟨k, rfl⟩ := Int.eq_ofNat_of_zero_le hh.1
  exact out2_n d A B n cp q cq l k w e (by omega) hn hs
theorem opp_i (h : Int) (w : World) (hh : 0 ≤ h ∧ h ≤ 1000000) :
    Calls Try.prog 121 #[.int .i64 h] w fun e w' => e = .returned (.int .i64 (Pl.tn h.toNat 2 : Nat)) ∧ w' = w := by
  obtain ⟨k, rfl⟩ := Int.eq_ofNat_of_zero_le hh.1
  refine (opposite_any k w (by omega)).mono ?_
  rintro e w' ⟨rfl, rfl⟩
  exact ⟨rfl, rfl⟩
theorem Pl.out_two' {d : Pl.Dg} {h : Nat} (e : h % 4 = 2) : Pl.out d h = true := out_two e
theorem below_drewN {B : Nat} {a w : World} (h : Below B a w) (n : Nat) : Below B a (w.drewN n) := ⟨h.os, h.tape, h.output, h.size, h.block⟩
/-- The outgoing half-edge at which a kink would begin. -/
def kk (d : Pl.Dg) (c : Nat) : Nat := if d.m (4 * c + 2) / 4 = c then 4 * c + 2 else if d.s c = 1 then 4 * c + 1 else 4 * c + 3
def isK (d : Pl.Dg) (c : Nat) : Prop := d.m (kk d c) / 4 = c
def kinkE (d : Pl.Dg) (c : Nat) (b : Bool) : Ending := if b then .returned (.tuple #[.int .i64 (Pl.tn (kk d c) 2 : Nat), .int .i64 (Pl.tn (d.m (kk d c)) 2 : Nat), .bool true]) else .returned (.tuple #[.int .i64 0, .int .i64 0, .bool false])
def KinkPost (d : Pl.Dg) (c : Nat) (w : World) (e : Ending) (w' : World) : Prop := e = kinkE d c (Pl.vb (isK d c)) ∧ Below w.heap.size w w'
theorem kink_at {d : Pl.Dg} {c o : Nat} {w : World} {e : Ending} {w' : World} (h : kk d c = o) (hm : d.m o / 4 = c) (he : e = .returned (.tuple #[.int .i64 (Pl.tn o 2 : Nat), .int .i64 (Pl.tn (d.m o) 2 : Nat), .bool true])) (hb : Below w.heap.size w w') : KinkPost d c w e w' := by
  refine ⟨?_, hb⟩
  rw [Pl.vb_true (show isK d c by unfold isK; rw [h]; exact hm)]
  unfold kinkE
  rw [if_pos rfl, h, he]
theorem kink_no {d : Pl.Dg} {c : Nat} {w : World} {e : Ending} {w' : World} (h : ¬ d.m (kk d c) / 4 = c) (he : e = .returned (.tuple #[.int .i64 0, .int .i64 0, .bool false])) (hb : Below w.heap.size w w') : KinkPost d c w e w' := by
  refine ⟨?_, hb⟩
  rw [Pl.vb_false (show ¬ isK d c from h)]
  exact he

set_option maxRecDepth 100000 in
set_option maxHeartbeats 2000000 in
theorem kink_any (d : Pl.Dg) (hd : Pl.Wf d) (A B : Option Addr) (cp cq m c : Nat) (w : World) (hm : m = 4 * d.n) (hg : DgAt w A B d) (hc : c < d.n) :
    Calls Try.prog 80 #[.agg #[.slice A d.n cp, .slice B m cq, .int .i64 d.lp], .int .i64 (c : Int)] w (KinkPost d c w) := by
  have hn := hd.few
  have HM := hide hm
  clear hm
  have hmm : m ≤ 256 := by have := HM.out; omega
  have HG := hide hg
  clear hg
  have x0 : Row (w.alloc (.cells #[.slice A d.n cp, .slice B m cq, .int .i64 d.lp] 24)) w.heap.size 24 [.slice A d.n cp, .slice B m cq, .int .i64 d.lp] := Row.new w _ _
  have X0 := hide x0
  have B0 := hide (show Below w.heap.size w (w.alloc (.cells #[.slice A d.n cp, .slice B m cq, .int .i64 d.lp] 24)) from (Below.refl _ _).alloc (Nat.le_refl _) _)
  clear x0
  go_enter Try.func80, Try.ntmps80
  go_wp2
  go_loopg [11] 3 (fun g i wx => ∃ k : Nat, k + g = 3 ∧ i = .int .i64 k ∧ (0 < k → ¬ d.m (4 * c + 2) / 4 = c) ∧ (1 < k → d.s c = 1 → ¬ d.m (4 * c + 1) / 4 = c) ∧ (2 < k → d.s c = -1 → ¬ d.m (4 * c + 3) / 4 = c) ∧ Below w.heap.size w wx ∧ Row wx w.heap.size 24 [.slice A d.n cp, .slice B m cq, .int .i64 d.lp])
  case atStart => exact ⟨0, rfl, rfl, fun h => absurd h (by omega), fun h => absurd h (by omega), fun h => absurd h (by omega), B0.out, X0.out⟩
  case round =>
    clear B0 X0
    obtain ⟨k, hkg, rfl, q0, q1, q2, b1, x1⟩ := hrel
    have HG0 := hide hkg
    have Q0 := hide q0
    have Q1 := hide q1
    have Q2 := hide q2
    have B1 := hide b1
    have X1 := hide x1
    have hk4 : k = 0 ∨ k = 1 ∨ k = 2 ∨ k = 3 := by omega
    obtain ⟨e0, e1, e2, e3⟩ := box3 x1
    have i0 : ∀ W, (Instr.index 118 (.agg #[.int .i64 2, .int .i64 1, .int .i64 3]) (.int .i64 0)).run Try.prog W = .ok (.int .i64 2) W := fun _ => by kernel_rfl
    have i1 : ∀ W, (Instr.index 118 (.agg #[.int .i64 2, .int .i64 1, .int .i64 3]) (.int .i64 1)).run Try.prog W = .ok (.int .i64 1) W := fun _ => by kernel_rfl
    have i2 : ∀ W, (Instr.index 118 (.agg #[.int .i64 2, .int .i64 1, .int .i64 3]) (.int .i64 2)).run Try.prog W = .ok (.int .i64 3) W := fun _ => by kernel_rfl
    clear hkg q0 q1 q2 b1 x1
    rcases hk4 with rfl | rfl | rfl | rfl
    · go_wp2_with fail
      refine (out2_i d A B d.n cp m cq (.int .i64 d.lp) _ _ rfl (by omega) (by omega) (HG.out.s.keep B1.out)).mono ?_
      rintro e w2 ⟨rfl, hb2⟩
      have B2 := hide (B1.out.trans (hb2.mono B1.out.size))
      have X2 := hide (X1.out.below hb2)
      have HG2 := hide (HG.out.keep B2.out)
      have et : (4 * (c : Int) + 2).toNat = 4 * c + 2 := by omega
      rw [et]
      clear et hb2
      obtain ⟨b, o, rfl, cm⟩ := mate_at HG2.out.m (k := 4 * c + 2) (by omega)
      obtain ⟨f0, f1, f2, f3⟩ := box3 X2.out
      have g1 : (0 : Int) ≤ 4 * (c : Int) + 2 := by omega
      have g2 : 4 * (c : Int) + 2 < (m : Int) := by have := HM.out; omega
      have lt := hd.lt (4 * c + 2) (by omega)
      obtain ⟨x, hx⟩ : ∃ x, x = d.m (4 * c + 2) := ⟨_, rfl⟩
      rw [← hx] at cm lt
      have HX := hide hx
      clear hx
      have hO : Pl.out d (4 * c + 2) = true := out_two (by omega)
      rw [hO]
      clear hO
      by_cases hk : x / 4 = c
      · have t1 : ((x : Int) / 4 == (c : Int)) = true := by rw [beq_iff_eq]; omega
        have HK := hide hk
        clear hk
        go_wp2_with fail
        go_quiet ((go_at_call 121; exact Calls.quiet_of_same (opp_i _ _ (by omega))))
        go_wp2
        go_ret3
        have hkk : kk d c = 4 * c + 2 := by unfold kk; rw [if_pos (by rw [← HX.out]; exact HK.out)]
        refine kink_at hkk (by rw [← HX.out]; exact HK.out) ?_ (below_drewN B2.out _)
        rw [← HX.out, show (4 * (c : Int) + 2).toNat = 4 * c + 2 by omega, Int.toNat_natCast]
        rfl
      · have t1 : ((x : Int) / 4 == (c : Int)) = false := by rw [beq_eq_false_iff_ne]; omega
        have HK := hide hk
        clear hk
        go_wp2
        go_roundg 2
        case measure => have := HG0.out; omega
        case rel => exact ⟨1, rfl, by go_num, fun _ => by rw [← HX.out]; exact HK.out, fun h => absurd h (by omega), fun h => absurd h (by omega), B2.out, X2.out⟩
    · go_wp2_with fail
      refine (out2_i d A B d.n cp m cq (.int .i64 d.lp) _ _ rfl (by omega) (by omega) (HG.out.s.keep B1.out)).mono ?_
      rintro e w2 ⟨rfl, hb2⟩
      have B2 := hide (B1.out.trans (hb2.mono B1.out.size))
      have X2 := hide (X1.out.below hb2)
      have HG2 := hide (HG.out.keep B2.out)
      have et : (4 * (c : Int) + 1).toNat = 4 * c + 1 := by omega
      rw [et]
      clear et hb2
      obtain ⟨b, o, rfl, cm⟩ := mate_at HG2.out.m (k := 4 * c + 1) (by omega)
      obtain ⟨f0, f1, f2, f3⟩ := box3 X2.out
      have g1 : (0 : Int) ≤ 4 * (c : Int) + 1 := by omega
      have g2 : 4 * (c : Int) + 1 < (m : Int) := by have := HM.out; omega
      have lt := hd.lt (4 * c + 1) (by omega)
      obtain ⟨x, hx⟩ : ∃ x, x = d.m (4 * c + 1) := ⟨_, rfl⟩
      rw [← hx] at cm lt
      have HX := hide hx
      clear hx
      by_cases hs1 : d.s c = 1
      · have S1 := hide hs1
        clear hs1
        have hO : Pl.out d (4 * c + 1) = true := by rw [out_one (by omega), show (4 * c + 1) / 4 = c by omega, S1.out]; rfl
        rw [hO]
        clear hO
        by_cases hk : x / 4 = c
        · have t1 : ((x : Int) / 4 == (c : Int)) = true := by rw [beq_iff_eq]; omega
          have HK := hide hk
          clear hk
          go_wp2_with fail
          go_quiet ((go_at_call 121; exact Calls.quiet_of_same (opp_i _ _ (by omega))))
          go_wp2
          go_ret3
          have hkk : kk d c = 4 * c + 1 := by unfold kk; rw [if_neg (Q0.out (by omega)), if_pos S1.out]
          refine kink_at hkk (by rw [← HX.out]; exact HK.out) ?_ (below_drewN B2.out _)
          rw [← HX.out, show (4 * (c : Int) + 1).toNat = 4 * c + 1 by omega, Int.toNat_natCast]
          rfl
        · have t1 : ((x : Int) / 4 == (c : Int)) = false := by rw [beq_eq_false_iff_ne]; omega
          have HK := hide hk
          clear hk
          go_wp2
          go_roundg 1
          case measure => have := HG0.out; omega
          case rel => exact ⟨2, rfl, by go_num, fun _ => Q0.out (by omega), fun _ _ => by rw [← HX.out]; exact HK.out, fun h => absurd h (by omega), B2.out, X2.out⟩
      · have S1 := hide hs1
        clear hs1
        have hO : Pl.out d (4 * c + 1) = false := by rw [out_one (by omega), show (4 * c + 1) / 4 = c by omega, beq_eq_false_iff_ne]; exact S1.out
        rw [hO]
        clear hO
        go_wp2
        go_roundg 1
        case measure => have := HG0.out; omega
        case rel => exact ⟨2, rfl, by go_num, fun _ => Q0.out (by omega), fun _ h => absurd h S1.out, fun h => absurd h (by omega), B2.out, X2.out⟩
    · go_wp2_with fail
      refine (out2_i d A B d.n cp m cq (.int .i64 d.lp) _ _ rfl (by omega) (by omega) (HG.out.s.keep B1.out)).mono ?_
      rintro e w2 ⟨rfl, hb2⟩
      have B2 := hide (B1.out.trans (hb2.mono B1.out.size))
      have X2 := hide (X1.out.below hb2)
      have HG2 := hide (HG.out.keep B2.out)
      have et : (4 * (c : Int) + 3).toNat = 4 * c + 3 := by omega
      rw [et]
      clear et hb2
      obtain ⟨b, o, rfl, cm⟩ := mate_at HG2.out.m (k := 4 * c + 3) (by omega)
      obtain ⟨f0, f1, f2, f3⟩ := box3 X2.out
      have g1 : (0 : Int) ≤ 4 * (c : Int) + 3 := by omega
      have g2 : 4 * (c : Int) + 3 < (m : Int) := by have := HM.out; omega
      have lt := hd.lt (4 * c + 3) (by omega)
      obtain ⟨x, hx⟩ : ∃ x, x = d.m (4 * c + 3) := ⟨_, rfl⟩
      rw [← hx] at cm lt
      have HX := hide hx
      clear hx
      by_cases hs1 : d.s c = -1
      · have S1 := hide hs1
        have S2 := hide (show ¬ d.s c = 1 by omega)
        clear hs1
        have hO : Pl.out d (4 * c + 3) = true := by rw [out_three (by omega), show (4 * c + 3) / 4 = c by omega, S1.out]; rfl
        rw [hO]
        clear hO
        by_cases hk : x / 4 = c
        · have t1 : ((x : Int) / 4 == (c : Int)) = true := by rw [beq_iff_eq]; omega
          have HK := hide hk
          clear hk
          go_wp2_with fail
          go_quiet ((go_at_call 121; exact Calls.quiet_of_same (opp_i _ _ (by omega))))
          go_wp2
          go_ret3
          have hkk : kk d c = 4 * c + 3 := by unfold kk; rw [if_neg (Q0.out (by omega)), if_neg S2.out]
          refine kink_at hkk (by rw [← HX.out]; exact HK.out) ?_ (below_drewN B2.out _)
          rw [← HX.out, show (4 * (c : Int) + 3).toNat = 4 * c + 3 by omega, Int.toNat_natCast]
          rfl
        · have t1 : ((x : Int) / 4 == (c : Int)) = false := by rw [beq_eq_false_iff_ne]; omega
          have HK := hide hk
          clear hk
          go_wp2
          go_roundg 0
          case measure => have := HG0.out; omega
          case rel => exact ⟨3, rfl, by go_num, fun _ => Q0.out (by omega), fun _ => Q1.out (by omega), fun _ _ => by rw [← HX.out]; exact HK.out, B2.out, X2.out⟩
      · have S1 := hide hs1
        clear hs1
        have hO : Pl.out d (4 * c + 3) = false := by rw [out_three (by omega), show (4 * c + 3) / 4 = c by omega, beq_eq_false_iff_ne]; exact S1.out
        rw [hO]
        clear hO
        go_wp2
        go_roundg 0
        case measure => have := HG0.out; omega
        case rel => exact ⟨3, rfl, by go_num, fun _ => Q0.out (by omega), fun _ => Q1.out (by omega), fun _ h => absurd h S1.out, B2.out, X2.out⟩
    · go_wp2
      go_ret3
      refine kink_no ?_ rfl B1.out
      unfold kk
      have h0 := Q0.out (by omega)
      rw [if_neg h0]
      rcases hd.sign c hc with h | h
      · rw [if_pos h]; exact Q1.out (by omega) h
      · rw [if_neg (by omega)]; exact Q2.out (by omega) h
end Go.Proofs.Ytobbepmlmbbamaa
end

section
/-
  Walks: shifted.
-/
namespace Go.Proofs.Ytobbepmlmbbamaa
open Go.RowKit

/-- How many of the first k gone crossings lie ahead of h. -/
def ahd (gs : List Nat) (h k : Nat) : Nat := ((gs.take k).filter (fun c => decide (c < h / 4))).length
theorem ahd_le (gs : List Nat) (h k : Nat) : ahd gs h k ≤ k := by
  unfold ahd
  have := List.length_filter_le (fun c => decide (c < h / 4)) (gs.take k)
  have := List.length_take_le k gs
  omega
theorem ahd_succ {gs : List Nat} {k : Nat} (hk : k < gs.length) (h : Nat) : ahd gs h (k + 1) = ahd gs h k + if gs.getD k 0 < h / 4 then 1 else 0 := by
  unfold ahd
  rw [List.take_succ_eq_append_getElem hk, List.filter_append, List.length_append, List.getD_eq_getElem?_getD, List.getElem?_eq_getElem hk]
  by_cases e : gs[k] < h / 4 <;> simp [List.filter_cons, e]
theorem ahd_all {gs : List Nat} {k : Nat} (hk : gs.length ≤ k) (h : Nat) : ahd gs h k = (gs.filter (fun c => decide (c < h / 4))).length := by
  unfold ahd
  rw [List.take_of_length_le hk]
theorem nats_at {w : World} {A : Option Addr} {n k : Nat} {gs : List Nat} (h : IntsAt w A n (nats gs)) (hk : k < n) :
    ∃ b o, A = some ⟨b, o, none⟩ ∧ w.cell? ⟨b, o + k, none⟩ = some (.int .i64 (gs.getD k 0 : Nat)) := by
  obtain ⟨b, o, e, hc⟩ := h.at_ hk
  refine ⟨b, o, e, hc.trans ?_⟩
  have hl := h.len
  unfold nats at hl ⊢
  rw [List.length_map] at hl
  rw [List.getD_eq_getElem?_getD, List.getD_eq_getElem?_getD, List.getElem?_map, List.getElem?_eq_getElem (by omega)]; rfl
set_option maxRecDepth 100000 in
set_option maxHeartbeats 1000000 in
theorem shifted_any (gs : List Nat) (A : Option Addr) (n c h : Nat) (w : World) (hg : IntsAt w A n (nats gs)) (hn : n ≤ 100) (hh : h ≤ 100000) (hf : Pl.Few gs) :
    Calls Try.prog 82 #[.int .i64 (h : Int), .slice A n c] w fun e w' => e = .returned (.int .i64 (Pl.shf gs h : Nat)) ∧ w' = w := by
  have hl := hg.len
  unfold nats at hl
  rw [List.length_map] at hl
  have HL := hide hl
  have HG := hide hg
  clear hl hg
  go_enter Try.func82, Try.ntmps82
  go_wp2
  go_loop [5, 10] (fun b i => ∃ k : Nat, k ≤ n ∧ i = .int .i64 k ∧ b = .int .i64 (4 * (ahd gs h k : Nat))) (fun _ i => n - (intOf i).toNat)
  case atStart => exact ⟨0, by omega, rfl, rfl⟩
  case round =>
    obtain ⟨k, hk, rfl, rfl⟩ := hrel
    have hle := ahd_le gs h k
    by_cases hlt : k < n
    · obtain ⟨b, o, rfl, hc⟩ := nats_at HG.out hlt
      have HS := hide (ahd_succ (gs := gs) (k := k) (by have := HL.out; omega) h)
      obtain ⟨x, hx⟩ : ∃ x, x = gs.getD k 0 := ⟨_, rfl⟩
      rw [← hx] at hc HS
      clear hx
      by_cases ht : x < h / 4
      · have HT := hide ht
        have t1 : decide ((x : Int) < (h : Int) / 4) = true := by simp; omega
        clear ht
        go_wp2
        go_round
        case rel => exact ⟨k + 1, by omega, by go_num, by rw [HS.out, if_pos HT.out]; go_num⟩
        case measure => simp [intOf]; omega
      · have HT := hide ht
        have t1 : decide ((x : Int) < (h : Int) / 4) = false := by simp; omega
        clear ht
        go_wp2
        go_round
        case rel => exact ⟨k + 1, by omega, by go_num, by rw [HS.out, if_neg HT.out]; go_num⟩
        case measure => simp [intOf]; omega
    · go_wp2
      go_ret
      refine ⟨ret_int ?_, rfl⟩
      have h1 := ahd_all (gs := gs) (k := k) (by have := HL.out; omega) h
      have h2 := Pl.shf_le hf h
      unfold Pl.shf
      rw [h1]
      omega
theorem shifted_i (gs : List Nat) (A : Option Addr) (n c : Nat) (h : Int) (w : World) (hg : IntsAt w A n (nats gs)) (hn : n ≤ 100) (hh : 0 ≤ h ∧ h ≤ 100000) (hf : Pl.Few gs) :
    Calls Try.prog 82 #[.int .i64 h, .slice A n c] w fun e w' => e = .returned (.int .i64 (Pl.shf gs h.toNat : Nat)) ∧ w' = w := by
  obtain ⟨k, rfl⟩ := Int.eq_ofNat_of_zero_le hh.1
  exact shifted_any gs A n c k w hg hn (by omega) hf
end Go.Proofs.Ytobbepmlmbbamaa
end
