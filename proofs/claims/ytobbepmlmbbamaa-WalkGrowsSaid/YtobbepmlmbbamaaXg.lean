/-
  The plain law of a curl; diagrams that the laws name.
-/
import Derived.Test.YtobbepmlmbbamaaXf
import Derived.Test.YtobbepmlmbbamaaPla
set_option linter.unusedVariables false
set_option linter.unusedSimpArgs false
namespace Go.Proofs.Ytobbepmlmbbamaa
open Go Go.RowKit

theorem getD_set2 (l : List Nat) (a b k z : Nat) (ha : a < l.length) : (l.set a b).getD k z = if k = a then b else l.getD k z := by
  rw [List.getD_eq_getElem?_getD, List.getElem?_set, List.getD_eq_getElem?_getD]
  by_cases h : a = k
  · subst h; simp [ha]
  · rw [if_neg h, if_neg (Ne.symm h)]
theorem jn_m (l : List Nat) (a b k z : Nat) (ha : a < l.length) (hb : b < l.length) : (jn l a b).getD k z = if k = b then a else if k = a then b else l.getD k z := by
  unfold jn
  rw [getD_set2 _ _ _ _ _ (by simpa using hb), getD_set2 _ _ _ _ _ ha]
theorem app_m {l : List Nat} {r : List Nat} {k z : Nat} (h : k < l.length) : (l ++ r).getD k z = l.getD k z := by
  rw [List.getD_eq_getElem?_getD, List.getD_eq_getElem?_getD, List.getElem?_append_left h]
theorem kq (n : Nat) (sg : Int) (ov : Bool) (hs : sg = 1 ∨ sg = -1) : Pl.Kq n (kI0 n sg ov) (kO0 n sg ov) (kI1 n sg ov) (kO1 n sg ov) := by
  unfold Pl.Kq kI0 kO0 kI1 kO1
  rcases hs with rfl | rfl <;> cases ov <;> simp
theorem crl_s {d : Pl.Dg} {x sg : Int} {ov : Bool} {c : Nat} (h : c < d.n) : (crl d x sg ov).s c = d.s c := by
  unfold Pl.Dg.s crl
  simp only
  rw [List.getD_eq_getElem?_getD, List.getElem?_append_left h, ← List.getD_eq_getElem?_getD]
theorem crl_s' (d : Pl.Dg) (x sg : Int) (ov : Bool) : (crl d x sg ov).s d.n = sg := by
  unfold Pl.Dg.s crl Pl.Dg.n
  simp
theorem crl_kd {d : Pl.Dg} (hd : Pl.Wf d) {x sg : Int} {ov : Bool} (hs : sg = 1 ∨ sg = -1) (hn : d.n + 1 ≤ 64) (m1 : (crl d x sg ov).m (kO0 d.n sg ov) = kI1 d.n sg ov) (m2 : (crl d x sg ov).m (kI1 d.n sg ov) = kO0 d.n sg ov) :
    Pl.Kd d (crl d x sg ov) (kI0 d.n sg ov) (kO0 d.n sg ov) (kI1 d.n sg ov) (kO1 d.n sg ov) := by
  have s' := crl_s' d x sg ov
  have w1 : ∀ e, e < 4 → (4 * d.n + e) / 4 = d.n := fun e h => by omega
  have w2 : ∀ e, e < 4 → (4 * d.n + e) % 4 = e := fun e h => by omega
  have o : ∀ e, e < 4 → Pl.out (crl d x sg ov) (4 * d.n + e) = (e == 2 || (e == 1 && sg == 1) || (e == 3 && sg == -1)) := fun e h => by
    unfold Pl.out; rw [w1 e h, w2 e h, s']
  have o0 := o 0 (by omega)
  have o1 := o 1 (by omega)
  have o2 := o 2 (by omega)
  have o3 := o 3 (by omega)
  rw [Nat.add_zero] at o0
  refine ⟨hn, crl_n _ _ _ _, ?_, ?_, fun c hc => crl_s hc, by rw [s']; exact hs, kq d.n sg ov hs, ?_, ?_, ?_, ?_, m1, m2⟩
  · unfold crl
    have := hd.len
    simp only
    split <;> (simp [jn_len, this]; omega)
  · have := hd.lp
    unfold crl; simp only; split <;> omega
  · rcases hs with rfl | rfl <;> cases ov <;> simp [kI0, o0, o1, o2, o3]
  · rcases hs with rfl | rfl <;> cases ov <;> simp [kI1, o0, o1, o2, o3]
  · rcases hs with rfl | rfl <;> cases ov <;> simp [kO0, o0, o1, o2, o3]
  · rcases hs with rfl | rfl <;> cases ov <;> simp [kO1, o0, o1, o2, o3]
theorem crl_mloop {d : Pl.Dg} (hd : Pl.Wf d) {x sg : Int} {ov : Bool} (hs : sg = 1 ∨ sg = -1) (hx : x < 0) (k : Nat) : (crl d x sg ov).m k =
    if k = kI0 d.n sg ov then kO1 d.n sg ov else if k = kO1 d.n sg ov then kI0 d.n sg ov else if k = kI1 d.n sg ov then kO0 d.n sg ov else if k = kO0 d.n sg ov then kI1 d.n sg ov else (d.mt ++ List.replicate 4 0).getD k k := by
  obtain ⟨a1, a2, a3, a4, _⟩ := (kq d.n sg ov hs).bd
  have hl := hd.len
  have e : (crl d x sg ov).mt = jn (jn (d.mt ++ List.replicate 4 0) (kO0 d.n sg ov) (kI1 d.n sg ov)) (kO1 d.n sg ov) (kI0 d.n sg ov) := by unfold crl; simp only [if_pos hx]
  unfold Pl.Dg.m
  rw [e, jn_m _ _ _ _ _ (by rw [jn_len]; simp; omega) (by rw [jn_len]; simp; omega), jn_m _ _ _ _ _ (by simp; omega) (by simp; omega)]
theorem crl_loop {d : Pl.Dg} (hd : Pl.Valid d) {x sg : Int} {ov : Bool} (hs : sg = 1 ∨ sg = -1) (hn : d.n + 1 ≤ 64) (hx : x < 0) : Pl.Valid (crl d x sg ov) := by
  obtain ⟨a1, a2, a3, a4, n1, n2, n3, n4, n5, n6⟩ := (kq d.n sg ov hs).bd
  have hm := crl_mloop hd.wf (x := x) (ov := ov) hs hx
  have hl := hd.wf.len
  refine Pl.Kd.loop hd (crl_kd hd.wf hs hn ?_ ?_) (fun h hh => ?_) ?_ ?_
  · rw [hm, if_neg (Ne.symm n1), if_neg n5, if_neg n4, if_pos rfl]
  · rw [hm, if_neg (Ne.symm n2), if_neg n6, if_pos rfl]
  · rw [hm, if_neg (by omega), if_neg (by omega), if_neg (by omega), if_neg (by omega), app_m (by omega)]; rfl
  · rw [hm, if_neg (Ne.symm n3), if_pos rfl]
  · rw [hm, if_pos rfl]
theorem crl_edge {d : Pl.Dg} (hd : Pl.Valid d) {x : Nat} {sg : Int} {ov : Bool} (hs : sg = 1 ∨ sg = -1) (hn : d.n + 1 ≤ 64) (hx : x < 4 * d.n) (ho : Pl.out d x = true) : Pl.Valid (crl d (x : Int) sg ov) := by
  obtain ⟨a1, a2, a3, a4, n1, n2, n3, n4, n5, n6⟩ := (kq d.n sg ov hs).bd
  have hl := hd.wf.len
  have hy := hd.wf.lt x hx
  have hne := hd.wf.ne x hx
  have e : (crl d (x : Int) sg ov).mt = jn (jn (jn (d.mt ++ List.replicate 4 0) (kO0 d.n sg ov) (kI1 d.n sg ov)) (kO1 d.n sg ov) (d.m x)) x (kI0 d.n sg ov) := by
    unfold crl; simp only [if_neg (show ¬ ((x : Int) < 0) by omega), Int.toNat_natCast]
  have hm : ∀ k, (crl d (x : Int) sg ov).m k = if k = kI0 d.n sg ov then x else if k = x then kI0 d.n sg ov else if k = d.m x then kO1 d.n sg ov else if k = kO1 d.n sg ov then d.m x else if k = kI1 d.n sg ov then kO0 d.n sg ov else if k = kO0 d.n sg ov then kI1 d.n sg ov else (d.mt ++ List.replicate 4 0).getD k k := fun k => by
    show (crl d (x : Int) sg ov).mt.getD k k = _
    rw [e, jn_m _ _ _ _ _ (by rw [jn_len, jn_len]; simp; omega) (by rw [jn_len, jn_len]; simp; omega), jn_m _ _ _ _ _ (by rw [jn_len]; simp; omega) (by rw [jn_len]; simp; omega), jn_m _ _ _ _ _ (by simp; omega) (by simp; omega)]
  refine Pl.Kd.edge hd (crl_kd hd.wf hs hn ?_ ?_) hx ho (fun h hh h1 h2 => ?_) ?_ ?_ ?_ ?_
  · rw [hm, if_neg (Ne.symm n1), if_neg (by omega), if_neg (by omega), if_neg n5, if_neg n4, if_pos rfl]
  · rw [hm, if_neg (Ne.symm n2), if_neg (by omega), if_neg (by omega), if_neg n6, if_pos rfl]
  · rw [hm, if_neg (by omega), if_neg h1, if_neg h2, if_neg (by omega), if_neg (by omega), if_neg (by omega), app_m (by omega)]; rfl
  · rw [hm, if_neg (Ne.symm n3), if_neg (by omega), if_neg (by omega), if_pos rfl]
  · rw [hm, if_neg (by omega), if_neg hne, if_pos rfl]
  · rw [hm, if_neg (by omega), if_pos rfl]
  · rw [hm, if_pos rfl]
theorem valid_empty {l : Nat} (h : l ≤ 64) : Pl.Valid ⟨[], [], l⟩ :=
  ⟨⟨Nat.zero_le 64, rfl, h, fun c hc => absurd hc (Nat.not_lt_zero _), fun c hc => absurd hc (by show ¬ c < 4 * 0; omega), fun c hc => absurd hc (by show ¬ c < 4 * 0; omega), fun c hc => absurd hc (by show ¬ c < 4 * 0; omega), fun c hc => absurd hc (by show ¬ c < 4 * 0; omega)⟩, fun c hc => absurd hc (Nat.not_lt_zero _)⟩
/-- Two loops, pushed over each other. -/
def two : Pl.Dg := ⟨[-1, 1], [6, 5, 4, 7, 2, 1, 0, 3], 0⟩
theorem two_is : pkD ⟨[], [], 2⟩ (-1) (-1) 0 false = two := by rfl
theorem least_two {f : Nat → Nat} {h : Nat} (e : f (f h) = h) : Pl.Least f h ↔ h ≤ f h := by
  have key : ∀ k, Pl.it f k h = h ∨ Pl.it f k h = f h := by
    intro k
    induction k with
    | zero => exact .inl rfl
    | succ k ih =>
      show f (Pl.it f k h) = h ∨ f (Pl.it f k h) = f h
      rcases ih with ih | ih <;> rw [ih]
      · exact .inr rfl
      · exact .inl e
  constructor
  · intro hl; exact hl 1
  · intro hl k
    rcases key k with h1 | h1 <;> rw [h1]
    · omega
    · exact hl
theorem all_lt {p : Nat → Prop} [DecidablePred p] {n : Nat} (h : ∀ k : Fin n, p k) : ∀ k, k < n → p k := fun k hk => h ⟨k, hk⟩
theorem two_wf : Pl.Wf two := by
  refine ⟨by decide, by decide, by decide, all_lt (n := 2) (p := fun c => two.s c = 1 ∨ two.s c = -1) (by decide), all_lt (n := 8) (p := fun c => two.m c < 4 * two.n) (by decide), all_lt (n := 8) (p := fun c => two.m c ≠ c) (by decide), all_lt (n := 8) (p := fun c => two.m (two.m c) = c) (by decide), all_lt (n := 8) (p := fun c => Pl.out two c ≠ Pl.out two (two.m c)) (by decide)⟩
theorem two_con : Pl.Comp two 0 1 ∧ Pl.Comp two 1 0 := by
  unfold Pl.Comp
  refine ⟨?_, ?_⟩
  · have h1 : Pl.Con Pl.rot two.m 0 (Pl.rot (Pl.rot 0)) := .left (.left .refl)
    exact Pl.Con.right h1
  · have h1 : Pl.Con Pl.rot two.m 4 (Pl.rot (Pl.rot (two.m 4))) := .left (.left (.right .refl))
    exact h1
theorem two_valid : Pl.Valid two := by
  refine ⟨two_wf, fun c hc => ?_⟩
  have hc2 : c = 0 ∨ c = 1 := by have : c < 2 := hc; omega
  have cc : ∀ b, b < 2 → Pl.Comp two c b := fun b hb => by
    have hb2 : b = 0 ∨ b = 1 := by omega
    rcases hc2 with rfl | rfl <;> rcases hb2 with rfl | rfl
    · exact .refl
    · exact two_con.1
    · exact two_con.2
    · exact .refl
  have e1 : Pl.cnt (fun b => Pl.Comp two c b) two.n = 2 := by
    show Pl.cnt _ 2 = 2
    rw [Pl.cnt_step_pos (cc 1 (by omega)), Pl.cnt_step_pos (cc 0 (by omega))]; rfl
  have le : ∀ h, h < 8 → (Pl.Least (Pl.nx two) h ∧ Pl.Comp two c (h / 4) ↔ h ≤ Pl.nx two h) := fun h hh => by
    have e : Pl.nx two (Pl.nx two h) = h := all_lt (n := 8) (p := fun h => Pl.nx two (Pl.nx two h) = h) (by decide) h hh
    rw [least_two e]
    exact ⟨fun h => h.1, fun h1 => ⟨h1, cc _ (by omega)⟩⟩
  have e2 : Pl.cnt (fun h => Pl.Least (Pl.nx two) h ∧ Pl.Comp two c (h / 4)) (4 * two.n) = 4 := by
    show Pl.cnt _ 8 = 4
    rw [Pl.cnt_congr (q := fun h => h ≤ Pl.nx two h) 8 le]
    rw [Pl.cnt_step_neg (by decide), Pl.cnt_step_neg (by decide), Pl.cnt_step_neg (by decide), Pl.cnt_step_neg (by decide), Pl.cnt_step_pos (by decide), Pl.cnt_step_pos (by decide), Pl.cnt_step_pos (by decide), Pl.cnt_step_pos (by decide)]
    rfl
  rw [e1, e2]
theorem two_unp : unpC two 0 1 = 0 ∧ unpD two 0 1 = ⟨[], [], 2⟩ ∧ (unpI two 0 1).kind = 3 := by
  refine ⟨by rfl, by rfl, by rfl⟩
/-- Loops, each with a kink. -/
def kinks : Nat → Pl.Dg
  | 0 => ⟨[], [], 64⟩
  | j + 1 => crl (kinks j) (-1) 1 false
theorem kinks_n : ∀ j, (kinks j).n = j
  | 0 => rfl
  | j + 1 => by show (crl (kinks j) (-1) 1 false).n = j + 1; rw [crl_n, kinks_n j]
theorem kinks_lp : ∀ j, (kinks j).lp = 64 - j
  | 0 => rfl
  | j + 1 => by
    show (crl (kinks j) (-1) 1 false).lp = 64 - (j + 1)
    unfold crl
    simp only [show (-1 : Int) < 0 by decide, if_true]
    rw [kinks_lp j]; omega
theorem kinks_valid : ∀ j, j ≤ 64 → Pl.Valid (kinks j)
  | 0, _ => valid_empty (by omega)
  | j + 1, h => crl_loop (kinks_valid j (by omega)) (.inl rfl) (by rw [kinks_n]; omega) (by decide)
theorem kinks_m : ∀ j, j + 1 ≤ 64 → (kinks (j + 1)).m 0 = 1 ∧ (kinks (j + 1)).m 1 = 0 ∧ (kinks (j + 1)).m 2 = 3 ∧ (kinks (j + 1)).m 3 = 2
  | 0, _ => by refine ⟨by rfl, by rfl, by rfl, by rfl⟩
  | j + 1, h => by
    have ih := kinks_m j (by omega)
    have hv := kinks_valid (j + 1) (by omega)
    have hn := kinks_n (j + 1)
    have hl := hv.wf.len
    have st : ∀ k, k < 4 → (kinks (j + 1 + 1)).m k = (kinks (j + 1)).m k := fun k hk => by
      show (crl (kinks (j + 1)) (-1) 1 false).m k = _
      obtain ⟨a1, a2, a3, a4, _⟩ := (kq (kinks (j + 1)).n 1 false (.inl rfl)).bd
      rw [crl_mloop hv.wf (.inl rfl) (by decide), if_neg (by omega), if_neg (by omega), if_neg (by omega), if_neg (by omega), app_m (by omega)]
      rfl
    rw [st 0 (by omega), st 1 (by omega), st 2 (by omega), st 3 (by omega)]
    exact ih
theorem kinks_apart {j : Nat} (hj : j + 1 ≤ 64) {b : Nat} (e : Pl.Comp (kinks (j + 1)) 0 b) : b = 0 := by
  unfold Pl.Comp at e
  obtain ⟨m0, m1, m2, m3⟩ := kinks_m j hj
  have key : ∀ z, Pl.Con Pl.rot (kinks (j + 1)).m (4 * 0) z → z < 4 := by
    intro z hz
    induction hz with
    | refl => omega
    | left _ ih => exact Pl.rot_lt (k := 1) ih
    | @right z _ ih =>
      have : z = 0 ∨ z = 1 ∨ z = 2 ∨ z = 3 := by omega
      rcases this with rfl | rfl | rfl | rfl
      · rw [m0]; omega
      · rw [m1]; omega
      · rw [m2]; omega
      · rw [m3]; omega
  have := key _ e
  omega
end Go.Proofs.Ytobbepmlmbbamaa
