/-
  The texts Xg, Rd, Re, Sm, Xh in one.
-/
import Derived.Test.YtobbepmlmbbamaaBAV21
import Derived.Test.YtobbepmlmbbamaaBAV11
import Derived.Test.YtobbepmlmbbamaaBAV10
import Derived.Test.YtobbepmlmbbamaaBAV12
import Derived.RegionTactic
import Derived.Test.YtobbepmlmbbamaaBAV03
import Derived.Test.YtobbepmlmbbamaaBAV09
import Derived.Deep.DrawnRows
set_option linter.unusedVariables false
set_option linter.unusedSimpArgs false

section
/-
  The plain law of a curl; diagrams that the laws name.
-/
namespace Go.Proofs.Ytobbepmlmbbamaa
open Go Go.RowKit

theorem getD_set2 (l : List Nat) (a b k z : Nat) (ha : a < l.length) : (l.set a b).getD k z = if k = a then b else l.getD k z := by
  rw [List.getD_eq_getElem?_getD, List.getElem?_set, List.getD_eq_getElem?_getD]
  by_cases h : a = k
  · subst h; simp [ha]
  · rw [if_neg h, if_neg (Ne.symm h)]
theorem jn_m (l : List Nat) (a b k z : Nat) (ha : a < l.length) (hb : b < l.length) : (jn l a b).getD k z = if k = b then a else if k = a then b else l.getD k z := by
  unfold jn
  rw [getD_set2 _ _ _ _ _ (by simpa using hb), getD_set2 _ _ _ _ _ ha]
theorem app_m {l : List Nat} {r : List Nat} {k z : Nat} (h : k < l.length) : (l ++ r).getD k z = l.getD k z := by
  rw [List.getD_eq_getElem?_getD, List.getD_eq_getElem?_getD, List.getElem?_append_left h]
theorem kq (n : Nat) (sg : Int) (ov : Bool) (hs : sg = 1 ∨ sg = -1) : Pl.Kq n (kI0 n sg ov) (kO0 n sg ov) (kI1 n sg ov) (kO1 n sg ov) := by
  unfold Pl.Kq kI0 kO0 kI1 kO1
  rcases hs with rfl | rfl <;> cases ov <;> simp
theorem crl_s {d : Pl.Dg} {x sg : Int} {ov : Bool} {c : Nat} (h : c < d.n) : (crl d x sg ov).s c = d.s c := by
  unfold Pl.Dg.s crl
  simp only
  rw [List.getD_eq_getElem?_getD, List.getElem?_append_left h, ← List.getD_eq_getElem?_getD]
theorem crl_s' (d : Pl.Dg) (x sg : Int) (ov : Bool) : (crl d x sg ov).s d.n = sg := by
  unfold Pl.Dg.s crl Pl.Dg.n
  simp
theorem crl_kd {d : Pl.Dg} (hd : Pl.Wf d) {x sg : Int} {ov : Bool} (hs : sg = 1 ∨ sg = -1) (hn : d.n + 1 ≤ 64) (m1 : (crl d x sg ov).m (kO0 d.n sg ov) = kI1 d.n sg ov) (m2 : (crl d x sg ov).m (kI1 d.n sg ov) = kO0 d.n sg ov) :
    Pl.Kd d (crl d x sg ov) (kI0 d.n sg ov) (kO0 d.n sg ov) (kI1 d.n sg ov) (kO1 d.n sg ov) := by
  have s' := crl_s' d x sg ov
  have w1 : ∀ e, e < 4 → (4 * d.n + e) / 4 = d.n := fun e h => by omega
  have w2 : ∀ e, e < 4 → (4 * d.n + e) % 4 = e := fun e h => by omega
  have o : ∀ e, e < 4 → Pl.out (crl d x sg ov) (4 * d.n + e) = (e == 2 || (e == 1 && sg == 1) || (e == 3 && sg == -1)) := fun e h => by
    unfold Pl.out; rw [w1 e h, w2 e h, s']
  have o0 := o 0 (by omega)
  have o1 := o 1 (by omega)
  have o2 := o 2 (by omega)
  have o3 := o 3 (by omega)
  rw [Nat.add_zero] at o0
  refine ⟨hn, crl_n _ _ _ _, ?_, ?_, fun c hc => crl_s hc, by rw [s']; exact hs, kq d.n sg ov hs, ?_, ?_, ?_, ?_, m1, m2⟩
  · unfold crl
    have := hd.len
    simp only
    split <;> (simp [jn_len, this]; omega)
  · have := hd.lp
    unfold crl; simp only; split <;> omega
  · rcases hs with rfl | rfl <;> cases ov <;> simp [kI0, o0, o1, o2, o3]
  · rcases hs with rfl | rfl <;> cases ov <;> simp [kI1, o0, o1, o2, o3]
  · rcases hs with rfl | rfl <;> cases ov <;> simp [kO0, o0, o1, o2, o3]
  · rcases hs with rfl | rfl <;> cases ov <;> simp [kO1, o0, o1, o2, o3]
theorem crl_mloop {d : Pl.Dg} (hd : Pl.Wf d) {x sg : Int} {ov : Bool} (hs : sg = 1 ∨ sg = -1) (hx : x < 0) (k : Nat) : (crl d x sg ov).m k =
    if k = kI0 d.n sg ov then kO1 d.n sg ov else if k = kO1 d.n sg ov then kI0 d.n sg ov else if k = kI1 d.n sg ov then kO0 d.n sg ov else if k = kO0 d.n sg ov then kI1 d.n sg ov else (d.mt ++ List.replicate 4 0).getD k k := by
  obtain ⟨a1, a2, a3, a4, _⟩ := (kq d.n sg ov hs).bd
  have hl := hd.len
  have e : (crl d x sg ov).mt = jn (jn (d.mt ++ List.replicate 4 0) (kO0 d.n sg ov) (kI1 d.n sg ov)) (kO1 d.n sg ov) (kI0 d.n sg ov) := by unfold crl; simp only [if_pos hx]
  unfold Pl.Dg.m
  rw [e, jn_m _ _ _ _ _ (by rw [jn_len]; simp; omega) (by rw [jn_len]; simp; omega), jn_m _ _ _ _ _ (by simp; omega) (by simp; omega)]
theorem crl_loop {d : Pl.Dg} (hd : Pl.Valid d) {x sg : Int} {ov : Bool} (hs : sg = 1 ∨ sg = -1) (hn : d.n + 1 ≤ 64) (hx : x < 0) : Pl.Valid (crl d x sg ov) := by
  obtain ⟨a1, a2, a3, a4, n1, n2, n3, n4, n5, n6⟩ := (kq d.n sg ov hs).bd
  have hm := crl_mloop hd.wf (x := x) (ov := ov) hs hx
  have hl := hd.wf.len
  refine Pl.Kd.loop hd (crl_kd hd.wf hs hn ?_ ?_) (fun h hh => ?_) ?_ ?_
  · rw [hm, if_neg (Ne.symm n1), if_neg n5, if_neg n4, if_pos rfl]
  · rw [hm, if_neg (Ne.symm n2), if_neg n6, if_pos rfl]
  · rw [hm, if_neg (by omega), if_neg (by omega), if_neg (by omega), if_neg (by omega), app_m (by omega)]; rfl
  · rw [hm, if_neg (Ne.symm n3), if_pos rfl]
  · rw [hm, if_pos rfl]
theorem crl_edge {d : Pl.Dg} (hd : Pl.Valid d) {x : Nat} {sg : Int} {ov : Bool} (hs : sg = 1 ∨ sg = -1) (hn : d.n + 1 ≤ 64) (hx : x < 4 * d.n) (ho : Pl.out d x = true) : Pl.Valid (crl d (x : Int) sg ov) := by
  obtain ⟨a1, a2, a3, a4, n1, n2, n3, n4, n5, n6⟩ := (kq d.n sg ov hs).bd
  have hl := hd.wf.len
  have hy := hd.wf.lt x hx
  have hne := hd.wf.ne x hx
  have e : (crl d (x : Int) sg ov).mt = jn (jn (jn (d.mt ++ List.replicate 4 0) (kO0 d.n sg ov) (kI1 d.n sg ov)) (kO1 d.n sg ov) (d.m x)) x (kI0 d.n sg ov) := by
    unfold crl; simp only [if_neg (show ¬ ((x : Int) < 0) by omega), Int.toNat_natCast]
  have hm : ∀ k, (crl d (x : Int) sg ov).m k = if k = kI0 d.n sg ov then x else if k = x then kI0 d.n sg ov else if k = d.m x then kO1 d.n sg ov else if k = kO1 d.n sg ov then d.m x else if k = kI1 d.n sg ov then kO0 d.n sg ov else if k = kO0 d.n sg ov then kI1 d.n sg ov else (d.mt ++ List.replicate 4 0).getD k k := fun k => by
    show (crl d (x : Int) sg ov).mt.getD k k = _
    rw [e, jn_m _ _ _ _ _ (by rw [jn_len, jn_len]; simp; omega) (by rw [jn_len, jn_len]; simp; omega), jn_m _ _ _ _ _ (by rw [jn_len]; simp; omega) (by rw [jn_len]; simp; omega), jn_m _ _ _ _ _ (by simp; omega) (by simp; omega)]
  refine Pl.Kd.edge hd (crl_kd hd.wf hs hn ?_ ?_) hx ho (fun h hh h1 h2 => ?_) ?_ ?_ ?_ ?_
  · rw [hm, if_neg (Ne.symm n1), if_neg (by omega), if_neg (by omega), if_neg n5, if_neg n4, if_pos rfl]
  · rw [hm, if_neg (Ne.symm n2), if_neg (by omega), if_neg (by omega), if_neg n6, if_pos rfl]
  · rw [hm, if_neg (by omega), if_neg h1, if_neg h2, if_neg (by omega), if_neg (by omega), if_neg (by omega), app_m (by omega)]; rfl
  · rw [hm, if_neg (Ne.symm n3), if_neg (by omega), if_neg (by omega), if_pos rfl]
  · rw [hm, if_neg (by omega), if_neg hne, if_pos rfl]
  · rw [hm, if_neg (by omega), if_pos rfl]
  · rw [hm, if_pos rfl]
theorem valid_empty {l : Nat} (h : l ≤ 64) : Pl.Valid ⟨[], [], l⟩ :=
  ⟨⟨Nat.zero_le 64, rfl, h, fun c hc => absurd hc (Nat.not_lt_zero _), fun c hc => absurd hc (by show ¬ c < 4 * 0; omega), fun c hc => absurd hc (by show ¬ c < 4 * 0; omega), fun c hc => absurd hc (by show ¬ c < 4 * 0; omega), fun c hc => absurd hc (by show ¬ c < 4 * 0; omega)⟩, fun c hc => absurd hc (Nat.not_lt_zero _)⟩
/-- Two loops, pushed over each other. -/
def two : Pl.Dg := ⟨[-1, 1], [6, 5, 4, 7, 2, 1, 0, 3], 0⟩
theorem two_is : pkD ⟨[], [], 2⟩ (-1) (-1) 0 false = two := by rfl
theorem least_two {f : Nat → Nat} {h : Nat} (e : f (f h) = h) : Pl.Least f h ↔ h ≤ f h := by
  have key : ∀ k, Pl.it f k h = h ∨ Pl.it f k h = f h := by
    intro k
    induction k with
    | zero => exact .inl rfl
    | succ k ih =>
      show f (Pl.it f k h) = h ∨ f (Pl.it f k h) = f h
      rcases ih with ih | ih <;> rw [ih]
      · exact .inr rfl
      · exact .inl e
  constructor
  · intro hl; exact hl 1
  · intro hl k
    rcases key k with h1 | h1 <;> rw [h1]
    · omega
    · exact hl
theorem all_lt {p : Nat → Prop} [DecidablePred p] {n : Nat} (h : ∀ k : Fin n, p k) : ∀ k, k < n → p k := fun k hk => h ⟨k, hk⟩
theorem two_wf : Pl.Wf two := by
  refine ⟨by decide, by decide, by decide, all_lt (n := 2) (p := fun c => two.s c = 1 ∨ two.s c = -1) (by decide), all_lt (n := 8) (p := fun c => two.m c < 4 * two.n) (by decide), all_lt (n := 8) (p := fun c => two.m c ≠ c) (by decide), all_lt (n := 8) (p := fun c => two.m (two.m c) = c) (by decide), all_lt (n := 8) (p := fun c => Pl.out two c ≠ Pl.out two (two.m c)) (by decide)⟩
theorem two_con : Pl.Comp two 0 1 ∧ Pl.Comp two 1 0 := by
  unfold Pl.Comp
  refine ⟨?_, ?_⟩
  · have h1 : Pl.Con Pl.rot two.m 0 (Pl.rot (Pl.rot 0)) := .left (.left .refl)
    exact Pl.Con.right h1
  · have h1 : Pl.Con Pl.rot two.m 4 (Pl.rot (Pl.rot (two.m 4))) := .left (.left (.right .refl))
    exact h1
theorem two_valid : Pl.Valid two := by
  refine ⟨two_wf, fun c hc => ?_⟩
  have hc2 : c = 0 ∨ c = 1 := by have : c < 2 := hc; omega
  have cc : ∀ b, b < 2 → Pl.Comp two c b := fun b hb => by
    have hb2 : b = 0 ∨ b = 1 := by omega
    rcases hc2 with rfl | rfl <;> rcases hb2 with rfl | rfl
    · exact .refl
    · exact two_con.1
    · exact two_con.2
    · exact .refl
  have e1 : Pl.cnt (fun b => Pl.Comp two c b) two.n = 2 := by
    show Pl.cnt _ 2 = 2
    rw [Pl.cnt_step_pos (cc 1 (by omega)), Pl.cnt_step_pos (cc 0 (by omega))]; rfl
  have le : ∀ h, h < 8 → (Pl.Least (Pl.nx two) h ∧ Pl.Comp two c (h / 4) ↔ h ≤ Pl.nx two h) := fun h hh => by
    have e : Pl.nx two (Pl.nx two h) = h := all_lt (n := 8) (p := fun h => Pl.nx two (Pl.nx two h) = h) (by decide) h hh
    rw [least_two e]
    exact ⟨fun h => h.1, fun h1 => ⟨h1, cc _ (by omega)⟩⟩
  have e2 : Pl.cnt (fun h => Pl.Least (Pl.nx two) h ∧ Pl.Comp two c (h / 4)) (4 * two.n) = 4 := by
    show Pl.cnt _ 8 = 4
    rw [Pl.cnt_congr (q := fun h => h ≤ Pl.nx two h) 8 le]
    rw [Pl.cnt_step_neg (by decide), Pl.cnt_step_neg (by decide), Pl.cnt_step_neg (by decide), Pl.cnt_step_neg (by decide), Pl.cnt_step_pos (by decide), Pl.cnt_step_pos (by decide), Pl.cnt_step_pos (by decide), Pl.cnt_step_pos (by decide)]
    rfl
  rw [e1, e2]
theorem two_unp : unpC two 0 1 = 0 ∧ unpD two 0 1 = ⟨[], [], 2⟩ ∧ (unpI two 0 1).kind = 3 := by
  refine ⟨by rfl, by rfl, by rfl⟩
/-- Loops, each with a kink. -/
def kinks : Nat → Pl.Dg
  | 0 => ⟨[], [], 64⟩
  | j + 1 => crl (kinks j) (-1) 1 false
theorem kinks_n : ∀ j, (kinks j).n = j
  | 0 => rfl
  | j + 1 => by show (crl (kinks j) (-1) 1 false).n = j + 1; rw [crl_n, kinks_n j]
theorem kinks_lp : ∀ j, (kinks j).lp = 64 - j
  | 0 => rfl
  | j + 1 => by
    show (crl (kinks j) (-1) 1 false).lp = 64 - (j + 1)
    unfold crl
    simp only [show (-1 : Int) < 0 by decide, if_true]
    rw [kinks_lp j]; omega
theorem kinks_valid : ∀ j, j ≤ 64 → Pl.Valid (kinks j)
  | 0, _ => valid_empty (by omega)
  | j + 1, h => crl_loop (kinks_valid j (by omega)) (.inl rfl) (by rw [kinks_n]; omega) (by decide)
theorem kinks_m : ∀ j, j + 1 ≤ 64 → (kinks (j + 1)).m 0 = 1 ∧ (kinks (j + 1)).m 1 = 0 ∧ (kinks (j + 1)).m 2 = 3 ∧ (kinks (j + 1)).m 3 = 2
  | 0, _ => by refine ⟨by rfl, by rfl, by rfl, by rfl⟩
  | j + 1, h => by
    have ih := kinks_m j (by omega)
    have hv := kinks_valid (j + 1) (by omega)
    have hn := kinks_n (j + 1)
    have hl := hv.wf.len
    have st : ∀ k, k < 4 → (kinks (j + 1 + 1)).m k = (kinks (j + 1)).m k := fun k hk => by
      show (crl (kinks (j + 1)) (-1) 1 false).m k = _
      obtain ⟨a1, a2, a3, a4, _⟩ := (kq (kinks (j + 1)).n 1 false (.inl rfl)).bd
      rw [crl_mloop hv.wf (.inl rfl) (by decide), if_neg (by omega), if_neg (by omega), if_neg (by omega), if_neg (by omega), app_m (by omega)]
      rfl
    rw [st 0 (by omega), st 1 (by omega), st 2 (by omega), st 3 (by omega)]
    exact ih
theorem kinks_apart {j : Nat} (hj : j + 1 ≤ 64) {b : Nat} (e : Pl.Comp (kinks (j + 1)) 0 b) : b = 0 := by
  unfold Pl.Comp at e
  obtain ⟨m0, m1, m2, m3⟩ := kinks_m j hj
  have key : ∀ z, Pl.Con Pl.rot (kinks (j + 1)).m (4 * 0) z → z < 4 := by
    intro z hz
    induction hz with
    | refl => omega
    | left _ ih => exact Pl.rot_lt (k := 1) ih
    | @right z _ ih =>
      have : z = 0 ∨ z = 1 ∨ z = 2 ∨ z = 3 := by omega
      rcases this with rfl | rfl | rfl | rfl
      · rw [m0]; omega
      · rw [m1]; omega
      · rw [m2]; omega
      · rw [m3]; omega
  have := key _ e
  omega
end Go.Proofs.Ytobbepmlmbbamaa
end

section
/-
  Walks: join, shift, overs of the reference.
-/
namespace Go.Proofs.Ytobbepmlmbbamaa
open Go Go.RowKit

theorem OwnN.drew {w : World} {base g n cap : Nat} {l : List Nat} (h : OwnN w base g n cap l) : OwnN w.drew base g n cap l := h
theorem OwnN.drewN {w : World} {base g n cap : Nat} {l : List Nat} (h : OwnN w base g n cap l) (k : Nat) : OwnN (w.drewN k) base g n cap l := h
theorem grownBy_alloc (w : World) (o : Obj) (r : Option Nat) : w.grownBy (w.alloc o) r :=
  ⟨rfl, rfl, rfl, by simp, fun k hk _ => Below.heap_alloc w o k hk⟩
theorem grownBy_drew {w w' : World} {r : Option Nat} (h : w.grownBy w' r) : w.grownBy w'.drew r := ⟨h.os, h.tape, h.output, h.size, h.block⟩
theorem jn_comm (l : List Nat) (a b : Nat) : (l.set b a).set a b = jn l a b := by
  unfold jn
  by_cases e : a = b
  · subst e; rfl
  · exact List.set_comm _ _ (fun e2 => e e2.symm)
set_option maxHeartbeats 1000000 in
theorem rjoin_any (base g n cap a b na ca : Nat) (A : Option Addr) (lp : Value) (l : List Nat) (w : World) (h : OwnN w base g n cap l) (ha : a < n) (hb : b < n) (hn : n ≤ 100000) :
    Calls Try.prog 97 #[.agg #[.slice A na ca, .slice (some ⟨g, 0, none⟩) n cap, lp], .int .i64 (a : Int), .int .i64 (b : Int)] w fun e w' => e = .returned (.tuple #[]) ∧ OwnN w' base g n cap (jn l a b) ∧ w.grownBy w' (some g) := by
  have hgl : g < w.heap.size := by
    have := World.ownsRow.lt h g rfl
    exact this.2
  obtain ⟨h2, g2⟩ := h.set a b
  obtain ⟨h3, g3⟩ := h2.set b a
  obtain ⟨h4, g4⟩ := h.set b a
  obtain ⟨h5, g5⟩ := h4.set a b
  have H3 := hide (OwnN.alloc h3 (.cells #[.slice A na ca, .slice (some ⟨g, 0, none⟩) n cap, lp] 24))
  have H5 := hide (show OwnN _ base g n cap (jn l a b) by rw [jn_comm] at h5; exact OwnN.alloc h5 (.cells #[.slice A na ca, .slice (some ⟨g, 0, none⟩) n cap, lp] 24))
  have G3 := hide (grownBy_trans (grownBy_trans g2 g3) (grownBy_alloc _ (.cells #[.slice A na ca, .slice (some ⟨g, 0, none⟩) n cap, lp] 24) (some g)))
  have G5 := hide (grownBy_trans (grownBy_trans g4 g5) (grownBy_alloc _ (.cells #[.slice A na ca, .slice (some ⟨g, 0, none⟩) n cap, lp] 24) (some g)))
  have c1 := h.cell ha
  have f1 := h.free a
  have c2 := h2.cell hb
  have c3 := h.cell hb
  have f3 := h.free b
  have c4 := h4.cell ha
  have hne : w.heap.size ≠ g := by omega
  clear h h2 h3 h4 h5 g2 g3 g4 g5
  go_enter Try.func97, Try.ntmps97
  go_upto_region 1 with fail
  go_region
  all_goals
    go_wp2
    go_end0
    first
      | exact ⟨rfl, H3.out.drew, grownBy_drew G3.out⟩
      | exact ⟨rfl, H5.out.drew, grownBy_drew G5.out⟩
/-- A half-edge's number behind the removal of a crossing. -/
def sh1 (h : Int) (c : Nat) : Int := if 0 ≤ h ∧ (c : Int) < h / 4 then h - 4 else h
theorem rshift_any (h : Int) (c : Nat) (w : World) (hh : -1000000 ≤ h ∧ h ≤ 1000000) :
    Calls Try.prog 99 #[.int .i64 h, .int .i64 (c : Int)] w fun e w' => e = .returned (.int .i64 (sh1 h c)) ∧ w' = w := by
  by_cases h0 : 0 ≤ h
  · obtain ⟨k, rfl⟩ := Int.eq_ofNat_of_zero_le h0
    by_cases h1 : c < k / 4
    · have E := hide (show sh1 (k : Int) c = (k : Int) - 4 by unfold sh1; rw [if_pos (by omega)])
      have t1 : decide ((0 : Int) ≤ (k : Int)) = true := by simp
      have t2 : decide ((c : Int) < (k : Int) / 4) = true := by simp; omega
      go_enter Try.func99, Try.ntmps99
      go_wp2
      go_ret
      exact ⟨by rw [E.out]; rfl, rfl⟩
    · have E := hide (show sh1 (k : Int) c = (k : Int) by unfold sh1; rw [if_neg (by omega)])
      have t1 : decide ((0 : Int) ≤ (k : Int)) = true := by simp
      have t2 : decide ((c : Int) < (k : Int) / 4) = false := by simp; omega
      go_enter Try.func99, Try.ntmps99
      go_wp2
      go_ret
      exact ⟨by rw [E.out]; rfl, rfl⟩
  · have E := hide (show sh1 h c = h by unfold sh1; rw [if_neg (by omega)])
    have t1 : decide ((0 : Int) ≤ h) = false := by simpa using h0
    clear h0
    go_enter Try.func99, Try.ntmps99
    go_wp2
    go_ret
    exact ⟨by rw [E.out]; rfl, rfl⟩
end Go.Proofs.Ytobbepmlmbbamaa
end

section
/-
  Walks: overs, Copy of the reference.
-/
namespace Go.Proofs.Ytobbepmlmbbamaa
open Go Go.RowKit

theorem rovers_any (A B : Option Addr) (n cp q cq c : Nat) (lp : Value) (sg : List Int) (w : World) (hs : IntsAt w A n sg) (hc : c < n) (hn : n ≤ 1000) :
    Calls Try.prog 96 #[.agg #[.slice A n cp, .slice B q cq, lp], .int .i64 (c : Int)] w fun e w' => e = .returned (.tuple #[.int .i64 (if Pl.pv sg c = 1 then 4 * (c : Int) + 3 else 4 * (c : Int) + 1), .int .i64 (if Pl.pv sg c = 1 then 4 * (c : Int) + 1 else 4 * (c : Int) + 3)]) ∧ Below w.heap.size w w' := by
  obtain ⟨b, o, rfl, h1⟩ := hs.at_ hc
  have hb : Below w.heap.size w (w.alloc (.cells #[.slice (some ⟨b, o, none⟩) n cp, .slice B q cq, lp] 24)) := (Below.refl _ _).alloc (Nat.le_refl _) _
  obtain ⟨u, hu⟩ : ∃ u, u = Pl.pv sg c := ⟨_, rfl⟩
  rw [show sg.getD c 0 = u from hu.symm] at h1
  rw [← hu]
  have h2 := cell_below h1 hb
  clear hs hu h1
  by_cases h : u = 1
  · have t1 : (u == 1) = true := by simpa using h
    rw [if_pos h, if_pos h]
    clear h
    go_enter Try.func96, Try.ntmps96
    go_wp2
    go_ret2
    exact ⟨rfl, hb⟩
  · have t1 : (u == 1) = false := by simpa using h
    rw [if_neg h, if_neg h]
    clear h
    go_enter Try.func96, Try.ntmps96
    go_wp2
    go_ret2
    exact ⟨rfl, hb⟩
theorem own_empty (W : World) : (W.alloc (.cells #[] 3)).ownsRow W.heap.size 3 1 (.slice (some ⟨W.heap.size, 0, none⟩) 0 0) 0 [] :=
  ⟨rfl, .inr ⟨W.heap.size, 0, #[], rfl, Nat.le_refl _, heap_alloc_new W _, Nat.le_refl _, by unfold maxLen; omega, rfl, rfl⟩⟩
set_option maxRecDepth 100000 in
set_option maxHeartbeats 1000000 in
theorem rcopy_any (A B : Option Addr) (n cp q cq : Nat) (lp : Int) (sg mt : List Int) (w : World) (hs : IntsAt w A n sg) (hm : IntsAt w B q mt) (hn : n ≤ 1000) (hq : q ≤ 4000) :
    Calls Try.prog 25 #[.agg #[.slice A n cp, .slice B q cq, .int .i64 lp]] w fun e w' => ∃ (A2 B2 : Option Addr) (c2 d2 : Nat), e = .returned (.agg #[.slice A2 n c2, .slice B2 q d2, .int .i64 lp]) ∧ w'.ownsRow w.heap.size 3 1 (.slice A2 n c2) n (sg.map (.int .i64)) ∧ w'.ownsRow w.heap.size 3 1 (.slice B2 q d2) q (mt.map (.int .i64)) ∧ Below w.heap.size w w' ∧ (∀ g, (Value.slice A2 n c2).ownBlock = some g → (Value.slice B2 q d2).ownBlock ≠ some g) := by
  have HS := hide hs
  have HM := hide hm
  clear hs hm
  obtain ⟨i0, hi0, hz0, hz1, hz2⟩ := info_parts intInfo
  have B0 := hide (show Below w.heap.size w ((w.alloc (.cells #[.slice A n cp, .slice B q cq, .int .i64 lp] 24)).alloc (.cells #[.slice none 0 0, .slice none 0 0, .int .i64 0] 24)) from ((Below.refl _ _).alloc (Nat.le_refl _) _).alloc (by simp) _)
  have X0 := hide (show Row ((w.alloc (.cells #[.slice A n cp, .slice B q cq, .int .i64 lp] 24)).alloc (.cells #[.slice none 0 0, .slice none 0 0, .int .i64 0] 24)) w.heap.size 24 [.slice A n cp, .slice B q cq, .int .i64 lp] from (Row.new w _ _).alloc _)
  have Y0 := hide (show Row ((w.alloc (.cells #[.slice A n cp, .slice B q cq, .int .i64 lp] 24)).alloc (.cells #[.slice none 0 0, .slice none 0 0, .int .i64 0] 24)) (w.heap.size + 1) 24 [.slice none 0 0, .slice none 0 0, .int .i64 0] from row_at (vs := [.slice none 0 0, .slice none 0 0, .int .i64 0]) (by simp))
  obtain ⟨W0, hW0⟩ : ∃ W0 : World, W0 = (w.alloc (.cells #[.slice A n cp, .slice B q cq, .int .i64 lp] 24)).alloc (.cells #[.slice none 0 0, .slice none 0 0, .int .i64 0] 24) := ⟨_, rfl⟩
  rw [← hW0] at B0 X0 Y0
  have HZ := hide (show W0.heap.size = w.heap.size + 1 + 1 by rw [hW0]; simp)
  obtain ⟨x0, x1, x2, x3⟩ := box3 X0.out
  go_enter Try.func25, Try.ntmps25
  go_upto_region 1 with fail
  rw [← hW0]
  clear hW0
  have E0 := hide (own_empty W0)
  have X1 := hide (X0.out.alloc (.cells #[] 3))
  have Y1 := hide (Y0.out.alloc (.cells #[] 3))
  clear x0 x1 x2 x3
  obtain ⟨x0, x1, x2, x3⟩ := box3 X1.out
  have B1 := hide (B0.out.alloc (by have := HZ.out; omega) (.cells #[] 3))
  have hn1 : 0 + n ≤ maxLen := by unfold maxLen; omega
  have hn2 : (0 + n) * 8 ≤ 140737488355328 := by omega
  have hq1 : 0 + q ≤ maxLen := by unfold maxLen; omega
  have hq2 : (0 + q) * 8 ≤ 140737488355328 := by omega
  have hk1 : W0.heap.size ≤ (W0.alloc (.cells #[] 3)).heap.size := by simp
  go_upto_region 2 with (at_builtin; refine wpList_append_ints _ rfl _ _ 22 rfl W0.heap.size 3 i0 (.int .i64 0) 8 Try.underlying22 hi0 hz0 hz1 hz2 rfl _ 0 [] (by rfl) E0.out A n cp sg (by rfl) (HS.out.keep B1.out) hn1 hn2 hk1 ?_; intro v2 w2 own2 grow2; rw [Nat.zero_add, List.nil_append] at own2; obtain ⟨A2, c2, rfl⟩ := owns_slice own2; have X2 := hide (X1.out.grown grow2 (fun e => by have := (E0.out.lt _ e.symm).1; have := HZ.out; omega)); have Y2 := hide (Y1.out.grown grow2 (fun e => by have := (E0.out.lt _ e.symm).1; have := HZ.out; omega)); have B2 := hide (B1.out.grown grow2 (by have := B1.out.size; omega) (fun k hk => by have := (E0.out.lt k hk).1; have := HZ.out; omega)); have OWN2 := hide own2; clear own2 grow2 x0 x1 x2 x3; obtain ⟨x0, x1, x2, x3⟩ := box3 X2.out)
  obtain ⟨W3, hW3⟩ : ∃ W3 : World, W3 = w2.setCell ⟨w.heap.size, 0, none⟩ (.slice A2 n c2) := ⟨_, rfl⟩
  have X3 := hide (show Row W3 w.heap.size 24 [.slice A2 n c2, .slice B q cq, .int .i64 lp] by rw [hW3]; exact X2.out.set 0 _)
  have Y3 := hide (show Row W3 (w.heap.size + 1) 24 [.slice none 0 0, .slice none 0 0, .int .i64 0] by rw [hW3]; exact Y2.out.other (by simp) _)
  have B3 := hide (show Below w.heap.size w W3 by rw [hW3]; exact B2.out.setCell (by show w.heap.size ≤ w.heap.size; omega) _)
  have OWN3 := hide (show W3.ownsRow W0.heap.size 3 1 (.slice A2 n c2) n (sg.map (.int .i64)) by rw [hW3]; exact ownsRow_setCell_below OWN2.out (by have := HZ.out; show w.heap.size < W0.heap.size; omega) _)
  rw [← hW3]
  have hz3 : w.heap.size + 1 < W3.heap.size := Y3.out.lt
  have hlt3 : ∀ g, (Value.slice A2 n c2).ownBlock = some g → g < W3.heap.size := fun g hg => (OWN3.out.lt g hg).2
  clear hW3 x0 x1 x2 x3 X2 Y2 B2 OWN2 X1 Y1 B1 E0 X0 Y0 B0
  have E4 := hide (own_empty W3)
  have X4 := hide (X3.out.alloc (.cells #[] 3))
  have Y4 := hide (Y3.out.alloc (.cells #[] 3))
  have B4 := hide (B3.out.alloc (by omega) (.cells #[] 3))
  have O4 := hide (OWN3.out.alloc (.cells #[] 3))
  obtain ⟨x0, x1, x2, x3⟩ := box3 X4.out
  have hk2 : W3.heap.size ≤ (W3.alloc (.cells #[] 3)).heap.size := by simp
  go_upto_region 3 with (at_builtin; refine wpList_append_ints _ rfl _ _ 22 rfl W3.heap.size 3 i0 (.int .i64 0) 8 Try.underlying22 hi0 hz0 hz1 hz2 rfl _ 0 [] (by rfl) E4.out B q cq mt (by rfl) (HM.out.keep B4.out) hq1 hq2 hk2 ?_; intro v5 w5 own5 grow5; rw [Nat.zero_add, List.nil_append] at own5; obtain ⟨B2, d2, rfl⟩ := owns_slice own5; have X5 := hide (X4.out.grown grow5 (fun e => by have := (E4.out.lt _ e.symm).1; omega)); have Y5 := hide (Y4.out.grown grow5 (fun e => by have := (E4.out.lt _ e.symm).1; omega)); have B5 := hide (B4.out.grown grow5 (by have := B4.out.size; omega) (fun k hk => by have := (E4.out.lt k hk).1; omega)); have OWN5 := hide own5; have O5 := hide (O4.out.kept grow5 (.inr (fun e => by have := hlt3 _ e; have := (E4.out.lt _ rfl).1; omega))); clear own5 grow5 x0 x1 x2 x3; obtain ⟨x0, x1, x2, x3⟩ := box3 X5.out)
  obtain ⟨y0, y1, y2, y3⟩ := box3 Y5.out
  have hzw : w.heap.size < W0.heap.size := by have := HZ.out; omega
  go_wp2
  have YF := hide ((((Y5.out.other (show w.heap.size + 1 ≠ (⟨w.heap.size, 1, none⟩ : Addr).block by show w.heap.size + 1 ≠ w.heap.size; omega) (.slice B2 q d2)).set 0 (.slice A2 n c2)).set 1 (.slice B2 q d2)).set 2 (.int .i64 lp))
  refine bodyPost_ret (v := .agg #[.slice A2 n c2, .slice B2 q d2, .int .i64 lp]) ?_ rfl ?_
  · obtain ⟨r0, r1, r2, _⟩ := box3 YF.out
    simp [results, Try.results25, go_sem, r0, r1, r2]
  · have k1 : w.heap.size + 1 < W0.heap.size := by have := HZ.out; omega
    refine ⟨A2, B2, c2, d2, rfl, ?_, ?_, ?_, fun g hg e => ?_⟩
    · exact own_keep (ownsRow_setCell_below (ownsRow_setCell_below (ownsRow_setCell_below (ownsRow_setCell_below O5.out (by show w.heap.size < W0.heap.size; omega) _) (by show w.heap.size + 1 < W0.heap.size; omega) _) (by show w.heap.size + 1 < W0.heap.size; omega) _) (by show w.heap.size + 1 < W0.heap.size; omega) _) (Below.refl _ _) (by omega)
    · exact own_keep (ownsRow_setCell_below (ownsRow_setCell_below (ownsRow_setCell_below (ownsRow_setCell_below OWN5.out (by show w.heap.size < W3.heap.size; omega) _) (by show w.heap.size + 1 < W3.heap.size; omega) _) (by show w.heap.size + 1 < W3.heap.size; omega) _) (by show w.heap.size + 1 < W3.heap.size; omega) _) (Below.refl _ _) (by omega)
    · exact (((B5.out.setCell (by show w.heap.size ≤ w.heap.size; omega) _).setCell (by show w.heap.size ≤ w.heap.size + 1; omega) _).setCell (by show w.heap.size ≤ w.heap.size + 1; omega) _).setCell (by show w.heap.size ≤ w.heap.size + 1; omega) _
    · have h1 := hlt3 g hg
      have h2 := (OWN5.out.lt g e).1
      omega
end Go.Proofs.Ytobbepmlmbbamaa
end

section
/-
  Walks: Same of the reference, at equal diagrams.
-/
namespace Go.Proofs.Ytobbepmlmbbamaa
open Go Go.RowKit
attribute [local go_sem ↓] Go.wp_at_zero Go.wp_at_succ

set_option maxRecDepth 100000 in
set_option maxHeartbeats 4000000 in
theorem same_yes (sg mt : List Int) (lp : Int) (A B A2 B2 : Option Addr) (n q cp cq cp2 cq2 : Nat) (w : World) (hs : IntsAt w A n sg) (hm : IntsAt w B q mt) (hs2 : IntsAt w A2 n sg) (hm2 : IntsAt w B2 q mt) (hn : n ≤ 100000) (hq : q ≤ 100000) :
    Calls Try.prog 24 #[.agg #[.slice A n cp, .slice B q cq, .int .i64 lp], .agg #[.slice A2 n cp2, .slice B2 q cq2, .int .i64 lp]] w fun e w' => e = .returned (.bool true) ∧ Below w.heap.size w w' := by
  have HS := hide hs
  have HM := hide hm
  have HS2 := hide hs2
  have HM2 := hide hm2
  clear hs hm hs2 hm2
  have r0 := (row_at (W := w) (g := w.heap.size) (t := 24) (vs := [.slice A n cp, .slice B q cq, .int .i64 lp]) rfl).alloc (.cells #[.slice A2 n cp2, .slice B2 q cq2, .int .i64 lp] 24)
  have r1 := row_at (W := w.alloc (.cells #[.slice A n cp, .slice B q cq, .int .i64 lp] 24)) (g := w.heap.size + 1) (t := 24) (vs := [.slice A2 n cp2, .slice B2 q cq2, .int .i64 lp]) (by simp)
  have b0 : Below w.heap.size w ((w.alloc (.cells #[.slice A n cp, .slice B q cq, .int .i64 lp] 24)).alloc (.cells #[.slice A2 n cp2, .slice B2 q cq2, .int .i64 lp] 24)) := ((Below.refl _ _).alloc (Nat.le_refl _) _).alloc (by simp) _
  have R0 := hide r0
  have R1 := hide r1
  have B0 := hide b0
  clear r0 r1 b0
  go_enter Try.func24, Try.ntmps24
  go_wp2
  go_loopg [5] n (fun g i wx => ∃ k : Nat, k + g = n ∧ i = .int .i64 k ∧ Row wx w.heap.size 24 [.slice A n cp, .slice B q cq, .int .i64 lp] ∧ Row wx (w.heap.size + 1) 24 [.slice A2 n cp2, .slice B2 q cq2, .int .i64 lp] ∧ Below w.heap.size w wx)
  case atStart => exact ⟨0, by omega, rfl, R0.out, R1.out, B0.out⟩
  case round =>
    clear R0 R1 B0
    obtain ⟨k, hkg, rfl, r0, r1, hb⟩ := hrel
    have R0 := hide r0
    have R1 := hide r1
    have HB := hide hb
    have HKG := hide hkg
    obtain ⟨c0, c1, c2, c3⟩ := box3 r0
    obtain ⟨d0, d1, d2, d3⟩ := box3 r1
    clear hb r0 r1
    by_cases hk : k < n
    · have hki : (k : Int) < (n : Int) := by omega
      obtain ⟨b, o, rfl, x1⟩ := (HS.out.keep HB.out).at_ hk
      obtain ⟨b2, o2, rfl, x2⟩ := (HS2.out.keep HB.out).at_ hk
      have k0 : (0 : Int) ≤ (k : Int) := by omega
      obtain ⟨u, hu⟩ : ∃ u, u = sg.getD k 0 := ⟨_, rfl⟩
      rw [← hu] at x1 x2
      clear hu hkg
      go_upto_region 6 with fail
      go_quiet (fail)
      go_wp2
      go_roundg (gk - 1)
      case measure => have := HKG.out; omega
      case rel => exact ⟨k + 1, by have := HKG.out; omega, by go_num, R0.out, R1.out, below_drewN HB.out _⟩
    · have hki : ¬ ((k : Int) < (n : Int)) := by omega
      clear hkg
      go_wp2
      go_loopg [6] q (fun g i wx => ∃ k : Nat, k + g = q ∧ i = .int .i64 k ∧ Row wx w.heap.size 24 [.slice A n cp, .slice B q cq, .int .i64 lp] ∧ Row wx (w.heap.size + 1) 24 [.slice A2 n cp2, .slice B2 q cq2, .int .i64 lp] ∧ Below w.heap.size w wx)
      case atStart => exact ⟨0, by omega, rfl, R0.out, R1.out, HB.out⟩
      case round =>
        clear R0 R1 HB c0 c1 c2 c3 d0 d1 d2 d3 HKG hki hk
        obtain ⟨j, hkg, rfl, r0, r1, hb⟩ := hrel
        have R0 := hide r0
        have R1 := hide r1
        have HB := hide hb
        have HKG := hide hkg
        obtain ⟨c0, c1, c2, c3⟩ := box3 r0
        obtain ⟨d0, d1, d2, d3⟩ := box3 r1
        clear hb r0 r1
        by_cases hk : j < q
        · have hki : (j : Int) < (q : Int) := by omega
          obtain ⟨b, o, rfl, x1⟩ := (HM.out.keep HB.out).at_ hk
          obtain ⟨b2, o2, rfl, x2⟩ := (HM2.out.keep HB.out).at_ hk
          have k0 : (0 : Int) ≤ (j : Int) := by omega
          obtain ⟨u, hu⟩ : ∃ u, u = mt.getD j 0 := ⟨_, rfl⟩
          rw [← hu] at x1 x2
          clear hu hkg
          go_upto_region 11 with fail
          go_quiet (fail)
          go_wp2
          go_roundg (gk - 1)
          case measure => have := HKG.out; omega
          case rel => exact ⟨j + 1, by have := HKG.out; omega, by go_num, R0.out, R1.out, below_drewN HB.out _⟩
        · have hki : ¬ ((j : Int) < (q : Int)) := by omega
          clear hkg
          go_wp2
          go_ret
          exact ⟨rfl, HB.out⟩
end Go.Proofs.Ytobbepmlmbbamaa
end

section
/-
  Walks: the examples of the chapter on moves (awake).
-/
namespace Go.Proofs.Ytobbepmlmbbamaa
open Go Go.RowKit

theorem ints_eq (A B : Option Addr) (n ca cb : Nat) (xs : List Int) (w : World) (hx : IntsAt w A n xs) (hy : IntsAt w B n xs) (hn : n ≤ 100000) :
    Calls Try.prog 45 #[.slice A n ca, .slice B n cb] w fun e w' => e = .returned (.bool true) ∧ Below w.heap.size w w' := by
  have HX := hide hx
  have HY := hide hy
  clear hx hy
  go_enter Try.func45, Try.ntmps45
  go_wp2
  go_loopg [5] n (fun g i wx => ∃ k : Nat, k + g = n ∧ i = .int .i64 k ∧ Below w.heap.size w wx)
  case atStart => exact ⟨0, by omega, rfl, Below.refl _ _⟩
  case round =>
    obtain ⟨k, hkg, rfl, hb⟩ := hrel
    have HB := hide hb
    have HKG := hide hkg
    clear hb
    by_cases hk : k < n
    · have hki : (k : Int) < (n : Int) := by omega
      obtain ⟨b, o, rfl, c1⟩ := (HX.out.keep HB.out).at_ hk
      obtain ⟨b2, o2, rfl, c2⟩ := (HY.out.keep HB.out).at_ hk
      have k0 : (0 : Int) ≤ (k : Int) := by omega
      obtain ⟨u, hu⟩ : ∃ u, u = xs.getD k 0 := ⟨_, rfl⟩
      rw [← hu] at c1 c2
      clear hu hkg
      go_upto_region 6 with fail
      go_quiet (fail)
      go_wp2
      go_roundg (gk - 1)
      case measure => have := HKG.out; omega
      case rel => exact ⟨k + 1, by have := HKG.out; omega, by go_num, below_drewN HB.out _⟩
    · have hki : ¬ ((k : Int) < (n : Int)) := by omega
      clear hkg
      go_wp2
      go_ret
      exact ⟨rfl, HB.out⟩
theorem none_at (w : World) (l : Nat) : DgAt w none none ⟨[], [], l⟩ := ⟨RowAt.nil w, RowAt.nil w⟩
theorem ap1 (w : World) : Calls Try.prog 22 #[.agg #[.slice none 0 0, .slice none 0 0, .int .i64 1], .agg #[.int .i64 1, .int .i64 (-1), .int .i64 0, .int .i64 1, .bool false]] w
    fun e w' => ∃ (A B : Option Addr) (c1 c2 : Nat), e = .returned (.tuple #[.agg #[.slice A 1 c1, .slice B 4 c2, .int .i64 0], .agg #[.int .i64 2, .int .i64 0, .int .i64 0, .int .i64 0, .bool false], .int .i64 0]) ∧ IntsAt w' A 1 [1] ∧ IntsAt w' B 4 [1, 0, 3, 2] ∧ Below w.heap.size w w' := by
  refine (apply_1 ⟨[], [], 1⟩ (valid_empty (by omega)) none none 0 0 0 (-1) 0 1 false w rfl (none_at w 1) (by unfold inR; simp [Pl.Dg.n])).mono ?_
  rintro e w' ⟨_, h2, hb⟩
  obtain ⟨A, B, c1, c2, he, hd⟩ := h2 (by rfl)
  exact ⟨A, B, c1, c2, he, hd.at.s, hd.at.m, hb⟩
theorem ap2 (w : World) : Calls Try.prog 22 #[.agg #[.slice none 0 0, .slice none 0 0, .int .i64 2], .agg #[.int .i64 3, .int .i64 (-1), .int .i64 (-1), .int .i64 0, .bool false]] w
    fun e w' => ∃ (A B : Option Addr) (c1 c2 : Nat), e = .returned (.tuple #[.agg #[.slice A 2 c1, .slice B 8 c2, .int .i64 0], .agg #[.int .i64 4, .int .i64 0, .int .i64 1, .int .i64 0, .bool false], .int .i64 0]) ∧ DgAt w' A B two ∧ Below w.heap.size w w' := by
  refine (apply_3 ⟨[], [], 2⟩ (valid_empty (by omega)) none none 0 0 0 (-1) (-1) 0 false w rfl (none_at w 2) (by unfold inR; simp [Pl.Dg.n])).mono ?_
  rintro e w' ⟨_, h2, hb⟩
  have hc : pkQ ⟨[], [], 2⟩ (-1) (-1) 0 = 0 := by
    unfold pkQ
    rw [Pl.vb_false (fun h => absurd h.1 (by decide))]
    rfl
  obtain ⟨A, B, c1, c2, he, hd⟩ := h2 hc
  rw [two_is] at he hd
  exact ⟨A, B, c1, c2, he, hd.at, hb⟩
theorem ap3 (A B : Option Addr) (c1 c2 : Nat) (w : World) (hg : DgAt w A B two) : Calls Try.prog 22 #[.agg #[.slice A 2 c1, .slice B 8 c2, .int .i64 0], .agg #[.int .i64 4, .int .i64 0, .int .i64 1, .int .i64 0, .bool false]] w
    fun e w' => ∃ (A B : Option Addr) (c1 c2 : Nat) (x y s : Int) (o : Bool), e = .returned (.tuple #[.agg #[.slice A 0 c1, .slice B 0 c2, .int .i64 2], .agg #[.int .i64 3, .int .i64 x, .int .i64 y, .int .i64 s, .bool o], .int .i64 0]) ∧ Below w.heap.size w w' := by
  refine (apply_4 two two_valid A B c1 c2 8 0 1 0 false w rfl hg (by unfold inR; simp [Pl.Dg.n, two])).mono ?_
  rintro e w' ⟨_, h2, hb⟩
  obtain ⟨hc, hD, hI⟩ := two_unp
  obtain ⟨A, B, c1, c2, k, x, y, s, o, hm, he, hd⟩ := (h2 hc).split
  rw [hD] at he
  rw [hm] at hI
  have hk : k = 3 := hI
  subst hk
  exact ⟨A, B, c1, c2, x, y, s, o, he, hb⟩
set_option maxRecDepth 100000 in
set_option maxHeartbeats 4000000 in
theorem awake_true (w : World) : Calls Try.prog 20 #[] w fun e w' => e = .returned (.bool true) ∧ Below w.heap.size w w' := by
  go_enter Try.func20, Try.ntmps20
  go_wp2_with fail
  refine (ap1 w).mono ?_
  rintro e w1 ⟨A1, B1, c1, c2, rfl, hs1, hm1, hb1⟩
  have HS1 := hide hs1
  have HM1 := hide hm1
  have B1' := hide hb1
  clear hs1 hm1 hb1
  go_wp2_with fail
  refine (ap2 _).mono ?_
  rintro e w2 ⟨A2, B2, c3, c4, rfl, hg2, hb2⟩
  have HG2 := hide hg2
  have B2' := hide hb2
  clear hg2 hb2
  have R1 := hide (show Row w2 w1.heap.size 24 [.slice A1 1 c1, .slice B1 4 c2, .int .i64 0] from ((row_at (vs := [_, _, _]) rfl).alloc _).below B2'.out)
  have R2 := hide (show Row w2 (w1.heap.size + 1) 28 [.int .i64 2, .int .i64 0, .int .i64 0, .int .i64 0, .bool false] from (row_at (vs := [_, _, _, _, _]) (by simp)).below B2'.out)
  have C2 := hide (show Below w.heap.size w w2 from ((B1'.out.alloc B1'.out.size (.cells #[.slice A1 1 c1, .slice B1 4 c2, .int .i64 0] 24)).alloc (B1'.out.alloc B1'.out.size (.cells #[.slice A1 1 c1, .slice B1 4 c2, .int .i64 0] 24)).size _).trans (B2'.out.mono ((B1'.out.alloc B1'.out.size (.cells #[.slice A1 1 c1, .slice B1 4 c2, .int .i64 0] 24)).alloc (B1'.out.alloc B1'.out.size (.cells #[.slice A1 1 c1, .slice B1 4 c2, .int .i64 0] 24)).size _).size))
  have D12 := hide (show Below w1.heap.size w1 w2 from (((Below.refl _ _).alloc (Nat.le_refl _) (.cells #[.slice A1 1 c1, .slice B1 4 c2, .int .i64 0] 24)).alloc (by simp) (.cells #[.int .i64 2, .int .i64 0, .int .i64 0, .int .i64 0, .bool false] 28)).trans (B2'.out.mono (by simp; omega)))
  go_wp2_with fail
  refine (ap3 A2 B2 c3 c4 _ (HG2.out.keep (((Below.refl _ _).alloc (Nat.le_refl _) _).alloc (by simp) _))).mono ?_
  rintro e w3 ⟨A3, B3, c5, c6, x3, y3, s3, o3, rfl, hb3⟩
  have B3' := hide hb3
  clear hb3
  have S1 := hide (show Row w3 w2.heap.size 24 [.slice A2 2 c3, .slice B2 8 c4, .int .i64 0] from ((row_at (vs := [_, _, _]) rfl).alloc _).below B3'.out)
  have D23 := hide (show Below w2.heap.size w2 w3 from (((Below.refl _ _).alloc (Nat.le_refl _) (.cells #[.slice A2 2 c3, .slice B2 8 c4, .int .i64 0] 24)).alloc (by simp) (.cells #[.int .i64 4, .int .i64 0, .int .i64 1, .int .i64 0, .bool false] 28)).trans (B3'.out.mono (by simp; omega)))
  have C3 := hide (show Below w.heap.size w w3 from C2.out.trans (D23.out.mono C2.out.size))
  have HS3 := hide (HS1.out.keep (D12.out.trans (D23.out.mono D12.out.size)))
  have HM3 := hide (HM1.out.keep (D12.out.trans (D23.out.mono D12.out.size)))
  obtain ⟨r0, r1, r2, r3⟩ := box3 (R1.out.below D23.out)
  obtain ⟨t0, t1, t2, t3, t4, t5⟩ := box5 (R2.out.below D23.out)
  obtain ⟨s0, s1, s2, s3'⟩ := box3 S1.out
  obtain ⟨b, o, rfl, cs⟩ := HS3.out.at_ (k := 0) (by omega)
  have hlb : b < w3.heap.size := lt_of_cell cs
  have cs' : w3.cell? ⟨b, o, none⟩ = some (.int .i64 1) := cs
  clear cs
  have q1 : w1.heap.size < w3.heap.size := lt_of_cell r0
  have q2 : w1.heap.size + 1 < w3.heap.size := lt_of_cell t0
  have q3 : w2.heap.size < w3.heap.size := lt_of_cell s0
  go_wp2_with fail
  have W4 := hide (show Below w3.heap.size w3 (((w3.alloc (.cells #[.slice A3 0 c5, .slice B3 0 c6, .int .i64 2] 24)).alloc (.cells #[.int .i64 3, .int .i64 x3, .int .i64 y3, .int .i64 s3, .bool o3] 28)).alloc (.cells #[.int .i64 1, .int .i64 0, .int .i64 3, .int .i64 2] 3)) from (((Below.refl _ _).alloc (Nat.le_refl _) _).alloc (by simp) _).alloc (by simp; omega) _)
  have I4 := hide (show IntsAt (((w3.alloc (.cells #[.slice A3 0 c5, .slice B3 0 c6, .int .i64 2] 24)).alloc (.cells #[.int .i64 3, .int .i64 x3, .int .i64 y3, .int .i64 s3, .bool o3] 28)).alloc (.cells #[.int .i64 1, .int .i64 0, .int .i64 3, .int .i64 2] 3)) (some ⟨w3.heap.size + 1 + 1, 0, none⟩) 4 [1, 0, 3, 2] from
    IRow.ints (zs := [1, 0, 3, 2]) (row_at (vs := [_, _, _, _]) (by simp)))
  have V1 := hide (show Row (((w3.alloc (.cells #[.slice A3 0 c5, .slice B3 0 c6, .int .i64 2] 24)).alloc (.cells #[.int .i64 3, .int .i64 x3, .int .i64 y3, .int .i64 s3, .bool o3] 28)).alloc (.cells #[.int .i64 1, .int .i64 0, .int .i64 3, .int .i64 2] 3)) w3.heap.size 24 [.slice A3 0 c5, .slice B3 0 c6, .int .i64 2] from ((row_at (vs := [_, _, _]) rfl).alloc _).alloc _)
  have V2 := hide (show Row (((w3.alloc (.cells #[.slice A3 0 c5, .slice B3 0 c6, .int .i64 2] 24)).alloc (.cells #[.int .i64 3, .int .i64 x3, .int .i64 y3, .int .i64 s3, .bool o3] 28)).alloc (.cells #[.int .i64 1, .int .i64 0, .int .i64 3, .int .i64 2] 3)) (w3.heap.size + 1) 28 [.int .i64 3, .int .i64 x3, .int .i64 y3, .int .i64 s3, .bool o3] from (row_at (vs := [_, _, _, _, _]) (by simp)).alloc _)
  refine (ints_eq B1 (some ⟨w3.heap.size + 1 + 1, 0, none⟩) 4 c2 4 [1, 0, 3, 2] _ (HM3.out.keep W4.out) I4.out (by omega)).mono ?_
  rintro e w5 ⟨rfl, hb5⟩
  have C5 := hide (C3.out.trans ((W4.out.trans (hb5.mono W4.out.size)).mono C3.out.size))
  have T1 := hide (S1.out.below (W4.out.trans (hb5.mono W4.out.size)))
  have U1 := hide (V1.out.below hb5)
  have U2 := hide (V2.out.below hb5)
  clear r0 r1 r2 r3 t0 t1 t2 t3 t4 t5 s0 s1 s2 s3' q1 q2 q3 hb5 hlb cs'
  obtain ⟨s0, s1, s2, s3'⟩ := box3 T1.out
  obtain ⟨r0, r1, r2, r3⟩ := box3 U1.out
  obtain ⟨t0, t1, t2, t3, t4, t5⟩ := box5 U2.out
  go_wp2
  go_ret
  exact ⟨rfl, C5.out⟩
end Go.Proofs.Ytobbepmlmbbamaa
end
