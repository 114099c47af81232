/-
 The texts Bcv, Brr, Bcc, Bd in one.
-/
import Derived.Test.YtcaoblilkgajoaaDoorF07
import Derived.Test.YtcaoblilkgajoaaDoorF03
import Derived.Test.YtcaoblilkgajoaaDoorF01
import Derived.Test.YtcaoblilkgajoaaDoorF06
import Derived.Test.YtcaoblilkgajoaaDoorF02
import Derived.Test.YtcaoblilkgajoaaDoorF04
import Derived.Deep.DeepCutAuto
import Derived.StillTailTactics
set_option linter.unusedVariables false
set_option linter.unusedSimpArgs false
section
namespace Go.Proofs.YtcaoblilkgajoaaDoor.Pl
def lg (ws : List Int) (i : Nat) : Nat := (ws.getD i 0).natAbs
def lstF (T : Nat → Bool) (z : Nat) : Nat → Nat
 | 0 => z
 | t + 1 => if T t then t else lstF T z t
theorem lstF_skip {T : Nat → Bool} {z i : Nat} : ∀ d, (∀ k, i ≤ k → k < i + d → T k = false) → lstF T z (i + d) = lstF T z i
 | 0, _ => rfl
 | d + 1, h => by
   show (if T (i + d) then i + d else lstF T z (i + d)) = _
   rw [h (i + d) (by omega) (by omega)]
   exact lstF_skip d (fun k h1 h2 => h k h1 (by omega))
theorem lstF_skip' {T : Nat → Bool} {z i j : Nat} (hij : i ≤ j) (h : ∀ k, i ≤ k → k < j → T k = false) : lstF T z j = lstF T z i := by
 have := lstF_skip (T := T) (z := z) (i := i) (j - i) (fun k h1 h2 => h k h1 (by omega))
 rwa [show i + (j - i) = j by omega] at this
theorem lstF_idem (T : Nat → Bool) (z : Nat) : ∀ t, lstF T (lstF T z t) t = lstF T z t
 | 0 => rfl
 | t + 1 => by
   show (if T t then t else lstF T (if T t then t else lstF T z t) t) = (if T t then t else lstF T z t)
   cases h : T t with
   | true => rfl
   | false => exact lstF_idem T z t
theorem lstF_z {T : Nat → Bool} {z z' k : Nat} (hk : T k = true) : ∀ t, k < t → lstF T z t = lstF T z' t
 | 0, h => by omega
 | t + 1, h => by
   show (if T t then t else lstF T z t) = (if T t then t else lstF T z' t)
   cases e : T t with
   | true => rfl
   | false =>
     refine lstF_z hk t ?_
     rcases Nat.lt_or_ge k t with h' | h'
     ·exact h'
     ·rw [show k = t by omega, e] at hk; cases hk
theorem lstF_none {T : Nat → Bool} {z : Nat} : ∀ t, (∀ k, k < t → T k = false) → lstF T z t = z
 | 0, _ => rfl
 | t + 1, h => by
   show (if T t then t else lstF T z t) = z
   rw [h t (by omega)]
   exact lstF_none t (fun k hk => h k (by omega))
def cl (ws : List Int) (c t s : Nat) : Nat := lstF (fun k => lg ws k == c) (lstF (fun k => lg ws k == c) (ws.length + s) ws.length) t
theorem cl_round (ws : List Int) (c s : Nat) : cl ws c ws.length s = cl ws c 0 s := by
 unfold cl
 rw [lstF_idem]
 rfl
theorem cl_side {ws : List Int} {c k : Nat} (hk : k < ws.length) (hc : lg ws k = c) (t s s' : Nat) : cl ws c t s = cl ws c t s' := by
 unfold cl
 rw [lstF_z (z := ws.length + s) (z' := ws.length + s') (k := k) (by simpa using hc) _ hk]
theorem cl_here {ws : List Int} {c i : Nat} (hc : lg ws i = c) (s : Nat) : cl ws c (i + 1) s = i := by
 unfold cl
 show (if (lg ws i == c) = true then i else _) = i
 rw [if_pos (by simpa using hc)]
theorem cl_not {ws : List Int} {c i : Nat} (hc : lg ws i ≠ c) (s : Nat) : cl ws c (i + 1) s = cl ws c i s := by
 unfold cl
 show (if (lg ws i == c) = true then i else _) = _
 rw [if_neg (by simpa using hc)]
theorem cl_empty {ws : List Int} {c : Nat} (h : ∀ k, k < ws.length → lg ws k ≠ c) {t : Nat} (ht : t ≤ ws.length) (s : Nat) : cl ws c t s = ws.length + s := by
 unfold cl
 rw [lstF_none t (fun k hk => by simpa using h k (by omega)), lstF_none _ (fun k hk => by simpa using h k hk)]
theorem cl_arc {ws : List Int} {p c i j : Nat} (s : Nat) (h : CN (TP ws p) ws.length i j) (hc : c = p ∨ c = p + 1) : cl ws c (i + 1) s = cl ws c j s := by
 have no : ∀ k, ¬ TP ws p k → (lg ws k == c) = false := fun k hk => by
  rw [beq_eq_false_iff_ne]
  intro e
  apply hk
  unfold TP tcp
  unfold lg at e
  omega
 obtain ⟨_, _, hi, hj, h⟩ := h
 rcases h with ⟨h1, h2⟩ | ⟨h1, h2, h3⟩
 ·unfold cl
  exact (lstF_skip' (by omega) (fun k k1 k2 => no k (h2 k (by omega) k2))).symm
 ·have e1 : cl ws c ws.length s = cl ws c (i + 1) s := by
   unfold cl
   exact lstF_skip' (by omega) (fun k k1 k2 => no k (h2 k (by omega) k2))
  have e2 : cl ws c j s = cl ws c 0 s := by
   unfold cl
   exact lstF_skip' (by omega) (fun k k1 k2 => no k (h3 k k2))
  rw [← e1, cl_round, e2]
def lb (ws : List Int) (i : Nat) (o r : Bool) : Nat × Nat :=
 if o then (if r then (lg ws i, cl ws (lg ws i) (i + 1) 1) else (lg ws i - 1, cl ws (lg ws i - 1) i 1))
 else (if r then (lg ws i + 1, cl ws (lg ws i + 1) i 2) else (lg ws i, cl ws (lg ws i) i 1))
def slO (x : Int) (s : Nat) : Bool := s == 2 || (if x < 0 then s == 3 else s == 1)
def slR (x : Int) (s : Nat) : Bool := if x < 0 then s == 1 || s == 2 else s == 0 || s == 1
theorem slO_slt (x : Int) (o r : Bool) : slO x (slt x o r) = o := by unfold slO slt; split <;> cases o <;> cases r <;> rfl
theorem slR_slt (x : Int) (o r : Bool) : slR x (slt x o r) = r := by unfold slR slt; split <;> cases o <;> cases r <;> rfl
theorem slt_prev (x : Int) (o r : Bool) : (slt x o r + 3) % 4 = slt x (!r) o := by unfold slt; split <;> cases o <;> cases r <;> rfl
def lab (ws : List Int) (h : Nat) : Nat × Nat := lb ws (h / 4) (slO (ws.getD (h / 4) 0) (h % 4)) (slR (ws.getD (h / 4) 0) (h % 4))
theorem lab_at (ws : List Int) (i : Nat) (o r : Bool) : lab ws (4 * i + slt (ws.getD i 0) o r) = lb ws i o r := by
 have := slt_lt (ws.getD i 0) o r
 unfold lab
 rw [show (4 * i + slt (ws.getD i 0) o r) / 4 = i by omega, show (4 * i + slt (ws.getD i 0) o r) % 4 = slt (ws.getD i 0) o r by omega, slO_slt, slR_slt]
theorem tn_slt (i : Nat) (x : Int) (o r : Bool) : tn (4 * i + slt x o r) 3 = 4 * i + slt x (!r) o := by
 have := slt_lt x o r
 rw [← slt_prev]
 unfold tn
 omega
theorem lb_arcO {n : Nat} {ws : List Int} (hw : WOk n ws) {p i j : Nat} (h : CN (TP ws p) ws.length i j) : lb ws j (!(p == lg ws j)) false = lb ws i true (p == lg ws i) := by
 have h1 : lg ws i = p + 1 ∨ lg ws i = p := h.1
 have h2 : lg ws j = p + 1 ∨ lg ws j = p := h.2.1
 have e0 := cl_arc 1 h (c := p) (.inl rfl)
 have eL : lb ws i true (p == lg ws i) = (p, cl ws p (i + 1) 1) := by
  unfold lb
  rcases h1 with e | e
  ·rw [show (p == lg ws i) = false by rw [beq_eq_false_iff_ne]; omega, e]
   show (p + 1 - 1, cl ws (p + 1 - 1) i 1) = _
   rw [show p + 1 - 1 = p by omega, cl_not (by omega)]
  ·rw [show (p == lg ws i) = true by rw [beq_iff_eq]; omega, e]
   rfl
 have eR : lb ws j (!(p == lg ws j)) false = (p, cl ws p j 1) := by
  unfold lb
  rcases h2 with e | e
  ·rw [show (p == lg ws j) = false by rw [beq_eq_false_iff_ne]; omega, e]
   show (p + 1 - 1, cl ws (p + 1 - 1) j 1) = _
   rw [show p + 1 - 1 = p by omega]
  ·rw [show (p == lg ws j) = true by rw [beq_iff_eq]; omega, e]
   rfl
 rw [eL, eR, e0]
theorem lb_arcI {n : Nat} {ws : List Int} (hw : WOk n ws) {p i j : Nat} (h : CN (TP ws p) ws.length i j) : lb ws i (!(p == lg ws i)) true = lb ws j false (p == lg ws j) := by
 have h1 : lg ws i = p + 1 ∨ lg ws i = p := h.1
 have h2 : lg ws j = p + 1 ∨ lg ws j = p := h.2.1
 have e0 := cl_arc 2 h (c := p + 1) (.inr rfl)
 have eL : lb ws i (!(p == lg ws i)) true = (p + 1, cl ws (p + 1) (i + 1) 2) := by
  unfold lb
  rcases h1 with e | e
  ·rw [show (p == lg ws i) = false by rw [beq_eq_false_iff_ne]; omega, e]
   show (p + 1, cl ws (p + 1) (i + 1) 1) = _
   rw [cl_side h.2.2.1 e _ 1 2]
  ·rw [show (p == lg ws i) = true by rw [beq_iff_eq]; omega, e]
   show (p + 1, cl ws (p + 1) i 2) = _
   rw [cl_not (by omega)]
 have eR : lb ws j false (p == lg ws j) = (p + 1, cl ws (p + 1) j 2) := by
  unfold lb
  rcases h2 with e | e
  ·rw [show (p == lg ws j) = false by rw [beq_eq_false_iff_ne]; omega, e]
   show (p + 1, cl ws (p + 1) j 1) = _
   rw [cl_side h.2.2.2.1 e _ 1 2]
  ·rw [show (p == lg ws j) = true by rw [beq_iff_eq]; omega, e]
   rfl
 rw [eL, eR, e0]
section
variable {n : Nat} {ws : List Int}
theorem clD_n (n : Nat) (ws : List Int) : (clD n ws).n = ws.length := by unfold clD Dg.n clSg; simp
theorem clD_s (n : Nat) (ws : List Int) {c : Nat} (hc : c < ws.length) : (clD n ws).s c = if ws.getD c 0 < 0 then -1 else 1 := by
 unfold clD Dg.s clSg
 rw [List.getD_eq_getElem?_getD, List.getElem?_map, List.getD_eq_getElem?_getD, List.getElem?_eq_getElem hc]
 rfl
theorem clD_m (hw : WOk n ws) {p i j : Nat} (h : CN (TP ws p) ws.length i j) : (clD n ws).m (dO ws i p) = dI ws j p ∧ (clD n ws).m (dI ws j p) = dO ws i p := by
 obtain ⟨g1, g2⟩ := clD_good hw
 obtain ⟨g3, g4⟩ := g2 p i j h
 have l1 := dO_lt (p := p) h.2.2.1
 have l2 := dI_lt (p := p) h.2.2.2.1
 unfold Dg.m
 constructor
 ·rw [← g3, List.getD_eq_getElem?_getD, List.getD_eq_getElem?_getD, List.getElem?_eq_getElem (by rw [g1]; exact l1)]; rfl
 ·rw [← g4, List.getD_eq_getElem?_getD, List.getD_eq_getElem?_getD, List.getElem?_eq_getElem (by rw [g1]; exact l2)]; rfl
theorem clD_out (n : Nat) (ws : List Int) {i : Nat} (hi : i < ws.length) (o r : Bool) : out (clD n ws) (4 * i + slt (ws.getD i 0) o r) = o := by
 have := slt_lt (ws.getD i 0) o r
 unfold out
 rw [show (4 * i + slt (ws.getD i 0) o r) / 4 = i by omega, show (4 * i + slt (ws.getD i 0) o r) % 4 = slt (ws.getD i 0) o r by omega, clD_s n ws hi]
 unfold slt
 by_cases h : ws.getD i 0 < 0
 ·simp only [h, if_true]
  cases o <;> cases r <;> rfl
 ·simp only [h, if_false]
  cases o <;> cases r <;> rfl
theorem dart_arc (hw : WOk n ws) {h : Nat} (hh : h < 4 * ws.length) : ∃ p i j, CN (TP ws p) ws.length i j ∧ ((h = dO ws i p ∧ (clD n ws).m h = dI ws j p) ∨ (h = dI ws j p ∧ (clD n ws).m h = dO ws i p)) := by
 have hi : h / 4 < ws.length := by omega
 obtain ⟨p, hp, e | e⟩ := dart_ex hh (hw _ hi).1
 ·obtain ⟨j, hj⟩ := CN.next_ex hp hi
  exact ⟨p, h / 4, j, hj, .inl ⟨e, by have := (clD_m hw hj).1; rwa [← e] at this⟩⟩
 ·obtain ⟨i, hj⟩ := CN.prev_ex hp hi
  exact ⟨p, i, h / 4, hj, .inr ⟨e, by have := (clD_m hw hj).2; rwa [← e] at this⟩⟩
theorem clD_wf (hw : WOk n ws) (hL : ws.length ≤ 64) (hl : (clD n ws).lp ≤ 64) : Wf (clD n ws) := by
 refine wf_by (by rw [clD_n]; exact hL) (by rw [clD_n]; exact (clD_good hw).1) hl (fun c hc => ?_) (fun z hz => ?_)
 ·rw [clD_n] at hc
  rw [clD_s n ws hc]
  split
  ·exact .inr rfl
  ·exact .inl rfl
 ·rw [clD_n] at hz ⊢
  obtain ⟨p, i, j, hc, ⟨e, em⟩ | ⟨e, em⟩⟩ := dart_arc hw hz
  ·rw [em]
   refine ⟨dI_lt hc.2.2.2.1, by rw [(clD_m hw hc).2, e], ?_⟩
   rw [e]
   unfold dO dI
   rw [clD_out n ws hc.2.2.1, clD_out n ws hc.2.2.2.1]
   decide
  ·rw [em]
   refine ⟨dO_lt hc.2.2.1, by rw [(clD_m hw hc).1, e], ?_⟩
   rw [e]
   unfold dO dI
   rw [clD_out n ws hc.2.2.1, clD_out n ws hc.2.2.2.1]
   decide
theorem lab_phi (hw : WOk n ws) {h : Nat} (hh : h < 4 * ws.length) : lab ws (phi rot (clD n ws).m h) = lab ws h := by
 obtain ⟨p, i, j, hc, ⟨e, em⟩ | ⟨e, em⟩⟩ := dart_arc hw hh
 ·unfold phi
  rw [em, e]
  unfold rot dI dO
  rw [tn_slt, lab_at, lab_at]
  exact lb_arcO hw hc
 ·unfold phi
  rw [em, e]
  unfold rot dI dO
  rw [tn_slt, lab_at, lab_at]
  exact lb_arcI hw hc
theorem lab_orb (hw : WOk n ws) (hd : Wf (clD n ws)) {g h : Nat} (hg : g < 4 * ws.length) (e : Orb (phi rot (clD n ws).m) g h) : lab ws h = lab ws g := by
 have := orb_closed (f := phi rot (clD n ws).m) (P := fun x => x < 4 * ws.length ∧ lab ws x = lab ws g) (fun x hx => ⟨by
  have := hd.lt x (by rw [clD_n]; exact hx.1)
  rw [clD_n] at this
  exact tn_lt this, by rw [lab_phi hw hx.1]; exact hx.2⟩) ⟨hg, rfl⟩ e
 exact this.2
theorem touch (hw : WOk n ws) {p : Nat} : ∀ (d i j : Nat), j < ws.length → i ≤ j → j - i ≤ d → TP ws p i → TP ws p j → Comp (clD n ws) i j := by
 have one : ∀ {i j : Nat}, CN (TP ws p) ws.length i j → Comp (clD n ws) i j := fun {i j} h => by
  have h1 := orb_con_left (clD n ws).m (orb_rot0 (dO ws i p))
  have h2 : Con rot (clD n ws).m (dO ws i p) ((clD n ws).m (dO ws i p)) := Con.refl.right
  rw [(clD_m hw h).1] at h2
  have h3 := orb_con_left (clD n ws).m ((rot_bij ws.length).symm (show 4 * (dI ws j p / 4) < 4 * ws.length by have := dI_lt (p := p) h.2.2.2.1; omega) (orb_rot0 (dI ws j p)))
  have e1 : dO ws i p / 4 = i := by have := slt_lt (ws.getD i 0) true (p == (ws.getD i 0).natAbs); unfold dO; omega
  have e2 : dI ws j p / 4 = j := by have := slt_lt (ws.getD j 0) false (p == (ws.getD j 0).natAbs); unfold dI; omega
  rw [e1] at h1
  rw [e2] at h3
  exact (h1.trans h2).trans h3
 intro d
 induction d with
 | zero =>
   intro i j _ h1 h2 _ _
   rw [show i = j by omega]
   exact .refl
 | succ d ih =>
   intro i j hj h1 h2 ti tj
   by_cases e : i = j
   ·rw [e]; exact .refl
   ·obtain ⟨k, hk⟩ := CN.next_ex ti (show i < ws.length by omega)
    have hk' := hk
    obtain ⟨_, tk, _, hkl, h⟩ := hk
    rcases h with ⟨h3, h4⟩ | ⟨h3, h4, _⟩
    ·have : k ≤ j := by
      rcases Nat.lt_or_ge j k with h' | h'
      ·exact absurd tj (h4 j (by omega) h')
      ·exact h'
     exact (one hk').trans (ih k j hj this (by omega) tk tj)
    ·exact absurd tj (h4 j (by omega) hj)
theorem touch' (hw : WOk n ws) (hd : Wf (clD n ws)) {p i j : Nat} (hi : i < ws.length) (hj : j < ws.length) (ti : TP ws p i) (tj : TP ws p j) : Comp (clD n ws) i j := by
 rcases Nat.le_total i j with h | h
 ·exact touch hw _ i j hj h (Nat.le_refl _) ti tj
 ·exact comp_symm hd (by rw [clD_n]; exact hj) (touch hw _ j i hi h (Nat.le_refl _) tj ti)
theorem clD_valid (hw : WOk n ws) (hL : ws.length ≤ 64) (hl : (clD n ws).lp ≤ 64) : Valid (clD n ws) := by
 have hd := clD_wf hw hL hl
 refine ⟨hd, fun c hc => ?_⟩
 have hc' : c < ws.length := by rw [clD_n] at hc; exact hc
 have H := part_hm hd hc
 have h0 := Gen.nonneg H (part_gen hd hc)
 -- the faces of the component, as classes
 have hf : Cls (part (clD n ws) c) (Orb (phi rot (clD n ws).m)) (cnt (fun h => Least (nx (clD n ws)) h ∧ Comp (clD n ws) c (h / 4)) (4 * (clD n ws).n)) := by
  have := Cls.count (4 * (clD n ws).n) H.pb.lt H.pb.eqv
  rwa [cnt_congr (q := fun h => Least (nx (clD n ws)) h ∧ Comp (clD n ws) c (h / 4)) (4 * (clD n ws).n) (fun x hx => ⟨fun h => ⟨fun k => h.2 _ (H.pb.it k x h.1) ⟨k, rfl⟩, h.1.2⟩, fun h => ⟨⟨hx, h.2⟩, fun g _ e => by
   obtain ⟨k, rfl⟩ := e
   exact h.1 k⟩⟩)] at this
 -- its crossings
 have cb : Cls (fun b => b < (clD n ws).n ∧ Comp (clD n ws) c b) Eq (cnt (fun b => Comp (clD n ws) c b) (clD n ws).n) := by
  have := Cls.card (S := fun b => b < (clD n ws).n ∧ Comp (clD n ws) c b) (clD n ws).n (fun _ h => h.1)
  rwa [cnt_congr (q := fun b => Comp (clD n ws) c b) (clD n ws).n (fun x hx => ⟨fun h => h.2, fun h => ⟨hx, h⟩⟩)] at this
 -- two faces more
 have c2 : Cls (fun b => b = (clD n ws).n ∨ b = (clD n ws).n + 1) Eq 2 := by
  refine ⟨fun b => b - (clD n ws).n, fun x hx => ?_, fun x y hx hy => ?_, fun i hi => ⟨(clD n ws).n + i, by omega, ?_⟩⟩
  ·show x - (clD n ws).n < 2
   omega
  ·show x - (clD n ws).n = y - (clD n ws).n ↔ x = y
   omega
  ·show (clD n ws).n + i - (clD n ws).n = i
   omega
 have cs := cb.add c2 (fun x y hx hy e => by have := hx.1; omega) (fun x y hx hy e => by have := hx.1; omega) (fun x hx hy => by have := hx.1; omega)
 -- the least and the greatest column
 obtain ⟨i0, hi0, hm0⟩ : ∃ i, (i < ws.length ∧ Comp (clD n ws) c i) ∧ ∀ k, k < ws.length → Comp (clD n ws) c k → lg ws i ≤ lg ws k := by
  obtain ⟨v, ⟨i, h1, h2⟩, h3⟩ := least_of (p := fun v => ∃ i, (i < ws.length ∧ Comp (clD n ws) c i) ∧ lg ws i = v) (lg ws c) ⟨c, ⟨hc', .refl⟩, rfl⟩
  exact ⟨i, h1, fun k h4 h5 => by rw [h2]; exact h3 _ ⟨k, ⟨h4, h5⟩, rfl⟩⟩
 have hlt : ∀ k, k < ws.length → 1 ≤ lg ws k ∧ lg ws k < n := fun k hk => hw k hk
 obtain ⟨i1, hi1, hm1⟩ : ∃ i, (i < ws.length ∧ Comp (clD n ws) c i) ∧ ∀ k, k < ws.length → Comp (clD n ws) c k → lg ws k ≤ lg ws i := by
  obtain ⟨v, ⟨i, h1, h2⟩, h3⟩ := least_of (p := fun v => ∃ i, (i < ws.length ∧ Comp (clD n ws) c i) ∧ n - lg ws i = v) (n - lg ws c) ⟨c, ⟨hc', .refl⟩, rfl⟩
  refine ⟨i, h1, fun k h4 h5 => ?_⟩
  have h6 := h3 _ ⟨k, ⟨h4, h5⟩, rfl⟩
  have h7 := hlt k h4
  have h8 := hlt i h1.1
  omega
 have emp0 : ∀ k, k < ws.length → lg ws k ≠ lg ws i0 - 1 := fun k hk e => by
  have h1 := hlt k hk
  have h2 := hlt i0 hi0.1
  have h3 : TP ws (lg ws k) k := .inr rfl
  have h4 : TP ws (lg ws k) i0 := .inl (by show lg ws i0 = _; omega)
  have := hm0 k hk (hi0.2.trans (touch' hw hd hi0.1 hk h4 h3))
  omega
 have emp1 : ∀ k, k < ws.length → lg ws k ≠ lg ws i1 + 1 := fun k hk e => by
  have h3 : TP ws (lg ws i1) i1 := .inr rfl
  have h4 : TP ws (lg ws i1) k := .inl e
  have := hm1 k hk (hi1.2.trans (touch' hw hd hi1.1 hk h3 h4))
  omega
 obtain ⟨N, hN⟩ : ∃ N, N = (clD n ws).n := ⟨_, rfl⟩
 have hNL : N = ws.length := by rw [hN, clD_n]
 rw [← hN] at cs
 have sl := fun i o r => slt_lt (ws.getD i 0) o r
 let t : Nat → Nat := fun b => if b = N then 4 * i0 + slt (ws.getD i0 0) true false else if b = N + 1 then 4 * i1 + slt (ws.getD i1 0) false true else 4 * b + slt (ws.getD b 0) true true
 have tN : t N = 4 * i0 + slt (ws.getD i0 0) true false := if_pos rfl
 have tN1 : t (N + 1) = 4 * i1 + slt (ws.getD i1 0) false true := by show (if N + 1 = N then _ else if N + 1 = N + 1 then _ else _) = _; rw [if_neg (by omega), if_pos rfl]
 have tb : ∀ b, b < N → t b = 4 * b + slt (ws.getD b 0) true true := fun b hb => by show (if b = N then _ else if b = N + 1 then _ else _) = _; rw [if_neg (by omega), if_neg (by omega)]
 have lN : lab ws (t N) = (lg ws i0 - 1, ws.length + 1) := by
  rw [tN, lab_at]
  show (lg ws i0 - 1, cl ws (lg ws i0 - 1) i0 1) = _
  rw [cl_empty emp0 (by omega)]
 have lN1 : lab ws (t (N + 1)) = (lg ws i1 + 1, ws.length + 2) := by
  rw [tN1, lab_at]
  show (lg ws i1 + 1, cl ws (lg ws i1 + 1) i1 2) = _
  rw [cl_empty emp1 (by omega)]
 have lB : ∀ b, b < N → lab ws (t b) = (lg ws b, b) := fun b hb => by
  rw [tb b hb, lab_at]
  show (lg ws b, cl ws (lg ws b) (b + 1) 1) = _
  rw [cl_here rfl]
 have l2 : ∀ x, (x < N ∧ Comp (clD n ws) c x) ∨ (x = N ∨ x = N + 1) → (lab ws (t x)).2 = (if x < N then x else x + 1) := fun x hx => by
  rcases hx with hx | rfl | rfl
  ·rw [lB x hx.1, if_pos hx.1]
  ·rw [lN, if_neg (by omega), hNL]
  ·rw [lN1, if_neg (by omega), hNL]
 have tS : ∀ x, (x < N ∧ Comp (clD n ws) c x) ∨ (x = N ∨ x = N + 1) → part (clD n ws) c (t x) := fun x hx => by
  unfold part
  rw [clD_n]
  rcases hx with hx | rfl | rfl
  ·have := sl x true true
   rw [tb x hx.1]
   refine ⟨by have := hx.1; omega, ?_⟩
   rw [show (4 * x + slt (ws.getD x 0) true true) / 4 = x by omega]
   exact hx.2
  ·have := sl i0 true false
   rw [tN]
   refine ⟨by have := hi0.1; omega, ?_⟩
   rw [show (4 * i0 + slt (ws.getD i0 0) true false) / 4 = i0 by omega]
   exact hi0.2
  ·have := sl i1 false true
   rw [tN1]
   refine ⟨by have := hi1.1; omega, ?_⟩
   rw [show (4 * i1 + slt (ws.getD i1 0) false true) / 4 = i1 by omega]
   exact hi1.2
 have := cs.le hf t tS (fun x y hx hy e => by
  have h1 := lab_orb hw hd (by have := (tS x hx).1; rwa [clD_n] at this) e
  have h2 := l2 x hx
  have h3 := l2 y hy
  rw [h1, h2] at h3
  have hx' : x ≤ N + 1 := by
   rcases hx with hx | hx
   ·have := hx.1; omega
   ·omega
  have hy' : y ≤ N + 1 := by
   rcases hy with hy | hy
   ·have := hy.1; omega
   ·omega
  by_cases c1 : x < N
  ·rw [if_pos c1] at h3
   by_cases c2 : y < N
   ·rw [if_pos c2] at h3; exact h3
   ·rw [if_neg c2] at h3; omega
  ·rw [if_neg c1] at h3
   by_cases c2 : y < N
   ·rw [if_pos c2] at h3; omega
   ·rw [if_neg c2] at h3; omega)
 rw [hN] at this
 omega
end
end Go.Proofs.YtcaoblilkgajoaaDoor.Pl
end
section
namespace Go.Proofs.YtcaoblilkgajoaaDoor.Pl
def rtI (L k i : Nat) : Nat := if k ≤ i then i - k else i + (L - k)
def rtJ (L k i : Nat) : Nat := if i < L - k then i + k else i - (L - k)
theorem rtI_lt {L k i : Nat} (hk : k ≤ L) (hi : i < L) : rtI L k i < L := by unfold rtI; split <;> omega
theorem rtJ_lt {L k i : Nat} (hk : k ≤ L) (hi : i < L) : rtJ L k i < L := by unfold rtJ; split <;> omega
theorem rtI_rtJ {L k i : Nat} (hk : k ≤ L) (hi : i < L) : rtI L k (rtJ L k i) = i := by
 unfold rtI rtJ
 by_cases h : i < L - k
 ·rw [if_pos h, if_pos (by omega)]; omega
 ·rw [if_neg h, if_neg (by omega)]; omega
theorem rtI_inj {L k i j : Nat} (hk : k ≤ L) (hi : i < L) (hj : j < L) (e : rtI L k i = rtI L k j) : i = j := by
 revert e
 unfold rtI
 split <;> split <;> intro e <;> omega
def rtW (ws : List Int) (k : Nat) : List Int := ws.drop k ++ ws.take k
theorem rtW_len (ws : List Int) {k : Nat} (hk : k ≤ ws.length) : (rtW ws k).length = ws.length := by unfold rtW; simp; omega
theorem rtW_get {ws : List Int} {k i : Nat} (hk : k ≤ ws.length) (hi : i < ws.length) : (rtW ws k).getD (rtI ws.length k i) 0 = ws.getD i 0 := by
 unfold rtW rtI
 rw [List.getD_eq_getElem?_getD, List.getD_eq_getElem?_getD, List.getElem?_append, List.length_drop]
 by_cases h : k ≤ i
 ·rw [if_pos h, if_pos (by omega), List.getElem?_drop, show k + (i - k) = i by omega]
 ·rw [if_neg h, if_neg (by omega), List.getElem?_take, if_pos (by omega), show i + (ws.length - k) - (ws.length - k) = i by omega]
theorem rtW_getJ {ws : List Int} {k i : Nat} (hk : k ≤ ws.length) (hi : i < ws.length) : (rtW ws k).getD i 0 = ws.getD (rtJ ws.length k i) 0 := by
 have := rtW_get hk (rtJ_lt hk hi)
 rwa [rtI_rtJ hk hi] at this
theorem CN.turn {T T' : Nat → Prop} {L k i j : Nat} (hk : k ≤ L) (hT : ∀ l, l < L → (T' l ↔ T (rtJ L k l))) (h : CN T L i j) : CN T' L (rtI L k i) (rtI L k j) := by
 have hT2 : ∀ l, l < L → (T' (rtI L k l) ↔ T l) := fun l hl => by
  rw [hT _ (rtI_lt hk hl)]
  have : rtJ L k (rtI L k l) = l := rtI_inj hk (rtJ_lt hk (rtI_lt hk hl)) hl (rtI_rtJ hk (rtI_lt hk hl))
  rw [this]
 obtain ⟨h1, h2, hi, hj, h⟩ := h
 refine ⟨(hT2 i hi).2 h1, (hT2 j hj).2 h2, rtI_lt hk hi, rtI_lt hk hj, ?_⟩
 have no : ∀ l, l < L → ¬ T (rtJ L k l) → ¬ T' l := fun l hl hn ht => hn ((hT l hl).1 ht)
 have ea : ∀ l, l < L - k → rtJ L k l = l + k := fun l hl => if_pos hl
 have eb : ∀ l, ¬ l < L - k → rtJ L k l = l - (L - k) := fun l hl => if_neg hl
 rcases h with ⟨a1, a2⟩ | ⟨a1, a2, a3⟩
 ·by_cases c1 : k ≤ i
  ·have e1 : rtI L k i = i - k := if_pos c1
   have e2 : rtI L k j = j - k := if_pos (by omega)
   rw [e1, e2]
   refine .inl ⟨by omega, fun l l1 l2 => no l (by omega) ?_⟩
   rw [ea l (by omega)]
   exact a2 _ (by omega) (by omega)
  ·have e1 : rtI L k i = i + (L - k) := if_neg c1
   by_cases c2 : k ≤ j
   ·have e2 : rtI L k j = j - k := if_pos c2
    rw [e1, e2]
    refine .inr ⟨by omega, fun l l1 l2 => no l l2 ?_, fun l l1 => no l (by omega) ?_⟩
    ·rw [eb l (by omega)]
     exact a2 _ (by omega) (by omega)
    ·rw [ea l (by omega)]
     exact a2 _ (by omega) (by omega)
   ·have e2 : rtI L k j = j + (L - k) := if_neg c2
    rw [e1, e2]
    refine .inl ⟨by omega, fun l l1 l2 => no l (by omega) ?_⟩
    rw [eb l (by omega)]
    exact a2 _ (by omega) (by omega)
 ·by_cases c1 : k ≤ i
  ·have e1 : rtI L k i = i - k := if_pos c1
   by_cases c2 : k ≤ j
   ·have e2 : rtI L k j = j - k := if_pos c2
    rw [e1, e2]
    refine .inr ⟨by omega, fun l l1 l2 => no l l2 ?_, fun l l1 => no l (by omega) ?_⟩
    ·by_cases c3 : l < L - k
     ·rw [ea l c3]
      exact a2 _ (by omega) (by omega)
     ·rw [eb l c3]
      exact a3 _ (by omega)
    ·rw [ea l (by omega)]
     exact a3 _ (by omega)
   ·have e2 : rtI L k j = j + (L - k) := if_neg c2
    rw [e1, e2]
    refine .inl ⟨by omega, fun l l1 l2 => no l (by omega) ?_⟩
    by_cases c3 : l < L - k
    ·rw [ea l c3]
     exact a2 _ (by omega) (by omega)
    ·rw [eb l c3]
     exact a3 _ (by omega)
  ·have e1 : rtI L k i = i + (L - k) := if_neg c1
   have e2 : rtI L k j = j + (L - k) := if_neg (by omega)
   rw [e1, e2]
   refine .inr ⟨by omega, fun l l1 l2 => no l l2 ?_, fun l l1 => no l (by omega) ?_⟩
   ·rw [eb l (by omega)]
    exact a2 _ (by omega) (by omega)
   ·by_cases c3 : l < L - k
    ·rw [ea l c3]
     exact a2 _ (by omega) (by omega)
    ·rw [eb l c3]
     exact a3 _ (by omega)
section
variable {n : Nat} {ws : List Int} {k : Nat}
theorem rtW_mem (ws : List Int) (k : Nat) (x : Int) : x ∈ rtW ws k ↔ x ∈ ws := by
 unfold rtW
 rw [List.mem_append, Or.comm, ← List.mem_append, List.take_append_drop]
theorem BV.turn {s : Int} (h : BV s ws) (hk : k ≤ ws.length) : BV s (rtW ws k) := ⟨h.1, h.2.1, by rw [rtW_len ws hk]; exact h.2.2.1, fun x hx => h.2.2.2 x ((rtW_mem ws k x).1 hx)⟩
theorem rtW_ok (hw : WOk n ws) (hk : k ≤ ws.length) : WOk n (rtW ws k) := fun i hi => by
 rw [rtW_len ws hk] at hi
 rw [rtW_getJ hk hi]
 exact hw _ (rtJ_lt hk hi)
theorem rtW_TP (hk : k ≤ ws.length) {p l : Nat} (hl : l < ws.length) : TP (rtW ws k) p l ↔ TP ws p (rtJ ws.length k l) := by
 unfold TP
 rw [rtW_getJ hk hl]
theorem rcL_congr {vs ws : List Int} (h : ∀ p, nxW vs 0 p < 0 ↔ nxW ws 0 p < 0) : ∀ n, rcL vs n = rcL ws n
 | 0 => rfl
 | p + 1 => by
   show rcL vs p + (if nxW vs 0 p < 0 then 1 else 0) = rcL ws p + (if nxW ws 0 p < 0 then 1 else 0)
   rw [rcL_congr h p]
   by_cases c : nxW ws 0 p < 0
   ·rw [if_pos c, if_pos ((h p).2 c)]
   ·rw [if_neg c, if_neg (fun e => c ((h p).1 e))]
theorem clD_lp (hw : WOk n ws) : (clD n ws).lp = rcL ws n := by rw [clD_ref hw]
theorem rtW_iso (hw : WOk n ws) (hk : k ≤ ws.length) : Iso (clD n ws) (clD n (rtW ws k)) (rtI ws.length k) := by
 have hw' := rtW_ok hw hk
 have hlen := rtW_len ws hk
 have eO : ∀ i p, i < ws.length → dO (rtW ws k) (rtI ws.length k i) p = hf (rtI ws.length k) (dO ws i p) := fun i p hi => by
  unfold dO
  rw [hf_at _ _ (slt_lt _ _ _), rtW_get hk hi]
 have eI : ∀ i p, i < ws.length → dI (rtW ws k) (rtI ws.length k i) p = hf (rtI ws.length k) (dI ws i p) := fun i p hi => by
  unfold dI
  rw [hf_at _ _ (slt_lt _ _ _), rtW_get hk hi]
 refine ⟨by rw [clD_n, clD_n, hlen], ?_, fun c hc => ?_, fun c c' hc hc' e => ?_, fun c hc => ?_, fun h hh => ?_⟩
 ·rw [clD_lp hw, clD_lp hw']
  refine (rcL_congr (fun p => ?_) n).symm
  rw [nxW_neg, nxW_neg, hlen]
  constructor
  ·intro h i hi ht
   refine h (rtI ws.length k i) (rtI_lt hk hi) ?_
   show tcp _ _
   rw [rtW_get hk hi]
   exact ht
  ·intro h i hi ht
   exact h _ (rtJ_lt hk hi) ((rtW_TP hk hi).1 ht)
 ·rw [clD_n] at *
  exact rtI_lt hk hc
 ·rw [clD_n] at *
  exact rtI_inj hk hc hc' e
 ·rw [clD_n] at hc
  rw [clD_s n ws hc, clD_s n _ (by rw [hlen]; exact rtI_lt hk hc), rtW_get hk hc]
 ·rw [clD_n] at hh
  obtain ⟨p, i, j, hc, h⟩ := dart_arc hw hh
  have hc' : CN (TP (rtW ws k) p) (rtW ws k).length (rtI ws.length k i) (rtI ws.length k j) := by
   rw [hlen]
   exact hc.turn hk (fun l hl => rtW_TP hk hl)
  have g := clD_m hw' hc'
  rw [eO i p hc.2.2.1, eI j p hc.2.2.2.1] at g
  rcases h with ⟨e, em⟩ | ⟨e, em⟩
  ·rw [em, e]; exact g.1
  ·rw [em, e]; exact g.2
end
end Go.Proofs.YtcaoblilkgajoaaDoor.Pl
end
section
namespace Go.Proofs.YtcaoblilkgajoaaDoor.Pl
section
variable {n : Nat} {ws : List Int}
instance (ws : List Int) (p i : Nat) : Decidable (TP ws p i) := by unfold TP; infer_instance
def pos (ws : List Int) (h : Nat) : Nat := if slR (ws.getD (h / 4) 0) (h % 4) then lg ws (h / 4) else lg ws (h / 4) - 1
end
end Go.Proofs.YtcaoblilkgajoaaDoor.Pl
end
section
namespace Go.Proofs.YtcaoblilkgajoaaDoor
open Go Go.RowKit
attribute [local go_sem ↓] Go.wp_at_zero Go.wp_at_succ
structure CBr (base : Nat) (w : World) (gd gf gl gM gF gL gj m s : Nat) (vS : Value) (sg : List Int) (q : Pl.ClS) (lp : Nat) (W : World) : Prop where
 d : Row W gd 28 [vS, .slice (some ⟨gM, 0, none⟩) m m, .int .i64 (lp : Int)]
 mr : IRow W gM (nats q.mt)
 fb : Row W gf 22 [.slice (some ⟨gF, 0, none⟩) s s]
 lb : Row W gl 22 [.slice (some ⟨gL, 0, none⟩) s s]
 fr : IRow W gF q.fi
 lr : IRow W gL q.la
 jb : Row W gj 61 [.func (.func 36) #[] #[.pointer (some ⟨gd, 0, none⟩)]]
 own : W.ownsRow base 3 1 vS sg.length (sg.map (.int .i64))
 nd : [gd, gf, gl, gM, gF, gL, gj].Nodup
 lo : ∀ g, g ∈ [gd, gf, gl, gM, gF, gL, gj] → w.heap.size ≤ g ∧ g < base
 bel : Below w.heap.size w W
 big : base ≤ W.heap.size
 lm : q.mt.length = m
 lf : q.fi.length = s
 ll : q.la.length = s
section
variable {base : Nat} {w W W' : World} {gd gf gl gM gF gL gj m s : Nat} {vS : Value} {sg : List Int} {q : Pl.ClS} {lp : Nat}
theorem CBr.below (h : CBr base w gd gf gl gM gF gL gj m s vS sg q lp W) (hb : Below W.heap.size W W') : CBr base w gd gf gl gM gF gL gj m s vS sg q lp W' :=
 ⟨h.d.below hb, Row.below h.mr hb, h.fb.below hb, h.lb.below hb, Row.below h.fr hb, Row.below h.lr hb, h.jb.below hb, own_below h.own hb, h.nd, h.lo, h.bel.trans (hb.mono h.bel.size), Nat.le_trans h.big hb.size, h.lm, h.lf, h.ll⟩
theorem CBr.setM (h : CBr base w gd gf gl gM gF gL gj m s vS sg q lp W) (i x : Nat) : CBr base w gd gf gl gM gF gL gj m s vS sg ⟨q.mt.set i x, q.fi, q.la⟩ lp (W.setCell ⟨gM, i, none⟩ (.int .i64 (x : Int))) := by
 have nd := h.nd
 simp only [List.nodup_cons, List.mem_cons, not_or, List.not_mem_nil, not_false_iff, and_true, List.nodup_nil] at nd
 obtain ⟨⟨a1, a2, a3, a4, a5, a6⟩, ⟨b2, b3, b4, b5, b6⟩, ⟨c3, c4, c5, c6⟩, ⟨d4, d5, d6⟩, ⟨e5, e6⟩, f6⟩ := nd
 have lo := h.lo gM (by simp)
 refine ⟨h.d.other (show _ ≠ gM from a3) _, ?_, h.fb.other (show _ ≠ gM from b3) _, h.lb.other (show _ ≠ gM from c3) _, Row.other h.fr (show _ ≠ gM from fun e => d4 e.symm) _, Row.other h.lr (show _ ≠ gM from fun e => d5 e.symm) _, h.jb.other (show _ ≠ gM from fun e => d6 e.symm) _, ownsRow_setCell_below h.own (by show gM < base; omega) _, h.nd, h.lo, h.bel.setCell (by show _ ≤ gM; omega) _, by simpa using h.big, by show (q.mt.set i x).length = m; rw [List.length_set]; exact h.lm, h.lf, h.ll⟩
 have := IRow.set h.mr i (x : Int)
 rw [← nats_set] at this
 exact this
theorem CBr.setF (h : CBr base w gd gf gl gM gF gL gj m s vS sg q lp W) (i : Nat) (x : Int) : CBr base w gd gf gl gM gF gL gj m s vS sg ⟨q.mt, q.fi.set i x, q.la⟩ lp (W.setCell ⟨gF, i, none⟩ (.int .i64 x)) := by
 have nd := h.nd
 simp only [List.nodup_cons, List.mem_cons, not_or, List.not_mem_nil, not_false_iff, and_true, List.nodup_nil] at nd
 obtain ⟨⟨a1, a2, a3, a4, a5, a6⟩, ⟨b2, b3, b4, b5, b6⟩, ⟨c3, c4, c5, c6⟩, ⟨d4, d5, d6⟩, ⟨e5, e6⟩, f6⟩ := nd
 have lo := h.lo gF (by simp)
 exact ⟨h.d.other (show _ ≠ gF from a4) _, Row.other h.mr (show _ ≠ gF from d4) _, h.fb.other (show _ ≠ gF from b4) _, h.lb.other (show _ ≠ gF from c4) _, IRow.set h.fr i x, Row.other h.lr (show _ ≠ gF from fun e => e5 e.symm) _, h.jb.other (show _ ≠ gF from fun e => e6 e.symm) _, ownsRow_setCell_below h.own (by show gF < base; omega) _, h.nd, h.lo, h.bel.setCell (by show _ ≤ gF; omega) _, by simpa using h.big, h.lm, by show (q.fi.set i x).length = s; rw [List.length_set]; exact h.lf, h.ll⟩
theorem CBr.setL (h : CBr base w gd gf gl gM gF gL gj m s vS sg q lp W) (i : Nat) (x : Int) : CBr base w gd gf gl gM gF gL gj m s vS sg ⟨q.mt, q.fi, q.la.set i x⟩ lp (W.setCell ⟨gL, i, none⟩ (.int .i64 x)) := by
 have nd := h.nd
 simp only [List.nodup_cons, List.mem_cons, not_or, List.not_mem_nil, not_false_iff, and_true, List.nodup_nil] at nd
 obtain ⟨⟨a1, a2, a3, a4, a5, a6⟩, ⟨b2, b3, b4, b5, b6⟩, ⟨c3, c4, c5, c6⟩, ⟨d4, d5, d6⟩, ⟨e5, e6⟩, f6⟩ := nd
 have lo := h.lo gL (by simp)
 exact ⟨h.d.other (show _ ≠ gL from a5) _, Row.other h.mr (show _ ≠ gL from d5) _, h.fb.other (show _ ≠ gL from b5) _, h.lb.other (show _ ≠ gL from c5) _, Row.other h.fr (show _ ≠ gL from e5) _, IRow.set h.lr i x, h.jb.other (show _ ≠ gL from fun e => f6 e.symm) _, ownsRow_setCell_below h.own (by show gL < base; omega) _, h.nd, h.lo, h.bel.setCell (by show _ ≤ gL; omega) _, by simpa using h.big, h.lm, h.lf, by show (q.la.set i x).length = s; rw [List.length_set]; exact h.ll⟩
theorem CBr.setD (h : CBr base w gd gf gl gM gF gL gj m s vS sg q lp W) (lp' : Nat) : CBr base w gd gf gl gM gF gL gj m s vS sg q lp' (W.setCell ⟨gd, 2, none⟩ (.int .i64 (lp' : Int))) := by
 have nd := h.nd
 simp only [List.nodup_cons, List.mem_cons, not_or, List.not_mem_nil, not_false_iff, and_true, List.nodup_nil] at nd
 obtain ⟨⟨a1, a2, a3, a4, a5, a6⟩, ⟨b2, b3, b4, b5, b6⟩, ⟨c3, c4, c5, c6⟩, ⟨d4, d5, d6⟩, ⟨e5, e6⟩, f6⟩ := nd
 have lo := h.lo gd (by simp)
 exact ⟨h.d.set 2 (.int .i64 (lp' : Int)), Row.other h.mr (show _ ≠ gd from fun e => a3 e.symm) _, h.fb.other (show _ ≠ gd from fun e => a1 e.symm) _, h.lb.other (show _ ≠ gd from fun e => a2 e.symm) _, Row.other h.fr (show _ ≠ gd from fun e => a4 e.symm) _, Row.other h.lr (show _ ≠ gd from fun e => a5 e.symm) _, h.jb.other (show _ ≠ gd from fun e => a6 e.symm) _, ownsRow_setCell_below h.own (by show gd < base; omega) _, h.nd, h.lo, h.bel.setCell (by show _ ≤ gd; omega) _, by simpa using h.big, h.lm, h.lf, h.ll⟩
def FrB (base : Nat) (W W' : World) : Prop := ∀ g, base ≤ g → W'.heap[g]? = W.heap[g]?
theorem FrB.refl (base : Nat) (W : World) : FrB base W W := fun _ _ => rfl
theorem FrB.set {base : Nat} {W W' : World} (h : FrB base W W') {g : Nat} (hg : g < base) (i : Nat) (v : Value) : FrB base W (W'.setCell ⟨g, i, none⟩ v) := fun k hk => (Below.heap_setCell W' ⟨g, i, none⟩ v k (by show k ≠ g; omega)).trans (h k hk)
theorem FrB.drew {base : Nat} {W W' : World} (h : FrB base W W') : FrB base W W'.drew := h
theorem FrB.row {base : Nat} {W W' : World} (h : FrB base W W') {g : Nat} {t : TypeId} {vs : List Value} (hr : Row W g t vs) (hg : base ≤ g) : Row W' g t vs := (h g hg).trans hr
theorem CBr.app (h : CBr base w gd gf gl gM gF gL gj m s vS sg q lp W) {g c : Nat} {x : Int} (own : W'.ownsRow base 3 1 (.slice (some ⟨g, 0, none⟩) (sg.length + 1) c) (sg.length + 1) (sg.map (.int .i64) ++ [.int .i64 x])) (gr : W.grownBy W' vS.ownBlock) :
 CBr base w gd gf gl gM gF gL gj m s (.slice (some ⟨g, 0, none⟩) (sg.length + 1) c) (sg ++ [x]) q lp (W'.setCell ⟨gd, 0, none⟩ (.slice (some ⟨g, 0, none⟩) (sg.length + 1) c)) := by
 have nd := h.nd
 simp only [List.nodup_cons, List.mem_cons, not_or, List.not_mem_nil, not_false_iff, and_true, List.nodup_nil] at nd
 obtain ⟨⟨a1, a2, a3, a4, a5, a6⟩, ⟨b2, b3, b4, b5, b6⟩, ⟨c3, c4, c5, c6⟩, ⟨d4, d5, d6⟩, ⟨e5, e6⟩, f6⟩ := nd
 have ne : ∀ k, k ∈ [gd, gf, gl, gM, gF, gL, gj] → some k ≠ vS.ownBlock := fun k hk e => by
  have h1 := (h.own.lt _ e.symm).1
  have h2 := (h.lo k hk).2
  omega
 have lo := h.lo gd (by simp)
 have hb : Below w.heap.size w W' := h.bel.grown gr h.bel.size (fun k hk => by have := (h.own.lt k hk).1; omega)
 have hbig : base ≤ W'.heap.size := Nat.le_trans h.big gr.size
 refine ⟨(h.d.grown gr (ne _ (by simp))).set 0 _, Row.other (Row.grown h.mr gr (ne _ (by simp))) (show _ ≠ gd from fun e => a3 e.symm) _, (h.fb.grown gr (ne _ (by simp))).other (show _ ≠ gd from fun e => a1 e.symm) _, (h.lb.grown gr (ne _ (by simp))).other (show _ ≠ gd from fun e => a2 e.symm) _, Row.other (Row.grown h.fr gr (ne _ (by simp))) (show _ ≠ gd from fun e => a4 e.symm) _, Row.other (Row.grown h.lr gr (ne _ (by simp))) (show _ ≠ gd from fun e => a5 e.symm) _, (h.jb.grown gr (ne _ (by simp))).other (show _ ≠ gd from fun e => a6 e.symm) _, ?_, h.nd, h.lo, hb.setCell (by show _ ≤ gd; omega) _, by simpa using hbig, h.lm, h.lf, h.ll⟩
 have e1 : (sg ++ [x]).length = sg.length + 1 := by simp
 rw [e1, List.map_append]
 exact ownsRow_setCell_below own (by show gd < base; omega) _
end
set_option maxRecDepth 100000 in
set_option maxHeartbeats 2000000 in
theorem cjoin_any {base : Nat} {w W : World} {gd gf gl gM gF gL gj m s : Nat} {vS : Value} {sg : List Int} {q : Pl.ClS} {lp : Nat} (h : CBr base w gd gf gl gM gF gL gj m s vS sg q lp W) (a b : Nat) (ha : a < m) (hb : b < m) (hm : m ≤ 1000) :
 Calls Tryd.prog 36 #[.int .i64 (a : Int), .int .i64 (b : Int), .pointer (some ⟨gd, 0, none⟩)] W fun e W' => (∃ v, e = .returned v) ∧ CBr base w gd gf gl gM gF gL gj m s vS sg ⟨Pl.jnn q.mt a b, q.fi, q.la⟩ lp W' ∧ FrB base W W' := by
 have H := hide h
 obtain ⟨d0, d1, d2, d3⟩ := box3 h.d
 have c1 := IRow.cell h.mr (i := a) (by rw [nats_len, h.lm]; exact ha)
 have c2 := IRow.cell h.mr (i := b) (by rw [nats_len, h.lm]; exact hb)
 have f1 := Row.free h.mr
 have c3 := IRow.cell (h.setM a b).mr (i := b) (by rw [nats_len, (h.setM a b).lm]; exact hb)
 have c4 := IRow.cell (h.setM b a).mr (i := a) (by rw [nats_len, (h.setM b a).lm]; exact ha)
 obtain ⟨_, e1, _, _⟩ := box3 (h.setM a b).d
 obtain ⟨_, e2, _, _⟩ := box3 (h.setM b a).d
 have a0 : (0 : Int) ≤ (a : Int) := by omega
 have a1 : (a : Int) < (m : Int) := by omega
 have b0 : (0 : Int) ≤ (b : Int) := by omega
 have b1 : (b : Int) < (m : Int) := by omega
 clear h
 go_enter Tryd.func36, Tryd.ntmps36
 go_region
 all_goals (go_wp2_with fail)
 all_goals exact bodyPost_end (by simp [results, Tryd.results36, go_sem]; rfl) rfl ⟨⟨_, rfl⟩, ((H.out.setM a b).setM b a).below (Below.refl _ _).drew, (((FrB.refl base W).set (H.out.lo gM (by simp)).2 _ _).set (H.out.lo gM (by simp)).2 _ _).drew⟩
set_option maxRecDepth 100000 in
set_option maxHeartbeats 2000000 in
theorem cpass_any {base : Nat} {w W : World} {gd gf gl gM gF gL gj m s : Nat} {vS : Value} {sg : List Int} {q : Pl.ClS} {lp : Nat} (h : CBr base w gd gf gl gM gF gL gj m s vS sg q lp W) (p i o : Nat) (hp : p < s) (hi : i < m) (ho : o < m) (hm : m ≤ 1000) (hs : s ≤ 10) (hla : q.la.getD p (-1) < (m : Int)) :
 Calls Tryd.prog 37 #[.int .i64 (p : Int), .int .i64 (i : Int), .int .i64 (o : Int), .pointer (some ⟨gl, 0, none⟩), .pointer (some ⟨gf, 0, none⟩), .pointer (some ⟨gj, 0, none⟩)] W fun e W' => (∃ v, e = .returned v) ∧ CBr base w gd gf gl gM gF gL gj m s vS sg (Pl.clPass q p i o) lp W' ∧ FrB base W W' := by
 have H := hide h
 have l0 := h.lb.cell (i := 0) (by simp)
 have f0 := h.fb.cell (i := 0) (by simp)
 have j0 := h.jb.cell (i := 0) (by simp)
 have c1 := IRow.cell h.lr (i := p) (by rw [h.ll]; exact hp)
 have c2 := IRow.cell h.fr (i := p) (by rw [h.lf]; exact hp)
 have f1 := Row.free h.lr
 have f2 := Row.free h.fr
 have p0 : (0 : Int) ≤ (p : Int) := by omega
 have p1 : (p : Int) < (s : Int) := by omega
 have HP := hide (show Pl.pv q.la p = q.la.getD p (-1) by
  unfold Pl.pv
  rw [List.getD_eq_getElem?_getD, List.getD_eq_getElem?_getD, List.getElem?_eq_getElem (by rw [h.ll]; exact hp)]
  rfl)
 rw [HP.out] at c1
 obtain ⟨x, hx⟩ : ∃ x, x = q.la.getD p (-1) := ⟨_, rfl⟩
 rw [← hx] at c1 hla
 have HX := hide hx
 clear h hx
 simp only [List.getElem_cons_zero] at l0 f0 j0
 by_cases hx0 : x < 0
 ·have HE := hide (show Pl.clPass q p i o = ⟨q.mt, q.fi.set p (i : Int), q.la.set p (o : Int)⟩ by unfold Pl.clPass; rw [if_pos (by rw [← HX.out]; exact hx0)])
  have H1 := hide (H.out.setF p (i : Int))
  have l1 := H1.out.lb.cell (i := 0) (by simp)
  have c3 := IRow.cell H1.out.lr (i := p) (by rw [H1.out.ll]; exact hp)
  have f3 := Row.free H1.out.lr
  simp only [List.getElem_cons_zero] at l1
  go_enter Tryd.func37, Tryd.ntmps37
  go_wp2_with fail
  exact bodyPost_end (by simp [results, Tryd.results37, go_sem]; rfl) rfl ⟨⟨_, rfl⟩, by rw [HE.out]; exact H1.out.setL p (o : Int), ((FrB.refl base W).set (H.out.lo gF (by simp)).2 _ _).set (H.out.lo gL (by simp)).2 _ _⟩
 ·obtain ⟨a, rfl⟩ := Int.eq_ofNat_of_zero_le (show 0 ≤ x by omega)
  have ham : a < m := by omega
  have HE := hide (show Pl.clPass q p i o = ⟨Pl.jnn q.mt a i, q.fi, q.la.set p (o : Int)⟩ by
   unfold Pl.clPass
   rw [if_neg (by rw [← HX.out]; exact hx0), ← HX.out]
   rfl)
  have HD := hide (H.out.below (Below.refl W.heap.size W).drew)
  go_enter Tryd.func37, Tryd.ntmps37
  go_upto_region 2 with fail
  go_still_tail 6, (by kernel_rfl)
  change wpList _ _ _ _ _ W.drew
  obtain ⟨W6, hW6⟩ : ∃ W6 : World, W6 = W.drew := ⟨_, rfl⟩
  rw [← hW6] at HD ⊢
  have HFR := hide (show FrB base W W6 by rw [hW6]; exact FrB.refl base W)
  clear hW6 l0 f0 j0 c1 c2 f1 f2
  go_wp2_with fail
  refine (cjoin_any HD.out a i ham hi hm).mono ?_
  rintro e W2 ⟨⟨v, rfl⟩, hc, hfr⟩
  have H2 := hide hc
  have HFR2 := hide (show FrB base W W2 from fun k hk => (hfr k hk).trans (HFR.out k hk))
  have l1 := H2.out.lb.cell (i := 0) (by simp)
  have c3 := IRow.cell H2.out.lr (i := p) (by rw [H2.out.ll]; exact hp)
  have f3 := Row.free H2.out.lr
  simp only [List.getElem_cons_zero] at l1
  clear hc hfr
  go_wp2_with fail
  exact bodyPost_end (by simp [results, Tryd.results37, go_sem]; rfl) rfl ⟨⟨_, rfl⟩, by rw [HE.out]; exact H2.out.setL p (o : Int), HFR2.out.set (H.out.lo gL (by simp)).2 _ _⟩
theorem cpass_int {base : Nat} {w W : World} {gd gf gl gM gF gL gj m s : Nat} {vS : Value} {sg : List Int} {q : Pl.ClS} {lp : Nat} (h : CBr base w gd gf gl gM gF gL gj m s vS sg q lp W) (p i o : Nat) (x y z : Int) (ex : x = (p : Int)) (ey : y = (i : Int)) (ez : z = (o : Int)) (hp : p < s) (hi : i < m) (ho : o < m) (hm : m ≤ 1000) (hs : s ≤ 10) (hla : q.la.getD p (-1) < (m : Int)) :
 Calls Tryd.prog 37 #[.int .i64 x, .int .i64 y, .int .i64 z, .pointer (some ⟨gl, 0, none⟩), .pointer (some ⟨gf, 0, none⟩), .pointer (some ⟨gj, 0, none⟩)] W fun e W' => (∃ v, e = .returned v) ∧ CBr base w gd gf gl gM gF gL gj m s vS sg (Pl.clPass q p i o) lp W' ∧ FrB base W W' := by
 subst ex ey ez
 exact cpass_any h p i o hp hi ho hm hs hla
end Go.Proofs.YtcaoblilkgajoaaDoor
end
