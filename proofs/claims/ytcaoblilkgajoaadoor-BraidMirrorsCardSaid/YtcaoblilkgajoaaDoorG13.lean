/-
 The texts Brn, Bcv, Brr, Brp, Bcc in one.
-/
import Derived.Test.YtcaoblilkgajoaaDoorG12
import Derived.Test.YtcaoblilkgajoaaDoorG06
import Derived.Test.YtcaoblilkgajoaaDoorG02
import Derived.Test.YtcaoblilkgajoaaDoorG04
import Derived.Test.YtcaoblilkgajoaaDoorG08
set_option linter.unusedVariables false
set_option linter.unusedSimpArgs false
section
namespace Go.Proofs.YtcaoblilkgajoaaDoor.Pl
/-- The slot of a side of a crossing. -/
def slt (x : Int) (o r : Bool) : Nat := if x < 0 then (if r then (if o then 2 else 1) else (if o then 3 else 0)) else (if r then (if o then 1 else 0) else (if o then 2 else 3))
theorem slt_lt (x : Int) (o r : Bool) : slt x o r < 4 := by unfold slt; split <;> cases o <;> cases r <;> decide
theorem slt_inj {x : Int} {o r o' r' : Bool} (h : slt x o r = slt x o' r') : o = o' ∧ r = r' := by
 revert h
 unfold slt
 split <;> cases o <;> cases r <;> cases o' <;> cases r' <;> simp
/-- Does a letter concern a position? -/
def tcp (x : Int) (p : Nat) : Prop := x.natAbs = p + 1 ∨ x.natAbs = p
instance (x : Int) (p : Nat) : Decidable (tcp x p) := by unfold tcp; infer_instance
def TP (ws : List Int) (p i : Nat) : Prop := tcp (ws.getD i 0) p
/-- The half-edges at which a strand comes to a letter and leaves it. -/
def dO (ws : List Int) (i p : Nat) : Nat := 4 * i + slt (ws.getD i 0) true (p == (ws.getD i 0).natAbs)
def dI (ws : List Int) (i p : Nat) : Nat := 4 * i + slt (ws.getD i 0) false (p == (ws.getD i 0).natAbs)
theorem dO_lt {ws : List Int} {i p : Nat} (h : i < ws.length) : dO ws i p < 4 * ws.length := by
 have := slt_lt (ws.getD i 0) true (p == (ws.getD i 0).natAbs)
 unfold dO
 omega
theorem dI_lt {ws : List Int} {i p : Nat} (h : i < ws.length) : dI ws i p < 4 * ws.length := by
 have := slt_lt (ws.getD i 0) false (p == (ws.getD i 0).natAbs)
 unfold dI
 omega
theorem dart_eq {ws : List Int} {i p i' p' : Nat} {o o' : Bool} (hp : TP ws p i) (hp' : TP ws p' i') (h0 : 1 ≤ (ws.getD i 0).natAbs) (h : 4 * i + slt (ws.getD i 0) o (p == (ws.getD i 0).natAbs) = 4 * i' + slt (ws.getD i' 0) o' (p' == (ws.getD i' 0).natAbs)) : i = i' ∧ p = p' ∧ o = o' := by
 have h1 := slt_lt (ws.getD i 0) o (p == (ws.getD i 0).natAbs)
 have h2 := slt_lt (ws.getD i' 0) o' (p' == (ws.getD i' 0).natAbs)
 obtain rfl : i = i' := by omega
 obtain ⟨e1, e2⟩ := slt_inj (show slt (ws.getD i 0) o (p == (ws.getD i 0).natAbs) = slt (ws.getD i 0) o' (p' == (ws.getD i 0).natAbs) by omega)
 refine ⟨rfl, ?_, e1⟩
 unfold TP tcp at hp hp'
 rw [Bool.eq_iff_iff, beq_iff_eq, beq_iff_eq] at e2
 by_cases e : p = (ws.getD i 0).natAbs
 ·have := e2.mp e
  omega
 ·have : ¬ p' = (ws.getD i 0).natAbs := fun h => e (e2.mpr h)
  omega
theorem dO_inj {ws : List Int} {i p i' p' : Nat} (hp : TP ws p i) (hp' : TP ws p' i') (h0 : 1 ≤ (ws.getD i 0).natAbs) (h : dO ws i p = dO ws i' p') : i = i' ∧ p = p' := by
 obtain ⟨a, b, _⟩ := dart_eq hp hp' h0 h
 exact ⟨a, b⟩
theorem dI_inj {ws : List Int} {i p i' p' : Nat} (hp : TP ws p i) (hp' : TP ws p' i') (h0 : 1 ≤ (ws.getD i 0).natAbs) (h : dI ws i p = dI ws i' p') : i = i' ∧ p = p' := by
 obtain ⟨a, b, _⟩ := dart_eq hp hp' h0 h
 exact ⟨a, b⟩
theorem dO_ne {ws : List Int} {i p i' p' : Nat} (hp : TP ws p i) (hp' : TP ws p' i') (h0 : 1 ≤ (ws.getD i 0).natAbs) : dO ws i p ≠ dI ws i' p' := fun h => by
 obtain ⟨_, _, c⟩ := dart_eq hp hp' h0 h
 cases c
/-- Each half-edge is one of these. -/
theorem dart_ex {ws : List Int} {h : Nat} (hh : h < 4 * ws.length) (h0 : 1 ≤ (ws.getD (h / 4) 0).natAbs) : ∃ p, TP ws p (h / 4) ∧ (h = dO ws (h / 4) p ∨ h = dI ws (h / 4) p) := by
 obtain ⟨x, hx⟩ : ∃ x, x = ws.getD (h / 4) 0 := ⟨_, rfl⟩
 obtain ⟨i, hi⟩ : ∃ i, i = h / 4 := ⟨_, rfl⟩
 have key : ∀ s, s < 4 → ∃ o r, s = slt x o r := by
  intro s hs
  unfold slt
  by_cases hx0 : x < 0
  ·simp only [if_pos hx0]
   have : s = 0 ∨ s = 1 ∨ s = 2 ∨ s = 3 := by omega
   rcases this with rfl | rfl | rfl | rfl
   ·exact ⟨false, false, rfl⟩
   ·exact ⟨false, true, rfl⟩
   ·exact ⟨true, true, rfl⟩
   ·exact ⟨true, false, rfl⟩
  ·simp only [if_neg hx0]
   have : s = 0 ∨ s = 1 ∨ s = 2 ∨ s = 3 := by omega
   rcases this with rfl | rfl | rfl | rfl
   ·exact ⟨false, true, rfl⟩
   ·exact ⟨true, true, rfl⟩
   ·exact ⟨true, false, rfl⟩
   ·exact ⟨false, false, rfl⟩
 obtain ⟨o, r, hs⟩ := key (h % 4) (by omega)
 rw [← hx] at h0
 refine ⟨if r then x.natAbs else x.natAbs - 1, ?_, ?_⟩
 ·unfold TP tcp
  rw [← hx]
  cases r
  ·left
   show x.natAbs = x.natAbs - 1 + 1
   omega
  ·right
   rfl
 ·unfold dO dI
  rw [← hx]
  have er : ((if r then x.natAbs else x.natAbs - 1) == x.natAbs) = r := by
   cases r
   ·show (x.natAbs - 1 == x.natAbs) = false
    rw [beq_eq_false_iff_ne]
    omega
   ·show (x.natAbs == x.natAbs) = true
    simp
  rw [er]
  cases o
  ·right
   rw [← hs]
   omega
  ·left
   rw [← hs]
   omega
/-- Cyclically next. -/
def CN (T : Nat → Prop) (L i j : Nat) : Prop := T i ∧ T j ∧ i < L ∧ j < L ∧ ((i < j ∧ ∀ k, i < k → k < j → ¬ T k) ∨ (j ≤ i ∧ (∀ k, i < k → k < L → ¬ T k) ∧ ∀ k, k < j → ¬ T k))
section
variable {T : Nat → Prop} {L i j i' j' : Nat}
theorem CN.fn0 (h : CN T L i j) (h' : CN T L i j') : ¬ j < j' := fun hlt => by
 obtain ⟨a1, a2, a3, a4, a5⟩ := h
 obtain ⟨b1, b2, b3, b4, b5⟩ := h'
 rcases b5 with ⟨c1, c2⟩ | ⟨c1, c2, c3⟩
 ·rcases a5 with ⟨d1, d2⟩ | ⟨d1, d2, d3⟩
  ·exact c2 j d1 hlt a2
  ·exact d2 j' c1 b4 b2
 ·exact c3 j hlt a2
theorem CN.fn (h : CN T L i j) (h' : CN T L i j') : j = j' := by
 have h1 := h.fn0 h'
 have h2 := h'.fn0 h
 omega
theorem CN.inj0 (h : CN T L i j) (h' : CN T L i' j) : ¬ i < i' := fun hlt => by
 obtain ⟨a1, a2, a3, a4, a5⟩ := h
 obtain ⟨b1, b2, b3, b4, b5⟩ := h'
 rcases a5 with ⟨d1, d2⟩ | ⟨d1, d2, d3⟩
 ·rcases b5 with ⟨c1, c2⟩ | ⟨c1, c2, c3⟩
  ·exact d2 i' hlt c1 b1
  ·exact c3 i d1 a1
 ·exact d2 i' hlt b3 b1
theorem CN.inj (h : CN T L i j) (h' : CN T L i' j) : i = i' := by
 have h1 := h.inj0 h'
 have h2 := h'.inj0 h
 omega
theorem first_ex (T : Nat → Prop) (a : Nat) : ∀ d, (∃ k, a ≤ k ∧ k < a + d ∧ T k) → ∃ k, a ≤ k ∧ k < a + d ∧ T k ∧ ∀ l, a ≤ l → l < k → ¬ T l
 | 0, ⟨k, h1, h2, _⟩ => by omega
 | d + 1, ⟨k, h1, h2, h3⟩ => by
   by_cases h : ∃ k, a ≤ k ∧ k < a + d ∧ T k
   ·obtain ⟨m, m1, m2, m3, m4⟩ := first_ex T a d h
    exact ⟨m, m1, by omega, m3, m4⟩
   ·refine ⟨k, h1, h2, h3, fun l l1 l2 l3 => h ⟨l, l1, by omega, l3⟩⟩
theorem last_ex (T : Nat → Prop) (a : Nat) : ∀ b, (∃ k, a ≤ k ∧ k < b ∧ T k) → ∃ k, a ≤ k ∧ k < b ∧ T k ∧ ∀ l, k < l → l < b → ¬ T l
 | 0, ⟨k, h1, h2, _⟩ => by omega
 | b + 1, ⟨k, h1, h2, h3⟩ => by
   by_cases h : a ≤ b ∧ T b
   ·exact ⟨b, h.1, by omega, h.2, fun l l1 l2 => by omega⟩
   ·have hk : k < b := by
     rcases Nat.lt_or_ge k b with h' | h'
     ·exact h'
     ·exact absurd ⟨by omega, by rw [show b = k by omega]; exact h3⟩ h
    obtain ⟨m, m1, m2, m3, m4⟩ := last_ex T a b ⟨k, h1, hk, h3⟩
    refine ⟨m, m1, by omega, m3, fun l l1 l2 l3 => ?_⟩
    rcases Nat.lt_or_ge l b with h' | h'
    ·exact m4 l l1 h' l3
    ·exact h ⟨by omega, by rw [show b = l by omega]; exact l3⟩
theorem CN.next_ex (hT : T i) (hi : i < L) : ∃ j, CN T L i j := by
 by_cases h : ∃ k, i + 1 ≤ k ∧ k < i + 1 + (L - (i + 1)) ∧ T k
 ·obtain ⟨k, h1, h2, h3, h4⟩ := first_ex T (i + 1) _ h
  exact ⟨k, hT, h3, hi, by omega, .inl ⟨by omega, fun l l1 l2 => h4 l (by omega) l2⟩⟩
 ·obtain ⟨k, h1, h2, h3, h4⟩ := first_ex T 0 L ⟨i, by omega, by omega, hT⟩
  refine ⟨k, hT, h3, hi, by omega, .inr ⟨?_, fun l l1 l2 l3 => h ⟨l, by omega, by omega, l3⟩, fun l l1 => h4 l (by omega) l1⟩⟩
  rcases Nat.lt_or_ge i k with h' | h'
  ·exact absurd hT (h4 i (by omega) h')
  ·exact h'
theorem CN.prev_ex (hT : T j) (hj : j < L) : ∃ i, CN T L i j := by
 by_cases h : ∃ k, 0 ≤ k ∧ k < j ∧ T k
 ·obtain ⟨k, h1, h2, h3, h4⟩ := last_ex T 0 j h
  exact ⟨k, h3, hT, by omega, hj, .inl ⟨h2, h4⟩⟩
 ·obtain ⟨k, h1, h2, h3, h4⟩ := last_ex T 0 L ⟨j, by omega, hj, hT⟩
  refine ⟨k, h3, hT, h2, hj, .inr ⟨?_, h4, fun l l1 l2 => h ⟨l, by omega, l1, l2⟩⟩⟩
  rcases Nat.lt_or_ge k j with h' | h'
  ·exact absurd ⟨k, by omega, h', h3⟩ h
  ·exact h'
end
/-- All letters are in order. -/
def WOk (n : Nat) (ws : List Int) : Prop := ∀ i, i < ws.length → LetOk n (ws.getD i 0)
theorem BV.wok {s : Int} {ws : List Int} (h : BV s ws) : WOk s.toNat ws := fun i hi => h.ok _ (by rw [List.getD_eq_getElem?_getD, List.getElem?_eq_getElem hi]; exact List.getElem_mem hi)
theorem WOk.lt {n : Nat} {ws : List Int} (h : WOk n ws) {i p : Nat} (hi : i < ws.length) (hp : TP ws p i) : p < n := by
 have h1 := (h i hi).2
 unfold TP tcp at hp
 omega
/-- The mates of a closure. -/
def CGood (ws : List Int) (M : List Nat) : Prop := M.length = 4 * ws.length ∧ ∀ p i j, CN (TP ws p) ws.length i j → M.getD (dO ws i p) 0 = dI ws j p ∧ M.getD (dI ws j p) 0 = dO ws i p
theorem CGood.uniq {n : Nat} {ws : List Int} {M M' : List Nat} (hw : WOk n ws) (h : CGood ws M) (h' : CGood ws M') : M = M' := by
 refine List.ext_getElem (by rw [h.1, h'.1]) fun k h1 h2 => ?_
 have hk : k < 4 * ws.length := by rw [← h.1]; exact h1
 have key : M.getD k 0 = M'.getD k 0 := by
  have hi : k / 4 < ws.length := by omega
  obtain ⟨p, hp, e | e⟩ := dart_ex hk (hw _ hi).1
  ·obtain ⟨j, hj⟩ := CN.next_ex hp hi
   rw [e, (h.2 p _ j hj).1, (h'.2 p _ j hj).1]
  ·obtain ⟨j, hj⟩ := CN.prev_ex hp hi
   rw [e, (h.2 p j _ hj).2, (h'.2 p j _ hj).2]
 rw [List.getD_eq_getElem?_getD, List.getD_eq_getElem?_getD, List.getElem?_eq_getElem h1, List.getElem?_eq_getElem h2] at key
 exact key
theorem jnn_getD (l : List Nat) (a b x : Nat) (ha : a < l.length) (hb : b < l.length) : (jnn l a b).getD x 0 = if x = b then a else if x = a then b else l.getD x 0 := jn_getD l a b x ha hb
/-- One arc more: the others stay. -/
theorem jnn_keep {n : Nat} {ws : List Int} (hw : WOk n ws) {M : List Nat} (hM : M.length = 4 * ws.length) {p i j p' i' j' : Nat} (h : CN (TP ws p) ws.length i j) (h' : CN (TP ws p') ws.length i' j') (hne : ¬ (i = i' ∧ p = p')) (hm : M.getD (dO ws i' p') 0 = dI ws j' p' ∧ M.getD (dI ws j' p') 0 = dO ws i' p') :
 (jnn M (dO ws i p) (dI ws j p)).getD (dO ws i' p') 0 = dI ws j' p' ∧ (jnn M (dO ws i p) (dI ws j p)).getD (dI ws j' p') 0 = dO ws i' p' := by
 have a1 : dO ws i p < M.length := by rw [hM]; exact dO_lt h.2.2.1
 have a2 : dI ws j p < M.length := by rw [hM]; exact dI_lt h.2.2.2.1
 rw [jnn_getD _ _ _ _ a1 a2, jnn_getD _ _ _ _ a1 a2, if_neg (dO_ne h'.1 h.2.1 (hw _ h'.2.2.1).1), if_neg, if_neg, if_neg]
 ·exact hm
 ·exact fun e => dO_ne h.1 h'.2.1 (hw _ h.2.2.1).1 e.symm
 ·intro e
  obtain ⟨rfl, rfl⟩ := dI_inj h'.2.1 h.2.1 (hw _ h'.2.2.2.1).1 e
  exact hne ⟨h.inj h', rfl⟩
 ·intro e
  obtain ⟨rfl, rfl⟩ := dO_inj h'.1 h.1 (hw _ h'.2.2.1).1 e
  exact hne ⟨rfl, rfl⟩
theorem jnn_put {n : Nat} {ws : List Int} (hw : WOk n ws) {M : List Nat} (hM : M.length = 4 * ws.length) {p i j : Nat} (h : CN (TP ws p) ws.length i j) :
 (jnn M (dO ws i p) (dI ws j p)).getD (dO ws i p) 0 = dI ws j p ∧ (jnn M (dO ws i p) (dI ws j p)).getD (dI ws j p) 0 = dO ws i p := by
 have a1 : dO ws i p < M.length := by rw [hM]; exact dO_lt h.2.2.1
 have a2 : dI ws j p < M.length := by rw [hM]; exact dI_lt h.2.2.2.1
 rw [jnn_getD _ _ _ _ a1 a2, jnn_getD _ _ _ _ a1 a2, if_neg (dO_ne h.1 h.2.1 (hw _ h.2.2.1).1), if_pos rfl, if_pos rfl]
 exact ⟨rfl, rfl⟩
/-- While a closure is made: at each position some letters have been taken. -/
structure CInv (n : Nat) (ws : List Int) (kk : Nat → Nat) (q : ClS) : Prop where
 lm : q.mt.length = 4 * ws.length
 lf : q.fi.length = n
 ll : q.la.length = n
 at_ : ∀ p, p < n → (q.la.getD p (-1) = -1 ∧ ∀ i, i < kk p → ¬ TP ws p i) ∨ ∃ i f, i < kk p ∧ TP ws p i ∧ (∀ l, i < l → l < kk p → ¬ TP ws p l) ∧ q.la.getD p (-1) = ((dO ws i p : Nat) : Int) ∧ f < kk p ∧ TP ws p f ∧ (∀ l, l < f → ¬ TP ws p l) ∧ q.fi.getD p (-1) = ((dI ws f p : Nat) : Int)
 mt : ∀ p i j, CN (TP ws p) ws.length i j → i < j → j < kk p → q.mt.getD (dO ws i p) 0 = dI ws j p ∧ q.mt.getD (dI ws j p) 0 = dO ws i p
def upd (kk : Nat → Nat) (p v : Nat) : Nat → Nat := fun r => if r = p then v else kk r
theorem CInv.pass {n : Nat} {ws : List Int} {kk : Nat → Nat} {q : ClS} (hw : WOk n ws) (h : CInv n ws kk q) {p k : Nat} (hk : k < ws.length) (hp : TP ws p k) (hkk : kk p = k) :
 CInv n ws (upd kk p (k + 1)) (clPass q p (dI ws k p) (dO ws k p)) := by
 have hpn := hw.lt hk hp
 have hl := clPass_len q p (dI ws k p) (dO ws k p)
 have e1 : upd kk p (k + 1) p = k + 1 := by unfold upd; rw [if_pos rfl]
 have e2 : ∀ r, r ≠ p → upd kk p (k + 1) r = kk r := fun r hr => by unfold upd; rw [if_neg hr]
 have hla := h.ll
 have hfi := h.lf
 have hlm := h.lm
 rcases h.at_ p hpn with ⟨g1, g2⟩ | ⟨i0, f0, g1, g2, g3, g4, g5, g6, g7, g8⟩
 ·have ec : clPass q p (dI ws k p) (dO ws k p) = ⟨q.mt, q.fi.set p ((dI ws k p : Nat) : Int), q.la.set p ((dO ws k p : Nat) : Int)⟩ := by
   unfold clPass
   rw [if_pos (by rw [g1]; omega)]
  rw [ec]
  rw [hkk] at g2
  refine ⟨hlm, by simp [hfi], by simp [hla], fun r hr => ?_, fun r i j hc hij hj => ?_⟩
  ·show ((q.la.set p ((dO ws k p : Nat) : Int)).getD r (-1) = -1 ∧ _) ∨ ∃ i f, _ ∧ _ ∧ _ ∧ (q.la.set p ((dO ws k p : Nat) : Int)).getD r (-1) = _ ∧ _ ∧ _ ∧ _ ∧ (q.fi.set p ((dI ws k p : Nat) : Int)).getD r (-1) = _
   rw [getD_setI, getD_setI]
   by_cases e : p = r
   ·subst e
    rw [if_pos ⟨rfl, by omega⟩, if_pos ⟨rfl, by omega⟩, e1]
    exact .inr ⟨k, k, by omega, hp, fun l l1 l2 => by omega, rfl, by omega, hp, fun l l1 => g2 l l1, rfl⟩
   ·rw [if_neg (fun x => e x.1), if_neg (fun x => e x.1), e2 r (fun x => e x.symm)]
    exact h.at_ r hr
  ·by_cases e : r = p
   ·subst e
    rw [e1] at hj
    exact absurd hc.1 (g2 i (by omega))
   ·rw [e2 r e] at hj
    exact h.mt r i j hc hij hj
 ·have ec : clPass q p (dI ws k p) (dO ws k p) = ⟨jnn q.mt (dO ws i0 p) (dI ws k p), q.fi, q.la.set p ((dO ws k p : Nat) : Int)⟩ := by
   unfold clPass
   rw [g4, if_neg (by omega), Int.toNat_natCast]
  rw [ec]
  rw [hkk] at g1 g3 g5
  have hc0 : CN (TP ws p) ws.length i0 k := ⟨g2, hp, by omega, hk, .inl ⟨g1, g3⟩⟩
  refine ⟨by show (jnn _ _ _).length = _; rw [jnn_len, hlm], hfi, by simp [hla], fun r hr => ?_, fun r i j hc hij hj => ?_⟩
  ·show ((q.la.set p ((dO ws k p : Nat) : Int)).getD r (-1) = -1 ∧ _) ∨ ∃ i f, _ ∧ _ ∧ _ ∧ (q.la.set p ((dO ws k p : Nat) : Int)).getD r (-1) = _ ∧ _ ∧ _ ∧ _ ∧ q.fi.getD r (-1) = _
   rw [getD_setI]
   by_cases e : p = r
   ·subst e
    rw [if_pos ⟨rfl, by omega⟩, e1]
    exact .inr ⟨k, f0, by omega, hp, fun l l1 l2 => by omega, rfl, by omega, g6, g7, g8⟩
   ·rw [if_neg (fun x => e x.1), e2 r (fun x => e x.symm)]
    exact h.at_ r hr
  ·by_cases e : i0 = i ∧ p = r
   ·obtain ⟨rfl, rfl⟩ := e
    obtain rfl := hc0.fn hc
    exact jnn_put hw hlm hc0
   ·refine jnn_keep hw hlm hc0 hc e (h.mt r i j hc hij ?_)
    by_cases er : r = p
    ·subst er
     rw [e1] at hj
     rw [hkk]
     rcases Nat.lt_or_ge j k with hjk | hjk
     ·exact hjk
     ·obtain rfl : j = k := by omega
      exact absurd ⟨hc0.inj hc, rfl⟩ e
    ·rw [e2 r er] at hj
     exact hj
theorem CInv.widen {n : Nat} {ws : List Int} {kk k2 : Nat → Nat} {q : ClS} (h : CInv n ws kk q) (hle : ∀ p, kk p ≤ k2 p) (hno : ∀ p i, kk p ≤ i → i < k2 p → ¬ TP ws p i) : CInv n ws k2 q := by
 refine ⟨h.lm, h.lf, h.ll, fun p hp => ?_, fun p i j hc hij hj => ?_⟩
 ·rcases h.at_ p hp with ⟨g1, g2⟩ | ⟨i0, f0, g1, g2, g3, g4, g5, g6, g7, g8⟩
  ·refine .inl ⟨g1, fun i hi => ?_⟩
   rcases Nat.lt_or_ge i (kk p) with h' | h'
   ·exact g2 i h'
   ·exact hno p i h' hi
  ·have := hle p
   refine .inr ⟨i0, f0, by omega, g2, fun l l1 l2 => ?_, g4, by omega, g6, g7, g8⟩
   rcases Nat.lt_or_ge l (kk p) with h' | h'
   ·exact g3 l l1 h'
   ·exact hno p l h' l2
 ·rcases Nat.lt_or_ge j (kk p) with h' | h'
  ·exact h.mt p i j hc hij h'
  ·exact absurd hc.2.1 (hno p j h' hj)
theorem clStep_eq (q : ClS) (ws : List Int) (k : Nat) (h0 : 1 ≤ (ws.getD k 0).natAbs) :
 clStep q k (ws.getD k 0) = clPass (clPass q ((ws.getD k 0).natAbs - 1) (dI ws k ((ws.getD k 0).natAbs - 1)) (dO ws k ((ws.getD k 0).natAbs - 1))) (ws.getD k 0).natAbs (dI ws k (ws.getD k 0).natAbs) (dO ws k (ws.getD k 0).natAbs) := by
 have e1 : ((ws.getD k 0).natAbs - 1 == (ws.getD k 0).natAbs) = false := by rw [beq_eq_false_iff_ne]; omega
 have e2 : ((ws.getD k 0).natAbs == (ws.getD k 0).natAbs) = true := by simp
 unfold clStep dI dO
 rw [e1, e2]
 unfold slt
 by_cases hx : ws.getD k 0 < 0
 ·simp only [if_pos hx]
  rfl
 ·simp only [if_neg hx]
  rfl
theorem clK_inv {n : Nat} {ws : List Int} (hw : WOk n ws) : ∀ k, k ≤ ws.length → CInv n ws (fun _ => k) (clK n ws k)
 | 0, _ => by
   refine ⟨by simp [clK], by simp [clK], by simp [clK], fun p hp => .inl ⟨?_, fun i hi => by omega⟩, fun p i j _ _ hj => by omega⟩
   show (List.replicate n (-1 : Int)).getD p (-1) = -1
   rw [List.getD_eq_getElem?_getD, List.getElem?_replicate]
   split <;> rfl
 | k + 1, hk => by
   have ih := clK_inv hw k (by omega)
   have hx := hw k (by omega)
   have h1 := ih.pass hw (p := (ws.getD k 0).natAbs - 1) (show k < ws.length by omega) (by unfold TP tcp; omega) rfl
   have h2 := h1.pass hw (p := (ws.getD k 0).natAbs) (k := k) (show k < ws.length by omega) (by unfold TP tcp; omega) (by unfold upd; rw [if_neg (by have := hx.1; omega)])
   show CInv n ws (fun _ => k + 1) (clStep (clK n ws k) k (ws.getD k 0))
   rw [clStep_eq _ _ _ hx.1]
   refine h2.widen (fun p => ?_) (fun p i hi1 hi2 hT => ?_)
   ·unfold upd
    dsimp only
    split
    ·omega
    ·split <;> omega
   ·unfold upd at hi1
    dsimp only at hi1 hi2
    split at hi1
    ·omega
    ·split at hi1
     ·omega
     ·obtain rfl : i = k := by omega
      unfold TP tcp at hT
      omega
/-- The next letter, cyclically, that concerns a position. -/
def nxF (ws : List Int) (i p : Nat) : Nat → Nat → Int
 | 0, _ => -1
 | f + 1, k => if tcp (ws.getD ((i + k) % ws.length) 0) p then (((i + k) % ws.length : Nat) : Int) else nxF ws i p f (k + 1)
def nxW (ws : List Int) (i p : Nat) : Int := nxF ws i p ws.length 0
theorem nxF_spec (ws : List Int) (i p : Nat) : ∀ f k, (nxF ws i p f k = -1 ∧ ∀ q, k ≤ q → q < k + f → ¬ TP ws p ((i + q) % ws.length)) ∨ ∃ q, k ≤ q ∧ q < k + f ∧ TP ws p ((i + q) % ws.length) ∧ (∀ l, k ≤ l → l < q → ¬ TP ws p ((i + l) % ws.length)) ∧ nxF ws i p f k = (((i + q) % ws.length : Nat) : Int)
 | 0, k => .inl ⟨rfl, fun q h1 h2 => by omega⟩
 | f + 1, k => by
   unfold nxF
   by_cases ht : tcp (ws.getD ((i + k) % ws.length) 0) p
   ·rw [if_pos ht]
    exact .inr ⟨k, Nat.le_refl _, by omega, ht, fun l l1 l2 => by omega, rfl⟩
   ·rw [if_neg ht]
    rcases nxF_spec ws i p f (k + 1) with ⟨h1, h2⟩ | ⟨q, h1, h2, h3, h4, h5⟩
    ·refine .inl ⟨h1, fun q q1 q2 => ?_⟩
     rcases Nat.lt_or_ge k q with h' | h'
     ·exact h2 q (by omega) (by omega)
     ·rw [show q = k by omega]; exact ht
    ·refine .inr ⟨q, by omega, by omega, h3, fun l l1 l2 => ?_, h5⟩
     rcases Nat.lt_or_ge k l with h' | h'
     ·exact h4 l (by omega) l2
     ·rw [show l = k by omega]; exact ht
theorem nxW_CN {ws : List Int} {i p : Nat} (hi : i < ws.length) (hT : TP ws p i) : ∃ j, nxW ws (i + 1) p = ((j : Nat) : Int) ∧ CN (TP ws p) ws.length i j := by
 obtain ⟨L, hL⟩ : ∃ L, L = ws.length := ⟨_, rfl⟩
 have hs := nxF_spec ws (i + 1) p ws.length 0
 rw [← hL] at hi
 unfold nxW
 simp only [← hL] at hs ⊢
 have hlast : (i + 1 + (L - 1)) % L = i := by rw [show i + 1 + (L - 1) = i + L by omega, Nat.add_mod_right, Nat.mod_eq_of_lt hi]
 rcases hs with ⟨h1, h2⟩ | ⟨q, h1, h2, h3, h4, h5⟩
 ·exact absurd hT (by have := h2 (L - 1) (by omega) (by omega); rwa [hlast] at this)
 ·refine ⟨_, h5, ?_⟩
  rcases Nat.lt_or_ge (i + 1 + q) L with hq | hq
  ·rw [Nat.mod_eq_of_lt hq] at h3 ⊢
   refine ⟨hT, h3, hi, hq, .inl ⟨by omega, fun l l1 l2 => ?_⟩⟩
   have := h4 (l - i - 1) (by omega) (by omega)
   rwa [show i + 1 + (l - i - 1) = l by omega, Nat.mod_eq_of_lt (by omega)] at this
  ·have em : (i + 1 + q) % L = i + 1 + q - L := by rw [Nat.mod_eq_sub_mod hq, Nat.mod_eq_of_lt (by omega)]
   rw [em] at h3 ⊢
   refine ⟨hT, h3, hi, by omega, .inr ⟨by omega, fun l l1 l2 => ?_, fun l l1 => ?_⟩⟩
   ·have := h4 (l - i - 1) (by omega) (by omega)
    rwa [show i + 1 + (l - i - 1) = l by omega, Nat.mod_eq_of_lt (by omega)] at this
   ·have := h4 (l + L - i - 1) (by omega) (by omega)
    rwa [show i + 1 + (l + L - i - 1) = l + L by omega, Nat.add_mod_right, Nat.mod_eq_of_lt (by omega)] at this
theorem nxW_neg {ws : List Int} {p : Nat} : nxW ws 0 p < 0 ↔ ∀ i, i < ws.length → ¬ TP ws p i := by
 have hs := nxF_spec ws 0 p ws.length 0
 unfold nxW
 constructor
 ·intro h i hi hT
  rcases hs with ⟨h1, h2⟩ | ⟨q, h1, h2, h3, h4, h5⟩
  ·have := h2 i (by omega) (by omega)
   rw [Nat.zero_add, Nat.mod_eq_of_lt hi] at this
   exact this hT
  ·omega
 ·intro h
  rcases hs with ⟨h1, h2⟩ | ⟨q, h1, h2, h3, h4, h5⟩
  ·omega
  ·rw [Nat.zero_add, Nat.mod_eq_of_lt (by omega)] at h3
   exact absurd h3 (h q (by omega))
/-- One side of a letter joined. -/
def rcJ (ws : List Int) (mt : List Nat) (i s : Nat) : List Nat :=
 let x := ws.getD i 0
 let p := x.natAbs - 1 + s
 let j := (nxW ws (i + 1) p).toNat
 let y := ws.getD j 0
 jnn mt (4 * i + slt x true (s == 1)) (4 * j + slt y false (p == y.natAbs))
def rcK (ws : List Int) : Nat → List Nat
 | 0 => List.replicate (4 * ws.length) 0
 | i + 1 => rcJ ws (rcJ ws (rcK ws i) i 0) i 1
def rcL (ws : List Int) : Nat → Nat
 | 0 => 0
 | p + 1 => rcL ws p + if nxW ws 0 p < 0 then 1 else 0
theorem rcJ_eq {ws : List Int} (mt : List Nat) {i s : Nat} (hi : i < ws.length) (h0 : 1 ≤ (ws.getD i 0).natAbs) (hs : s < 2) : ∃ j, CN (TP ws ((ws.getD i 0).natAbs - 1 + s)) ws.length i j ∧ rcJ ws mt i s = jnn mt (dO ws i ((ws.getD i 0).natAbs - 1 + s)) (dI ws j ((ws.getD i 0).natAbs - 1 + s)) := by
 obtain ⟨j, h1, h2⟩ := nxW_CN hi (p := (ws.getD i 0).natAbs - 1 + s) (by unfold TP tcp; omega)
 refine ⟨j, h2, ?_⟩
 unfold rcJ dO dI
 simp only [h1, Int.toNat_natCast]
 rw [show ((ws.getD i 0).natAbs - 1 + s == (ws.getD i 0).natAbs) = (s == 1) by
  rw [Bool.eq_iff_iff, beq_iff_eq, beq_iff_eq]
  omega]
/-- The arcs from the first letters, and from the next one at positions below a bound. -/
def RGood (ws : List Int) (k b : Nat) (M : List Nat) : Prop := M.length = 4 * ws.length ∧ ∀ p i j, CN (TP ws p) ws.length i j → (i < k ∨ (i = k ∧ p < b)) → M.getD (dO ws i p) 0 = dI ws j p ∧ M.getD (dI ws j p) 0 = dO ws i p
theorem RGood.step {n : Nat} {ws : List Int} (hw : WOk n ws) {M : List Nat} {k s : Nat} (hk : k < ws.length) (hs : s < 2) (h : RGood ws k ((ws.getD k 0).natAbs - 1 + s) M) : RGood ws k ((ws.getD k 0).natAbs - 1 + (s + 1)) (rcJ ws M k s) := by
 obtain ⟨j0, h0, e⟩ := rcJ_eq M hk (hw k hk).1 hs
 rw [e]
 refine ⟨by rw [jnn_len]; exact h.1, fun p i j hc hi => ?_⟩
 by_cases e1 : k = i ∧ (ws.getD k 0).natAbs - 1 + s = p
 ·obtain ⟨rfl, rfl⟩ := e1
  obtain rfl := h0.fn hc
  exact jnn_put hw h.1 h0
 ·refine jnn_keep hw h.1 h0 hc e1 (h.2 p i j hc ?_)
  omega
theorem rcK_good {n : Nat} {ws : List Int} (hw : WOk n ws) : ∀ k, k ≤ ws.length → RGood ws k 0 (rcK ws k)
 | 0, _ => ⟨by simp [rcK], fun p i j _ h => by omega⟩
 | k + 1, hk => by
   have ih := rcK_good hw k (by omega)
   have h0 : RGood ws k ((ws.getD k 0).natAbs - 1 + 0) (rcK ws k) := ⟨ih.1, fun p i j hc hi => by
    refine ih.2 p i j hc ?_
    rcases hi with h | ⟨rfl, h⟩
    ·exact .inl h
    ·have := hc.1
     unfold TP tcp at this
     omega⟩
   have h2 := (h0.step hw (show k < ws.length by omega) (by omega)).step hw (show k < ws.length by omega) (by omega)
   refine ⟨h2.1, fun p i j hc hi => h2.2 p i j hc ?_⟩
   rcases Nat.lt_or_ge i k with h | h
   ·exact .inl h
   ·obtain rfl : i = k := by omega
    have := hc.1
    unfold TP tcp at this
    exact .inr ⟨rfl, by omega⟩
theorem rcK_cgood {n : Nat} {ws : List Int} (hw : WOk n ws) : CGood ws (rcK ws ws.length) := by
 have h := rcK_good hw ws.length (Nat.le_refl _)
 exact ⟨h.1, fun p i j hc => h.2 p i j hc (.inl hc.2.2.1)⟩
theorem clEnd_good {n : Nat} {ws : List Int} (hw : WOk n ws) {q : ClS} (h : CInv n ws (fun _ => ws.length) q) : ∀ P, P ≤ n → ((clEnd q P).1.length = 4 * ws.length ∧ ∀ p i j, CN (TP ws p) ws.length i j → (i < j ∨ p < P) → (clEnd q P).1.getD (dO ws i p) 0 = dI ws j p ∧ (clEnd q P).1.getD (dI ws j p) 0 = dO ws i p) ∧ (clEnd q P).2 = rcL ws P
 | 0, _ => ⟨⟨h.lm, fun p i j hc hi => h.mt p i j hc (by omega) hc.2.2.2.1⟩, rfl⟩
 | P + 1, hP => by
   obtain ⟨⟨i1, i2⟩, i3⟩ := clEnd_good hw h P (by omega)
   rcases h.at_ P (by omega) with ⟨g1, g2⟩ | ⟨i0, f0, g1, g2, g3, g4, g5, g6, g7, g8⟩
   ·have e : clEnd q (P + 1) = ((clEnd q P).1, (clEnd q P).2 + 1) := by
     show (if q.la.getD P (-1) < 0 then _ else _) = _
     rw [if_pos (by omega)]
    have hn : nxW ws 0 P < 0 := nxW_neg.mpr g2
    rw [e]
    refine ⟨⟨i1, fun p i j hc hi => i2 p i j hc ?_⟩, ?_⟩
    ·rcases hi with h' | h'
     ·exact .inl h'
     ·rcases Nat.lt_or_ge p P with hp | hp
      ·exact .inr hp
      ·obtain rfl : p = P := by omega
       exact absurd hc.1 (g2 i hc.2.2.1)
    ·show (clEnd q P).2 + 1 = rcL ws P + (if nxW ws 0 P < 0 then 1 else 0)
     rw [if_pos hn, i3]
   ·have e : clEnd q (P + 1) = (jnn (clEnd q P).1 (dO ws i0 P) (dI ws f0 P), (clEnd q P).2) := by
     show (if q.la.getD P (-1) < 0 then _ else _) = _
     rw [g4, if_neg (by omega), g8]
     rfl
    have hn : ¬ nxW ws 0 P < 0 := fun h' => nxW_neg.mp h' i0 g1 g2
    have hfi : f0 ≤ i0 := by
     rcases Nat.lt_or_ge i0 f0 with h' | h'
     ·exact absurd g2 (g7 i0 h')
     ·exact h'
    have hc0 : CN (TP ws P) ws.length i0 f0 := ⟨g2, g6, g1, g5, .inr ⟨hfi, g3, g7⟩⟩
    rw [e]
    refine ⟨⟨by rw [jnn_len]; exact i1, fun p i j hc hi => ?_⟩, ?_⟩
    ·by_cases e1 : i0 = i ∧ P = p
     ·obtain ⟨rfl, rfl⟩ := e1
      obtain rfl := hc0.fn hc
      exact jnn_put hw i1 hc0
     ·refine jnn_keep hw i1 hc0 hc e1 (i2 p i j hc ?_)
      rcases hi with h' | h'
      ·exact .inl h'
      ·rcases Nat.lt_or_ge p P with hp | hp
       ·exact .inr hp
       ·obtain rfl : p = P := by omega
        rcases hc.2.2.2.2 with hh | ⟨d1, d2, d3⟩
        ·exact .inl hh.1
        ·refine absurd ⟨?_, rfl⟩ e1
         rcases Nat.lt_trichotomy i i0 with hlt | rfl | hlt
         ·exact absurd g2 (d2 i0 hlt g1)
         ·rfl
         ·exact absurd hc.1 (g3 i hlt hc.2.2.1)
    ·show (clEnd q P).2 = rcL ws P + (if nxW ws 0 P < 0 then 1 else 0)
     rw [if_neg hn, i3]
     rfl
/-- Both ways to make a closure make the same. -/
theorem clD_ref {n : Nat} {ws : List Int} (hw : WOk n ws) : clD n ws = ⟨clSg ws, rcK ws ws.length, rcL ws n⟩ := by
 obtain ⟨⟨h1, h2⟩, h3⟩ := clEnd_good hw (clK_inv hw ws.length (Nat.le_refl _)) n (Nat.le_refl _)
 have hg : CGood ws (clEnd (clK n ws ws.length) n).1 := ⟨h1, fun p i j hc => h2 p i j hc (.inr (hw.lt hc.2.2.1 hc.1))⟩
 unfold clD
 rw [hg.uniq hw (rcK_cgood hw), h3]
theorem clD_good {n : Nat} {ws : List Int} (hw : WOk n ws) : CGood ws (clD n ws).mt := by
 rw [clD_ref hw]
 exact rcK_cgood hw
end Go.Proofs.YtcaoblilkgajoaaDoor.Pl
end
section
namespace Go.Proofs.YtcaoblilkgajoaaDoor.Pl
/-- The column of a letter. -/
def lg (ws : List Int) (i : Nat) : Nat := (ws.getD i 0).natAbs
/-- The last index below t with a property, or z. -/
def lstF (T : Nat → Bool) (z : Nat) : Nat → Nat
 | 0 => z
 | t + 1 => if T t then t else lstF T z t
theorem lstF_skip {T : Nat → Bool} {z i : Nat} : ∀ d, (∀ k, i ≤ k → k < i + d → T k = false) → lstF T z (i + d) = lstF T z i
 | 0, _ => rfl
 | d + 1, h => by
   show (if T (i + d) then i + d else lstF T z (i + d)) = _
   rw [h (i + d) (by omega) (by omega)]
   exact lstF_skip d (fun k h1 h2 => h k h1 (by omega))
theorem lstF_skip' {T : Nat → Bool} {z i j : Nat} (hij : i ≤ j) (h : ∀ k, i ≤ k → k < j → T k = false) : lstF T z j = lstF T z i := by
 have := lstF_skip (T := T) (z := z) (i := i) (j - i) (fun k h1 h2 => h k h1 (by omega))
 rwa [show i + (j - i) = j by omega] at this
theorem lstF_idem (T : Nat → Bool) (z : Nat) : ∀ t, lstF T (lstF T z t) t = lstF T z t
 | 0 => rfl
 | t + 1 => by
   show (if T t then t else lstF T (if T t then t else lstF T z t) t) = (if T t then t else lstF T z t)
   cases h : T t with
   | true => rfl
   | false => exact lstF_idem T z t
theorem lstF_z {T : Nat → Bool} {z z' k : Nat} (hk : T k = true) : ∀ t, k < t → lstF T z t = lstF T z' t
 | 0, h => by omega
 | t + 1, h => by
   show (if T t then t else lstF T z t) = (if T t then t else lstF T z' t)
   cases e : T t with
   | true => rfl
   | false =>
     refine lstF_z hk t ?_
     rcases Nat.lt_or_ge k t with h' | h'
     ·exact h'
     ·rw [show k = t by omega, e] at hk; cases hk
theorem lstF_none {T : Nat → Bool} {z : Nat} : ∀ t, (∀ k, k < t → T k = false) → lstF T z t = z
 | 0, _ => rfl
 | t + 1, h => by
   show (if T t then t else lstF T z t) = z
   rw [h t (by omega)]
   exact lstF_none t (fun k hk => h k (by omega))
/-- The last letter of a column before a height, round the closure; a column without letters has two names, one for each side. -/
def cl (ws : List Int) (c t s : Nat) : Nat := lstF (fun k => lg ws k == c) (lstF (fun k => lg ws k == c) (ws.length + s) ws.length) t
theorem cl_round (ws : List Int) (c s : Nat) : cl ws c ws.length s = cl ws c 0 s := by
 unfold cl
 rw [lstF_idem]
 rfl
theorem cl_side {ws : List Int} {c k : Nat} (hk : k < ws.length) (hc : lg ws k = c) (t s s' : Nat) : cl ws c t s = cl ws c t s' := by
 unfold cl
 rw [lstF_z (z := ws.length + s) (z' := ws.length + s') (k := k) (by simpa using hc) _ hk]
theorem cl_here {ws : List Int} {c i : Nat} (hc : lg ws i = c) (s : Nat) : cl ws c (i + 1) s = i := by
 unfold cl
 show (if (lg ws i == c) = true then i else _) = i
 rw [if_pos (by simpa using hc)]
theorem cl_not {ws : List Int} {c i : Nat} (hc : lg ws i ≠ c) (s : Nat) : cl ws c (i + 1) s = cl ws c i s := by
 unfold cl
 show (if (lg ws i == c) = true then i else _) = _
 rw [if_neg (by simpa using hc)]
theorem cl_empty {ws : List Int} {c : Nat} (h : ∀ k, k < ws.length → lg ws k ≠ c) {t : Nat} (ht : t ≤ ws.length) (s : Nat) : cl ws c t s = ws.length + s := by
 unfold cl
 rw [lstF_none t (fun k hk => by simpa using h k (by omega)), lstF_none _ (fun k hk => by simpa using h k hk)]
/-- Along an arc the columns at its sides stay. -/
theorem cl_arc {ws : List Int} {p c i j : Nat} (s : Nat) (h : CN (TP ws p) ws.length i j) (hc : c = p ∨ c = p + 1) : cl ws c (i + 1) s = cl ws c j s := by
 have no : ∀ k, ¬ TP ws p k → (lg ws k == c) = false := fun k hk => by
  rw [beq_eq_false_iff_ne]
  intro e
  apply hk
  unfold TP tcp
  unfold lg at e
  omega
 obtain ⟨_, _, hi, hj, h⟩ := h
 rcases h with ⟨h1, h2⟩ | ⟨h1, h2, h3⟩
 ·unfold cl
  exact (lstF_skip' (by omega) (fun k k1 k2 => no k (h2 k (by omega) k2))).symm
 ·have e1 : cl ws c ws.length s = cl ws c (i + 1) s := by
   unfold cl
   exact lstF_skip' (by omega) (fun k k1 k2 => no k (h2 k (by omega) k2))
  have e2 : cl ws c j s = cl ws c 0 s := by
   unfold cl
   exact lstF_skip' (by omega) (fun k k1 k2 => no k (h3 k k2))
  rw [← e1, cl_round, e2]
/-- The name of the face at a corner. -/
def lb (ws : List Int) (i : Nat) (o r : Bool) : Nat × Nat :=
 if o then (if r then (lg ws i, cl ws (lg ws i) (i + 1) 1) else (lg ws i - 1, cl ws (lg ws i - 1) i 1))
 else (if r then (lg ws i + 1, cl ws (lg ws i + 1) i 2) else (lg ws i, cl ws (lg ws i) i 1))
def slO (x : Int) (s : Nat) : Bool := s == 2 || (if x < 0 then s == 3 else s == 1)
def slR (x : Int) (s : Nat) : Bool := if x < 0 then s == 1 || s == 2 else s == 0 || s == 1
theorem slO_slt (x : Int) (o r : Bool) : slO x (slt x o r) = o := by unfold slO slt; split <;> cases o <;> cases r <;> rfl
theorem slR_slt (x : Int) (o r : Bool) : slR x (slt x o r) = r := by unfold slR slt; split <;> cases o <;> cases r <;> rfl
theorem slt_prev (x : Int) (o r : Bool) : (slt x o r + 3) % 4 = slt x (!r) o := by unfold slt; split <;> cases o <;> cases r <;> rfl
def lab (ws : List Int) (h : Nat) : Nat × Nat := lb ws (h / 4) (slO (ws.getD (h / 4) 0) (h % 4)) (slR (ws.getD (h / 4) 0) (h % 4))
theorem lab_at (ws : List Int) (i : Nat) (o r : Bool) : lab ws (4 * i + slt (ws.getD i 0) o r) = lb ws i o r := by
 have := slt_lt (ws.getD i 0) o r
 unfold lab
 rw [show (4 * i + slt (ws.getD i 0) o r) / 4 = i by omega, show (4 * i + slt (ws.getD i 0) o r) % 4 = slt (ws.getD i 0) o r by omega, slO_slt, slR_slt]
theorem tn_slt (i : Nat) (x : Int) (o r : Bool) : tn (4 * i + slt x o r) 3 = 4 * i + slt x (!r) o := by
 have := slt_lt x o r
 rw [← slt_prev]
 unfold tn
 omega
/-- Along an arc and round its end's crossing the name stays. -/
theorem lb_arcO {n : Nat} {ws : List Int} (hw : WOk n ws) {p i j : Nat} (h : CN (TP ws p) ws.length i j) : lb ws j (!(p == lg ws j)) false = lb ws i true (p == lg ws i) := by
 have h1 : lg ws i = p + 1 ∨ lg ws i = p := h.1
 have h2 : lg ws j = p + 1 ∨ lg ws j = p := h.2.1
 have e0 := cl_arc 1 h (c := p) (.inl rfl)
 have eL : lb ws i true (p == lg ws i) = (p, cl ws p (i + 1) 1) := by
  unfold lb
  rcases h1 with e | e
  ·rw [show (p == lg ws i) = false by rw [beq_eq_false_iff_ne]; omega, e]
   show (p + 1 - 1, cl ws (p + 1 - 1) i 1) = _
   rw [show p + 1 - 1 = p by omega, cl_not (by omega)]
  ·rw [show (p == lg ws i) = true by rw [beq_iff_eq]; omega, e]
   rfl
 have eR : lb ws j (!(p == lg ws j)) false = (p, cl ws p j 1) := by
  unfold lb
  rcases h2 with e | e
  ·rw [show (p == lg ws j) = false by rw [beq_eq_false_iff_ne]; omega, e]
   show (p + 1 - 1, cl ws (p + 1 - 1) j 1) = _
   rw [show p + 1 - 1 = p by omega]
  ·rw [show (p == lg ws j) = true by rw [beq_iff_eq]; omega, e]
   rfl
 rw [eL, eR, e0]
theorem lb_arcI {n : Nat} {ws : List Int} (hw : WOk n ws) {p i j : Nat} (h : CN (TP ws p) ws.length i j) : lb ws i (!(p == lg ws i)) true = lb ws j false (p == lg ws j) := by
 have h1 : lg ws i = p + 1 ∨ lg ws i = p := h.1
 have h2 : lg ws j = p + 1 ∨ lg ws j = p := h.2.1
 have e0 := cl_arc 2 h (c := p + 1) (.inr rfl)
 have eL : lb ws i (!(p == lg ws i)) true = (p + 1, cl ws (p + 1) (i + 1) 2) := by
  unfold lb
  rcases h1 with e | e
  ·rw [show (p == lg ws i) = false by rw [beq_eq_false_iff_ne]; omega, e]
   show (p + 1, cl ws (p + 1) (i + 1) 1) = _
   rw [cl_side h.2.2.1 e _ 1 2]
  ·rw [show (p == lg ws i) = true by rw [beq_iff_eq]; omega, e]
   show (p + 1, cl ws (p + 1) i 2) = _
   rw [cl_not (by omega)]
 have eR : lb ws j false (p == lg ws j) = (p + 1, cl ws (p + 1) j 2) := by
  unfold lb
  rcases h2 with e | e
  ·rw [show (p == lg ws j) = false by rw [beq_eq_false_iff_ne]; omega, e]
   show (p + 1, cl ws (p + 1) j 1) = _
   rw [cl_side h.2.2.2.1 e _ 1 2]
  ·rw [show (p == lg ws j) = true by rw [beq_iff_eq]; omega, e]
   rfl
 rw [eL, eR, e0]
section
variable {n : Nat} {ws : List Int}
theorem clD_n (n : Nat) (ws : List Int) : (clD n ws).n = ws.length := by unfold clD Dg.n clSg; simp
theorem clD_s (n : Nat) (ws : List Int) {c : Nat} (hc : c < ws.length) : (clD n ws).s c = if ws.getD c 0 < 0 then -1 else 1 := by
 unfold clD Dg.s clSg
 rw [List.getD_eq_getElem?_getD, List.getElem?_map, List.getD_eq_getElem?_getD, List.getElem?_eq_getElem hc]
 rfl
theorem clD_m (hw : WOk n ws) {p i j : Nat} (h : CN (TP ws p) ws.length i j) : (clD n ws).m (dO ws i p) = dI ws j p ∧ (clD n ws).m (dI ws j p) = dO ws i p := by
 obtain ⟨g1, g2⟩ := clD_good hw
 obtain ⟨g3, g4⟩ := g2 p i j h
 have l1 := dO_lt (p := p) h.2.2.1
 have l2 := dI_lt (p := p) h.2.2.2.1
 unfold Dg.m
 constructor
 ·rw [← g3, List.getD_eq_getElem?_getD, List.getD_eq_getElem?_getD, List.getElem?_eq_getElem (by rw [g1]; exact l1)]; rfl
 ·rw [← g4, List.getD_eq_getElem?_getD, List.getD_eq_getElem?_getD, List.getElem?_eq_getElem (by rw [g1]; exact l2)]; rfl
theorem clD_out (n : Nat) (ws : List Int) {i : Nat} (hi : i < ws.length) (o r : Bool) : out (clD n ws) (4 * i + slt (ws.getD i 0) o r) = o := by
 have := slt_lt (ws.getD i 0) o r
 unfold out
 rw [show (4 * i + slt (ws.getD i 0) o r) / 4 = i by omega, show (4 * i + slt (ws.getD i 0) o r) % 4 = slt (ws.getD i 0) o r by omega, clD_s n ws hi]
 unfold slt
 by_cases h : ws.getD i 0 < 0
 ·simp only [h, if_true]
  cases o <;> cases r <;> rfl
 ·simp only [h, if_false]
  cases o <;> cases r <;> rfl
theorem dart_arc (hw : WOk n ws) {h : Nat} (hh : h < 4 * ws.length) : ∃ p i j, CN (TP ws p) ws.length i j ∧ ((h = dO ws i p ∧ (clD n ws).m h = dI ws j p) ∨ (h = dI ws j p ∧ (clD n ws).m h = dO ws i p)) := by
 have hi : h / 4 < ws.length := by omega
 obtain ⟨p, hp, e | e⟩ := dart_ex hh (hw _ hi).1
 ·obtain ⟨j, hj⟩ := CN.next_ex hp hi
  exact ⟨p, h / 4, j, hj, .inl ⟨e, by have := (clD_m hw hj).1; rwa [← e] at this⟩⟩
 ·obtain ⟨i, hj⟩ := CN.prev_ex hp hi
  exact ⟨p, i, h / 4, hj, .inr ⟨e, by have := (clD_m hw hj).2; rwa [← e] at this⟩⟩
theorem clD_wf (hw : WOk n ws) (hL : ws.length ≤ 64) (hl : (clD n ws).lp ≤ 64) : Wf (clD n ws) := by
 refine wf_by (by rw [clD_n]; exact hL) (by rw [clD_n]; exact (clD_good hw).1) hl (fun c hc => ?_) (fun z hz => ?_)
 ·rw [clD_n] at hc
  rw [clD_s n ws hc]
  split
  ·exact .inr rfl
  ·exact .inl rfl
 ·rw [clD_n] at hz ⊢
  obtain ⟨p, i, j, hc, ⟨e, em⟩ | ⟨e, em⟩⟩ := dart_arc hw hz
  ·rw [em]
   refine ⟨dI_lt hc.2.2.2.1, by rw [(clD_m hw hc).2, e], ?_⟩
   rw [e]
   unfold dO dI
   rw [clD_out n ws hc.2.2.1, clD_out n ws hc.2.2.2.1]
   decide
  ·rw [em]
   refine ⟨dO_lt hc.2.2.1, by rw [(clD_m hw hc).1, e], ?_⟩
   rw [e]
   unfold dO dI
   rw [clD_out n ws hc.2.2.1, clD_out n ws hc.2.2.2.1]
   decide
theorem lab_phi (hw : WOk n ws) {h : Nat} (hh : h < 4 * ws.length) : lab ws (phi rot (clD n ws).m h) = lab ws h := by
 obtain ⟨p, i, j, hc, ⟨e, em⟩ | ⟨e, em⟩⟩ := dart_arc hw hh
 ·unfold phi
  rw [em, e]
  unfold rot dI dO
  rw [tn_slt, lab_at, lab_at]
  exact lb_arcO hw hc
 ·unfold phi
  rw [em, e]
  unfold rot dI dO
  rw [tn_slt, lab_at, lab_at]
  exact lb_arcI hw hc
theorem lab_orb (hw : WOk n ws) (hd : Wf (clD n ws)) {g h : Nat} (hg : g < 4 * ws.length) (e : Orb (phi rot (clD n ws).m) g h) : lab ws h = lab ws g := by
 have := orb_closed (f := phi rot (clD n ws).m) (P := fun x => x < 4 * ws.length ∧ lab ws x = lab ws g) (fun x hx => ⟨by
  have := hd.lt x (by rw [clD_n]; exact hx.1)
  rw [clD_n] at this
  exact tn_lt this, by rw [lab_phi hw hx.1]; exact hx.2⟩) ⟨hg, rfl⟩ e
 exact this.2
/-- Letters at one position hang together. -/
theorem touch (hw : WOk n ws) {p : Nat} : ∀ (d i j : Nat), j < ws.length → i ≤ j → j - i ≤ d → TP ws p i → TP ws p j → Comp (clD n ws) i j := by
 have one : ∀ {i j : Nat}, CN (TP ws p) ws.length i j → Comp (clD n ws) i j := fun {i j} h => by
  have h1 := orb_con_left (clD n ws).m (orb_rot0 (dO ws i p))
  have h2 : Con rot (clD n ws).m (dO ws i p) ((clD n ws).m (dO ws i p)) := Con.refl.right
  rw [(clD_m hw h).1] at h2
  have h3 := orb_con_left (clD n ws).m ((rot_bij ws.length).symm (show 4 * (dI ws j p / 4) < 4 * ws.length by have := dI_lt (p := p) h.2.2.2.1; omega) (orb_rot0 (dI ws j p)))
  have e1 : dO ws i p / 4 = i := by have := slt_lt (ws.getD i 0) true (p == (ws.getD i 0).natAbs); unfold dO; omega
  have e2 : dI ws j p / 4 = j := by have := slt_lt (ws.getD j 0) false (p == (ws.getD j 0).natAbs); unfold dI; omega
  rw [e1] at h1
  rw [e2] at h3
  exact (h1.trans h2).trans h3
 intro d
 induction d with
 | zero =>
   intro i j _ h1 h2 _ _
   rw [show i = j by omega]
   exact .refl
 | succ d ih =>
   intro i j hj h1 h2 ti tj
   by_cases e : i = j
   ·rw [e]; exact .refl
   ·obtain ⟨k, hk⟩ := CN.next_ex ti (show i < ws.length by omega)
    have hk' := hk
    obtain ⟨_, tk, _, hkl, h⟩ := hk
    rcases h with ⟨h3, h4⟩ | ⟨h3, h4, _⟩
    ·have : k ≤ j := by
      rcases Nat.lt_or_ge j k with h' | h'
      ·exact absurd tj (h4 j (by omega) h')
      ·exact h'
     exact (one hk').trans (ih k j hj this (by omega) tk tj)
    ·exact absurd tj (h4 j (by omega) hj)
theorem touch' (hw : WOk n ws) (hd : Wf (clD n ws)) {p i j : Nat} (hi : i < ws.length) (hj : j < ws.length) (ti : TP ws p i) (tj : TP ws p j) : Comp (clD n ws) i j := by
 rcases Nat.le_total i j with h | h
 ·exact touch hw _ i j hj h (Nat.le_refl _) ti tj
 ·exact comp_symm hd (by rw [clD_n]; exact hj) (touch hw _ j i hi h (Nat.le_refl _) tj ti)
/-- THE CLOSURE OF A BRAID IS VALID. -/
theorem clD_valid (hw : WOk n ws) (hL : ws.length ≤ 64) (hl : (clD n ws).lp ≤ 64) : Valid (clD n ws) := by
 have hd := clD_wf hw hL hl
 refine ⟨hd, fun c hc => ?_⟩
 have hc' : c < ws.length := by rw [clD_n] at hc; exact hc
 have H := part_hm hd hc
 have h0 := Gen.nonneg H (part_gen hd hc)
 -- the faces of the component, as classes
 have hf : Cls (part (clD n ws) c) (Orb (phi rot (clD n ws).m)) (cnt (fun h => Least (nx (clD n ws)) h ∧ Comp (clD n ws) c (h / 4)) (4 * (clD n ws).n)) := by
  have := Cls.count (4 * (clD n ws).n) H.pb.lt H.pb.eqv
  rwa [cnt_congr (q := fun h => Least (nx (clD n ws)) h ∧ Comp (clD n ws) c (h / 4)) (4 * (clD n ws).n) (fun x hx => ⟨fun h => ⟨fun k => h.2 _ (H.pb.it k x h.1) ⟨k, rfl⟩, h.1.2⟩, fun h => ⟨⟨hx, h.2⟩, fun g _ e => by
   obtain ⟨k, rfl⟩ := e
   exact h.1 k⟩⟩)] at this
 -- its crossings
 have cb : Cls (fun b => b < (clD n ws).n ∧ Comp (clD n ws) c b) Eq (cnt (fun b => Comp (clD n ws) c b) (clD n ws).n) := by
  have := Cls.card (S := fun b => b < (clD n ws).n ∧ Comp (clD n ws) c b) (clD n ws).n (fun _ h => h.1)
  rwa [cnt_congr (q := fun b => Comp (clD n ws) c b) (clD n ws).n (fun x hx => ⟨fun h => h.2, fun h => ⟨hx, h⟩⟩)] at this
 -- two faces more
 have c2 : Cls (fun b => b = (clD n ws).n ∨ b = (clD n ws).n + 1) Eq 2 := by
  refine ⟨fun b => b - (clD n ws).n, fun x hx => ?_, fun x y hx hy => ?_, fun i hi => ⟨(clD n ws).n + i, by omega, ?_⟩⟩
  ·show x - (clD n ws).n < 2
   omega
  ·show x - (clD n ws).n = y - (clD n ws).n ↔ x = y
   omega
  ·show (clD n ws).n + i - (clD n ws).n = i
   omega
 have cs := cb.add c2 (fun x y hx hy e => by have := hx.1; omega) (fun x y hx hy e => by have := hx.1; omega) (fun x hx hy => by have := hx.1; omega)
 -- the least and the greatest column
 obtain ⟨i0, hi0, hm0⟩ : ∃ i, (i < ws.length ∧ Comp (clD n ws) c i) ∧ ∀ k, k < ws.length → Comp (clD n ws) c k → lg ws i ≤ lg ws k := by
  obtain ⟨v, ⟨i, h1, h2⟩, h3⟩ := least_of (p := fun v => ∃ i, (i < ws.length ∧ Comp (clD n ws) c i) ∧ lg ws i = v) (lg ws c) ⟨c, ⟨hc', .refl⟩, rfl⟩
  exact ⟨i, h1, fun k h4 h5 => by rw [h2]; exact h3 _ ⟨k, ⟨h4, h5⟩, rfl⟩⟩
 have hlt : ∀ k, k < ws.length → 1 ≤ lg ws k ∧ lg ws k < n := fun k hk => hw k hk
 obtain ⟨i1, hi1, hm1⟩ : ∃ i, (i < ws.length ∧ Comp (clD n ws) c i) ∧ ∀ k, k < ws.length → Comp (clD n ws) c k → lg ws k ≤ lg ws i := by
  obtain ⟨v, ⟨i, h1, h2⟩, h3⟩ := least_of (p := fun v => ∃ i, (i < ws.length ∧ Comp (clD n ws) c i) ∧ n - lg ws i = v) (n - lg ws c) ⟨c, ⟨hc', .refl⟩, rfl⟩
  refine ⟨i, h1, fun k h4 h5 => ?_⟩
  have h6 := h3 _ ⟨k, ⟨h4, h5⟩, rfl⟩
  have h7 := hlt k h4
  have h8 := hlt i h1.1
  omega
 have emp0 : ∀ k, k < ws.length → lg ws k ≠ lg ws i0 - 1 := fun k hk e => by
  have h1 := hlt k hk
  have h2 := hlt i0 hi0.1
  have h3 : TP ws (lg ws k) k := .inr rfl
  have h4 : TP ws (lg ws k) i0 := .inl (by show lg ws i0 = _; omega)
  have := hm0 k hk (hi0.2.trans (touch' hw hd hi0.1 hk h4 h3))
  omega
 have emp1 : ∀ k, k < ws.length → lg ws k ≠ lg ws i1 + 1 := fun k hk e => by
  have h3 : TP ws (lg ws i1) i1 := .inr rfl
  have h4 : TP ws (lg ws i1) k := .inl e
  have := hm1 k hk (hi1.2.trans (touch' hw hd hi1.1 hk h3 h4))
  omega
 obtain ⟨N, hN⟩ : ∃ N, N = (clD n ws).n := ⟨_, rfl⟩
 have hNL : N = ws.length := by rw [hN, clD_n]
 rw [← hN] at cs
 have sl := fun i o r => slt_lt (ws.getD i 0) o r
 let t : Nat → Nat := fun b => if b = N then 4 * i0 + slt (ws.getD i0 0) true false else if b = N + 1 then 4 * i1 + slt (ws.getD i1 0) false true else 4 * b + slt (ws.getD b 0) true true
 have tN : t N = 4 * i0 + slt (ws.getD i0 0) true false := if_pos rfl
 have tN1 : t (N + 1) = 4 * i1 + slt (ws.getD i1 0) false true := by show (if N + 1 = N then _ else if N + 1 = N + 1 then _ else _) = _; rw [if_neg (by omega), if_pos rfl]
 have tb : ∀ b, b < N → t b = 4 * b + slt (ws.getD b 0) true true := fun b hb => by show (if b = N then _ else if b = N + 1 then _ else _) = _; rw [if_neg (by omega), if_neg (by omega)]
 have lN : lab ws (t N) = (lg ws i0 - 1, ws.length + 1) := by
  rw [tN, lab_at]
  show (lg ws i0 - 1, cl ws (lg ws i0 - 1) i0 1) = _
  rw [cl_empty emp0 (by omega)]
 have lN1 : lab ws (t (N + 1)) = (lg ws i1 + 1, ws.length + 2) := by
  rw [tN1, lab_at]
  show (lg ws i1 + 1, cl ws (lg ws i1 + 1) i1 2) = _
  rw [cl_empty emp1 (by omega)]
 have lB : ∀ b, b < N → lab ws (t b) = (lg ws b, b) := fun b hb => by
  rw [tb b hb, lab_at]
  show (lg ws b, cl ws (lg ws b) (b + 1) 1) = _
  rw [cl_here rfl]
 have l2 : ∀ x, (x < N ∧ Comp (clD n ws) c x) ∨ (x = N ∨ x = N + 1) → (lab ws (t x)).2 = (if x < N then x else x + 1) := fun x hx => by
  rcases hx with hx | rfl | rfl
  ·rw [lB x hx.1, if_pos hx.1]
  ·rw [lN, if_neg (by omega), hNL]
  ·rw [lN1, if_neg (by omega), hNL]
 have tS : ∀ x, (x < N ∧ Comp (clD n ws) c x) ∨ (x = N ∨ x = N + 1) → part (clD n ws) c (t x) := fun x hx => by
  unfold part
  rw [clD_n]
  rcases hx with hx | rfl | rfl
  ·have := sl x true true
   rw [tb x hx.1]
   refine ⟨by have := hx.1; omega, ?_⟩
   rw [show (4 * x + slt (ws.getD x 0) true true) / 4 = x by omega]
   exact hx.2
  ·have := sl i0 true false
   rw [tN]
   refine ⟨by have := hi0.1; omega, ?_⟩
   rw [show (4 * i0 + slt (ws.getD i0 0) true false) / 4 = i0 by omega]
   exact hi0.2
  ·have := sl i1 false true
   rw [tN1]
   refine ⟨by have := hi1.1; omega, ?_⟩
   rw [show (4 * i1 + slt (ws.getD i1 0) false true) / 4 = i1 by omega]
   exact hi1.2
 have := cs.le hf t tS (fun x y hx hy e => by
  have h1 := lab_orb hw hd (by have := (tS x hx).1; rwa [clD_n] at this) e
  have h2 := l2 x hx
  have h3 := l2 y hy
  rw [h1, h2] at h3
  have hx' : x ≤ N + 1 := by
   rcases hx with hx | hx
   ·have := hx.1; omega
   ·omega
  have hy' : y ≤ N + 1 := by
   rcases hy with hy | hy
   ·have := hy.1; omega
   ·omega
  by_cases c1 : x < N
  ·rw [if_pos c1] at h3
   by_cases c2 : y < N
   ·rw [if_pos c2] at h3; exact h3
   ·rw [if_neg c2] at h3; omega
  ·rw [if_neg c1] at h3
   by_cases c2 : y < N
   ·rw [if_pos c2] at h3; omega
   ·rw [if_neg c2] at h3; omega)
 rw [hN] at this
 omega
end
end Go.Proofs.YtcaoblilkgajoaaDoor.Pl
end
section
namespace Go.Proofs.YtcaoblilkgajoaaDoor.Pl
section
variable {n : Nat} {ws : List Int} {k : Nat}
theorem clD_lp (hw : WOk n ws) : (clD n ws).lp = rcL ws n := by rw [clD_ref hw]
end
end Go.Proofs.YtcaoblilkgajoaaDoor.Pl
end
section
namespace Go.Proofs.YtcaoblilkgajoaaDoor.Pl
/-- The inverse of a word. -/
def ivW (ws : List Int) : List Int := ws.reverse.map (fun x => -x)
theorem ivW_len (ws : List Int) : (ivW ws).length = ws.length := by simp [ivW]
theorem BV.inv {s : Int} {a : List Int} (ha : BV s a) : BV s (ivW a) :=
 ⟨ha.1, ha.2.1, by rw [ivW_len]; exact ha.2.2.1, fun x hx => by
   unfold ivW at hx
   obtain ⟨y, hy, rfl⟩ := List.mem_map.1 hx
   have := ha.2.2.2 y (List.mem_reverse.1 hy)
   omega⟩
end Go.Proofs.YtcaoblilkgajoaaDoor.Pl
end
section
namespace Go.Proofs.YtcaoblilkgajoaaDoor.Pl
section
variable {n : Nat} {ws : List Int}
instance (ws : List Int) (p i : Nat) : Decidable (TP ws p i) := by unfold TP; infer_instance
def tchd (ws : List Int) (p : Nat) : Prop := ∃ i, i < ws.length ∧ TP ws p i
def pos (ws : List Int) (h : Nat) : Nat := if slR (ws.getD (h / 4) 0) (h % 4) then lg ws (h / 4) else lg ws (h / 4) - 1
end
end Go.Proofs.YtcaoblilkgajoaaDoor.Pl
end
