/-
 The texts Bcc, Bd in one.
-/
import Derived.Test.YtcaoblilkgajoaaDoorC08
import Derived.Test.YtcaoblilkgajoaaDoorC04
import Derived.Test.YtcaoblilkgajoaaDoorC07
import Derived.Deep.DeepCutAuto
import Derived.StillTailTactics
set_option linter.unusedVariables false
set_option linter.unusedSimpArgs false
section
namespace Go.Proofs.YtcaoblilkgajoaaDoor.Pl
theorem lstF_spec {T : Nat → Bool} {z : Nat} : ∀ t, (∃ k, k < t ∧ T k = true) → T (lstF T z t) = true ∧ lstF T z t < t ∧ ∀ k, lstF T z t < k → k < t → T k = false
 | 0, ⟨k, h, _⟩ => by omega
 | t + 1, ⟨k, h1, h2⟩ => by
   show T (if T t then t else lstF T z t) = true ∧ (if T t then t else lstF T z t) < t + 1 ∧ _
   cases e : T t with
   | true =>
     refine ⟨e, Nat.lt_succ_self t, fun j j1 j2 => ?_⟩
     have j1 : (if T t then t else lstF T z t) < j := j1
     rw [e] at j1
     have j1 : t < j := j1
     omega
   | false =>
     have hk : k < t := by
      rcases Nat.lt_or_ge k t with h | h
      ·exact h
      ·rw [show k = t by omega, e] at h2; cases h2
     obtain ⟨g1, g2, g3⟩ := lstF_spec (z := z) t ⟨k, hk, h2⟩
     refine ⟨g1, ?_, fun j j1 j2 => ?_⟩
     ·show lstF T z t < t + 1
      omega
     ·have j1 : (if T t then t else lstF T z t) < j := j1
      rw [e] at j1
      have j1 : lstF T z t < j := j1
      by_cases ej : j = t
      ·rw [ej]; exact e
      ·exact g3 j j1 (by omega)
section
variable {n : Nat} {ws : List Int}
instance (ws : List Int) (p i : Nat) : Decidable (TP ws p i) := by unfold TP; infer_instance
def lsT (ws : List Int) (p : Nat) : Nat := lstF (fun k => decide (TP ws p k)) 0 ws.length
def tchd (ws : List Int) (p : Nat) : Prop := ∃ i, i < ws.length ∧ TP ws p i
theorem lsT_spec {p : Nat} (h : tchd ws p) : TP ws p (lsT ws p) ∧ lsT ws p < ws.length ∧ ∀ k, lsT ws p < k → k < ws.length → ¬ TP ws p k := by
 obtain ⟨i, h1, h2⟩ := h
 obtain ⟨g1, g2, g3⟩ := lstF_spec (T := fun k => decide (TP ws p k)) (z := 0) ws.length ⟨i, h1, by simpa using h2⟩
 exact ⟨of_decide_eq_true g1, g2, fun k k1 k2 => of_decide_eq_false (g3 k k1 k2)⟩
def clA (ws : List Int) (p : Nat) : Nat := dO ws (lsT ws p) p
def pos (ws : List Int) (h : Nat) : Nat := if slR (ws.getD (h / 4) 0) (h % 4) then lg ws (h / 4) else lg ws (h / 4) - 1
def home (ws : List Int) (h : Nat) : Nat := trk (pos ws h) (ws.drop (h / 4 + 1))
theorem dO_div (ws : List Int) (i p : Nat) : dO ws i p / 4 = i := by have := slt_lt (ws.getD i 0) true (p == (ws.getD i 0).natAbs); unfold dO; omega
theorem pos_dO {i p : Nat} (h : TP ws p i) (h0 : 1 ≤ lg ws i) : pos ws (dO ws i p) = p := by
 have := slt_lt (ws.getD i 0) true (p == (ws.getD i 0).natAbs)
 unfold pos
 rw [dO_div, show dO ws i p % 4 = slt (ws.getD i 0) true (p == (ws.getD i 0).natAbs) by unfold dO; omega, slR_slt]
 have h : lg ws i = p + 1 ∨ lg ws i = p := h
 have e : (ws.getD i 0).natAbs = lg ws i := rfl
 rw [e]
 rcases h with h | h
 ·rw [if_neg (by rw [beq_iff_eq]; omega)]; omega
 ·rw [if_pos (by rw [beq_iff_eq]; omega)]; exact h
theorem home_dO {i p : Nat} (h : TP ws p i) (h0 : 1 ≤ lg ws i) : home ws (dO ws i p) = trk p (ws.drop (i + 1)) := by
 unfold home
 rw [pos_dO h h0, dO_div]
theorem slt_op (x : Int) (o r : Bool) : (slt x o r + 2) % 4 = slt x (!o) (!r) := by unfold slt; split <;> cases o <;> cases r <;> rfl
theorem tr1_tcp {x : Int} {p : Nat} (h : tcp x p) (h0 : 1 ≤ x.natAbs) : tcp x (tr1 p x) ∧ (tr1 p x == x.natAbs) = !(p == x.natAbs) := by
 unfold tcp tr1 at *
 rcases h with h | h
 ·rw [if_pos (by omega)]
  refine ⟨.inr rfl, ?_⟩
  rw [beq_self_eq_true, show (p == x.natAbs) = false by rw [beq_eq_false_iff_ne]; omega]
  rfl
 ·rw [if_neg (by omega), if_pos h.symm]
  refine ⟨.inl (by omega), ?_⟩
  rw [show (p == x.natAbs) = true by rw [beq_iff_eq]; exact h.symm, show (x.natAbs - 1 == x.natAbs) = false by rw [beq_eq_false_iff_ne]; omega]
  rfl
theorem st_arc (hw : WOk n ws) {p i j : Nat} (h : CN (TP ws p) ws.length i j) : st (clD n ws) (dO ws i p) = dO ws j (tr1 p (ws.getD j 0)) ∧ TP ws (tr1 p (ws.getD j 0)) j := by
 obtain ⟨h1, h2⟩ := tr1_tcp (x := ws.getD j 0) (p := p) h.2.1 (hw j h.2.2.2.1).1
 refine ⟨?_, h1⟩
 unfold st
 rw [(clD_m hw h).1]
 unfold dI dO
 rw [h2]
 have := slt_lt (ws.getD j 0) false (p == (ws.getD j 0).natAbs)
 have e := slt_op (ws.getD j 0) false (p == (ws.getD j 0).natAbs)
 rw [show (true : Bool) = !false from rfl, ← e]
 unfold tn
 omega
theorem tr1_no {x : Int} {p : Nat} (h : ¬ tcp x p) : tr1 p x = p := by
 unfold tcp at h
 unfold tr1
 by_cases h0 : x.natAbs = 0
 ·by_cases e : p = 0
  ·rw [if_pos (by omega)]; omega
  ·rw [if_neg (by omega), if_neg (by omega)]
 ·rw [if_neg (by omega), if_neg (by omega)]
theorem trk_skip {p : Nat} : ∀ (d i : Nat), i + d ≤ ws.length → (∀ k, i ≤ k → k < i + d → ¬ TP ws p k) → trk p (ws.drop i) = trk p (ws.drop (i + d))
 | 0, i, _, _ => rfl
 | d + 1, i, h, hn => by
   have hi : i < ws.length := by omega
   rw [List.drop_eq_getElem_cons hi, trk_cons]
   have h1 : ws[i] = ws.getD i 0 := by rw [List.getD_eq_getElem?_getD, List.getElem?_eq_getElem hi]; rfl
   rw [h1, tr1_no (hn i (by omega) (by omega)), trk_skip d (i + 1) (by omega) (fun k k1 k2 => hn k (by omega) (by omega)), show i + 1 + d = i + (d + 1) by omega]
theorem trk_at {p j : Nat} (hj : j < ws.length) : trk p (ws.drop j) = trk (tr1 p (ws.getD j 0)) (ws.drop (j + 1)) := by
 rw [List.drop_eq_getElem_cons hj, trk_cons]
 have h1 : ws[j] = ws.getD j 0 := by rw [List.getD_eq_getElem?_getD, List.getElem?_eq_getElem hj]; rfl
 rw [h1]
theorem home_st (hw : WOk n ws) {p i j : Nat} (h : CN (TP ws p) ws.length i j) : (i < j ∧ home ws (st (clD n ws) (dO ws i p)) = home ws (dO ws i p)) ∨ (j ≤ i ∧ home ws (dO ws i p) = p ∧ home ws (st (clD n ws) (dO ws i p)) = trk p ws) := by
 obtain ⟨e1, e2⟩ := st_arc hw h
 have l1 := (hw i h.2.2.1).1
 have l2 := (hw j h.2.2.2.1).1
 rw [e1, home_dO e2 l2, home_dO h.1 l1, ← trk_at h.2.2.2.1]
 obtain ⟨_, _, hi, hj, h⟩ := h
 rcases h with ⟨h1, h2⟩ | ⟨h1, h2, h3⟩
 ·left
  refine ⟨h1, ?_⟩
  have := trk_skip (ws := ws) (p := p) (j - (i + 1)) (i + 1) (by omega) (fun k k1 k2 => h2 k (by omega) (by omega))
  rw [this, show i + 1 + (j - (i + 1)) = j by omega]
 ·right
  have a := trk_skip (ws := ws) (p := p) (ws.length - (i + 1)) (i + 1) (by omega) (fun k k1 k2 => h2 k (by omega) (by omega))
  have b := trk_skip (ws := ws) (p := p) j 0 (by omega) (fun k k1 k2 => h3 k (by omega))
  rw [show i + 1 + (ws.length - (i + 1)) = ws.length by omega, List.drop_length] at a
  rw [Nat.zero_add, List.drop_zero] at b
  exact ⟨h1, a, b.symm⟩
theorem out_ex (hw : WOk n ws) {h : Nat} (hh : h < 4 * ws.length) (ho : out (clD n ws) h = true) : ∃ p i, TP ws p i ∧ i < ws.length ∧ h = dO ws i p := by
 obtain ⟨p, hp, e | e⟩ := dart_ex hh (hw (h / 4) (by omega)).1
 ·exact ⟨p, h / 4, hp, by omega, e⟩
 ·rw [e] at ho
  unfold dI at ho
  rw [clD_out n ws (by omega)] at ho
  cases ho
theorem to_home (hw : WOk n ws) : ∀ (d i p : Nat), i < ws.length → ws.length - i ≤ d → TP ws p i → tchd ws (home ws (dO ws i p)) ∧ Orb (st (clD n ws)) (dO ws i p) (clA ws (home ws (dO ws i p)))
 | 0, i, p, hi, hd, _ => by omega
 | d + 1, i, p, hi, hd, hp => by
   obtain ⟨j, hj⟩ := CN.next_ex hp hi
   obtain ⟨e1, e2⟩ := st_arc hw hj
   have hj2 := hj
   rcases home_st hw hj with ⟨h1, h2⟩ | ⟨h1, h2, h3⟩
   ·rw [e1] at h2
    obtain ⟨g1, g2⟩ := to_home hw d j _ hj.2.2.2.1 (by omega) e2
    rw [h2] at g1 g2
    refine ⟨g1, Orb.trans (Orb.step _ _) ?_⟩
    rw [e1]
    exact g2
   ·have ht : tchd ws p := ⟨i, hi, hp⟩
    rw [h2]
    refine ⟨ht, ?_⟩
    obtain ⟨_, _, _, _, hx⟩ := hj
    obtain ⟨b1, b2, b3⟩ := lsT_spec ht
    have : lsT ws p = i := by
     rcases Nat.lt_trichotomy (lsT ws p) i with c | c | c
     ·exact absurd hp (b3 i c hi)
     ·exact c
     ·rcases hx with ⟨x1, _⟩ | ⟨_, x2, _⟩
      ·omega
      ·exact absurd b1 (x2 _ c b2)
    unfold clA
    rw [this]
    exact Orb.refl _ _
theorem home_clA (hw : WOk n ws) {p : Nat} (h : tchd ws p) : home ws (clA ws p) = p ∧ ∃ i j, clA ws p = dO ws i p ∧ j ≤ i ∧ CN (TP ws p) ws.length i j := by
 obtain ⟨b1, b2, b3⟩ := lsT_spec h
 obtain ⟨j, hj⟩ := CN.next_ex b1 b2
 have hj2 := hj
 obtain ⟨_, tj, _, hjl, hx⟩ := hj
 have : j ≤ lsT ws p := by
  rcases hx with ⟨x1, _⟩ | ⟨x1, _⟩
  ·exact absurd tj (b3 j x1 hjl)
  ·exact x1
 refine ⟨?_, lsT ws p, j, rfl, this, hj2⟩
 rcases home_st hw hj2 with ⟨h1, _⟩ | ⟨_, h2, _⟩
 ·omega
 ·exact h2
theorem clD_comps (hw : WOk n ws) (hd : Wf (clD n ws)) {s : Nat} (hs : Str (clD n ws) s) : Cls (fun i => i < n) (Orb (fun i => trk i ws)) (s + (clD n ws).lp) := by
 have hok : ∀ x, x ∈ ws → LetOk n x := fun x hx => by
  obtain ⟨i, hi, rfl⟩ := List.getElem_of_mem hx
  have := hw i hi
  rwa [List.getD_eq_getElem?_getD, List.getElem?_eq_getElem hi] at this
 have hb := trk_bij n ws hok
 have hlen : (clD n ws).n = ws.length := clD_n n ws
 -- orbits of darts go over to orbits of positions
 have fwd : ∀ k x, x < 4 * ws.length → out (clD n ws) x = true → Orb (fun i => trk i ws) (home ws x) (home ws (it (st (clD n ws)) k x)) ∧ (it (st (clD n ws)) k x) < 4 * ws.length ∧ out (clD n ws) (it (st (clD n ws)) k x) = true := by
  intro k x hx ho
  induction k with
  | zero => exact ⟨Orb.refl _ _, hx, ho⟩
  | succ k ih =>
    obtain ⟨a1, a2, a3⟩ := ih
    obtain ⟨p, i, hp, hi, e⟩ := out_ex hw a2 a3
    obtain ⟨j, hj⟩ := CN.next_ex hp hi
    obtain ⟨e1, e2⟩ := st_arc hw hj
    show Orb _ _ (home ws (st (clD n ws) (it (st (clD n ws)) k x))) ∧ st (clD n ws) (it (st (clD n ws)) k x) < _ ∧ out _ (st (clD n ws) (it (st (clD n ws)) k x)) = true
    rw [e] at a1 ⊢
    refine ⟨?_, by rw [e1]; exact dO_lt hj.2.2.2.1, by rw [e1]; unfold dO; exact clD_out n ws hj.2.2.2.1 _ _⟩
    rcases home_st hw hj with ⟨_, h2⟩ | ⟨_, h2, h3⟩
    ·rw [h2]; exact a1
    ·rw [h3]
     rw [h2] at a1
     exact a1.trans (Orb.step (fun i => trk i ws) p)
 have stp : ∀ p, tchd ws p → tchd ws (trk p ws) ∧ Orb (st (clD n ws)) (clA ws p) (clA ws (trk p ws)) := fun p hp => by
  obtain ⟨g1, i, j, g2, g3, g4⟩ := home_clA hw hp
  obtain ⟨e1, e2⟩ := st_arc hw g4
  rcases home_st hw g4 with ⟨h1, _⟩ | ⟨_, _, h3⟩
  ·omega
  ·rw [e1] at h3
   have := to_home hw _ j _ g4.2.2.2.1 (Nat.le_refl _) e2
   rw [h3] at this
   refine ⟨this.1, ?_⟩
   rw [g2]
   refine Orb.trans (Orb.step _ _) ?_
   rw [e1]
   exact this.2
 have bwd : ∀ k p, tchd ws p → tchd ws (it (fun i => trk i ws) k p) ∧ Orb (st (clD n ws)) (clA ws p) (clA ws (it (fun i => trk i ws) k p)) := by
  intro k p hp
  induction k with
  | zero => exact ⟨hp, Orb.refl _ _⟩
  | succ k ih =>
    obtain ⟨a, b⟩ := stp _ ih.1
    exact ⟨a, ih.2.trans b⟩
 have tlt : ∀ p, tchd ws p → p < n := fun p ⟨i, h1, h2⟩ => hw.lt h1 h2
 have eqv : Eqv (fun h => h < 4 * (clD n ws).n ∧ out (clD n ws) h = true) (Orb (st (clD n ws))) :=
  ⟨fun x hx => Orb.refl _ _, fun x y hx hy e => (st_bij hd).symm hx.1 e, fun x y z _ _ _ e e' => e.trans e'⟩
 have cOut : ∀ p, tchd ws p → clA ws p < 4 * (clD n ws).n ∧ out (clD n ws) (clA ws p) = true := fun p hp => by
  obtain ⟨b1, b2, b3⟩ := lsT_spec hp
  rw [hlen]
  exact ⟨dO_lt b2, by unfold clA dO; exact clD_out n ws b2 _ _⟩
 -- the arcs that close positions
 have hD : Cls (fun h => ∃ p, tchd ws p ∧ h = clA ws p) (Orb (st (clD n ws))) s := by
  refine Cls.sub hs (fun x ⟨p, hp, e⟩ => by rw [e]; exact cOut p hp) (fun x hx => ?_)
  obtain ⟨p, i, hp, hi, e⟩ := out_ex hw (by rw [← hlen]; exact hx.1) hx.2
  obtain ⟨g1, g2⟩ := to_home hw _ i p hi (Nat.le_refl _) hp
  rw [← e] at g1 g2
  exact ⟨_, ⟨_, g1, rfl⟩, g2⟩
 have hP : Cls (fun p => tchd ws p) (Orb (fun i => trk i ws)) s := by
  refine hD.map (home ws) (fun x ⟨p, hp, e⟩ => by rw [e, (home_clA hw hp).1]; exact hp) (fun p hp => ⟨clA ws p, ⟨p, hp, rfl⟩, (home_clA hw hp).1⟩) (fun x y ⟨p, hp, ex⟩ ⟨q, hq, ey⟩ => ?_)
  subst ex ey
  rw [(home_clA hw hp).1, (home_clA hw hq).1]
  constructor
  ·rintro ⟨k, e⟩
   have := (fwd k (clA ws p) (by have := (cOut p hp).1; rwa [hlen] at this) (cOut p hp).2).1
   rwa [e, (home_clA hw hp).1, (home_clA hw hq).1] at this
  ·rintro ⟨k, e⟩
   have := (bwd k p hp).2
   rwa [e] at this
 -- the positions without letters
 have fix : ∀ p, ¬ tchd ws p → trk p ws = p := fun p hp => by
  have := trk_skip (ws := ws) (p := p) ws.length 0 (by omega) (fun k _ k2 ht => hp ⟨k, by omega, ht⟩)
  rw [List.drop_zero, Nat.zero_add, List.drop_length] at this
  exact this
 have fixO : ∀ p q, ¬ tchd ws p → Orb (fun i => trk i ws) p q → q = p := fun p q hp e =>
  orb_closed (f := fun i => trk i ws) (P := fun z => z = p) (fun z hz => by rw [hz]; exact fix p hp) rfl e
 have hL : rcL ws n = cnt (fun p => ¬ tchd ws p) n := by
  have : ∀ m, rcL ws m = cnt (fun p => ¬ tchd ws p) m := by
   intro m
   induction m with
   | zero => rfl
   | succ m ih =>
     show rcL ws m + (if nxW ws 0 m < 0 then 1 else 0) = _
     rw [ih]
     by_cases c : tchd ws m
     ·rw [cnt_step_neg (fun e => e c), if_neg (fun e => by obtain ⟨i, h1, h2⟩ := c; exact nxW_neg.1 e i h1 h2)]
      rfl
     ·rw [cnt_step_pos c, if_pos (nxW_neg.2 (fun i hi ht => c ⟨i, hi, ht⟩))]
  exact this n
 have h0 : Cls (fun p => p < n ∧ ¬ tchd ws p) (Orb (fun i => trk i ws)) (rcL ws n) := by
  have := Cls.card (S := fun p => p < n ∧ ¬ tchd ws p) n (fun _ h => h.1)
  rw [cnt_congr (q := fun p => ¬ tchd ws p) n (fun x hx => ⟨fun h => h.2, fun h => ⟨hx, h⟩⟩), ← hL] at this
  exact this.congr (fun _ => Iff.rfl) (fun x y hx hy => ⟨fun e => e ▸ Orb.refl _ _, fun e => (fixO x y hx.2 e).symm⟩)
 rw [clD_lp hw]
 refine (hP.add h0 (fun x y hx hy e => ?_) (fun x y hx hy e => ?_) (fun x hx hy => hy.2 hx)).congr (fun x => ⟨fun h => h.elim (fun h => tlt x h) (fun h => h.1), fun h => ?_⟩) (fun _ _ _ _ => Iff.rfl)
 ·obtain ⟨k, e⟩ := e
  have := (bwd k x hx).1
  rw [e] at this
  exact hy.2 this
 ·have := fixO y x hy.2 e
  rw [this] at hx
  exact hy.2 hx
 ·by_cases c : tchd ws x
  ·exact .inl c
  ·exact .inr ⟨h, c⟩
end
end Go.Proofs.YtcaoblilkgajoaaDoor.Pl
end
section
namespace Go.Proofs.YtcaoblilkgajoaaDoor
open Go Go.RowKit
attribute [local go_sem ↓] Go.wp_at_zero Go.wp_at_succ
structure CBr (base : Nat) (w : World) (gd gf gl gM gF gL gj m s : Nat) (vS : Value) (sg : List Int) (q : Pl.ClS) (lp : Nat) (W : World) : Prop where
 d : Row W gd 28 [vS, .slice (some ⟨gM, 0, none⟩) m m, .int .i64 (lp : Int)]
 mr : IRow W gM (nats q.mt)
 fb : Row W gf 22 [.slice (some ⟨gF, 0, none⟩) s s]
 lb : Row W gl 22 [.slice (some ⟨gL, 0, none⟩) s s]
 fr : IRow W gF q.fi
 lr : IRow W gL q.la
 jb : Row W gj 61 [.func (.func 36) #[] #[.pointer (some ⟨gd, 0, none⟩)]]
 own : W.ownsRow base 3 1 vS sg.length (sg.map (.int .i64))
 nd : [gd, gf, gl, gM, gF, gL, gj].Nodup
 lo : ∀ g, g ∈ [gd, gf, gl, gM, gF, gL, gj] → w.heap.size ≤ g ∧ g < base
 bel : Below w.heap.size w W
 big : base ≤ W.heap.size
 lm : q.mt.length = m
 lf : q.fi.length = s
 ll : q.la.length = s
section
variable {base : Nat} {w W W' : World} {gd gf gl gM gF gL gj m s : Nat} {vS : Value} {sg : List Int} {q : Pl.ClS} {lp : Nat}
theorem CBr.below (h : CBr base w gd gf gl gM gF gL gj m s vS sg q lp W) (hb : Below W.heap.size W W') : CBr base w gd gf gl gM gF gL gj m s vS sg q lp W' :=
 ⟨h.d.below hb, Row.below h.mr hb, h.fb.below hb, h.lb.below hb, Row.below h.fr hb, Row.below h.lr hb, h.jb.below hb, own_below h.own hb, h.nd, h.lo, h.bel.trans (hb.mono h.bel.size), Nat.le_trans h.big hb.size, h.lm, h.lf, h.ll⟩
theorem CBr.setM (h : CBr base w gd gf gl gM gF gL gj m s vS sg q lp W) (i x : Nat) : CBr base w gd gf gl gM gF gL gj m s vS sg ⟨q.mt.set i x, q.fi, q.la⟩ lp (W.setCell ⟨gM, i, none⟩ (.int .i64 (x : Int))) := by
 have nd := h.nd
 simp only [List.nodup_cons, List.mem_cons, not_or, List.not_mem_nil, not_false_iff, and_true, List.nodup_nil] at nd
 obtain ⟨⟨a1, a2, a3, a4, a5, a6⟩, ⟨b2, b3, b4, b5, b6⟩, ⟨c3, c4, c5, c6⟩, ⟨d4, d5, d6⟩, ⟨e5, e6⟩, f6⟩ := nd
 have lo := h.lo gM (by simp)
 refine ⟨h.d.other (show _ ≠ gM from a3) _, ?_, h.fb.other (show _ ≠ gM from b3) _, h.lb.other (show _ ≠ gM from c3) _, Row.other h.fr (show _ ≠ gM from fun e => d4 e.symm) _, Row.other h.lr (show _ ≠ gM from fun e => d5 e.symm) _, h.jb.other (show _ ≠ gM from fun e => d6 e.symm) _, ownsRow_setCell_below h.own (by show gM < base; omega) _, h.nd, h.lo, h.bel.setCell (by show _ ≤ gM; omega) _, by simpa using h.big, by show (q.mt.set i x).length = m; rw [List.length_set]; exact h.lm, h.lf, h.ll⟩
 have := IRow.set h.mr i (x : Int)
 rw [← nats_set] at this
 exact this
theorem CBr.setF (h : CBr base w gd gf gl gM gF gL gj m s vS sg q lp W) (i : Nat) (x : Int) : CBr base w gd gf gl gM gF gL gj m s vS sg ⟨q.mt, q.fi.set i x, q.la⟩ lp (W.setCell ⟨gF, i, none⟩ (.int .i64 x)) := by
 have nd := h.nd
 simp only [List.nodup_cons, List.mem_cons, not_or, List.not_mem_nil, not_false_iff, and_true, List.nodup_nil] at nd
 obtain ⟨⟨a1, a2, a3, a4, a5, a6⟩, ⟨b2, b3, b4, b5, b6⟩, ⟨c3, c4, c5, c6⟩, ⟨d4, d5, d6⟩, ⟨e5, e6⟩, f6⟩ := nd
 have lo := h.lo gF (by simp)
 exact ⟨h.d.other (show _ ≠ gF from a4) _, Row.other h.mr (show _ ≠ gF from d4) _, h.fb.other (show _ ≠ gF from b4) _, h.lb.other (show _ ≠ gF from c4) _, IRow.set h.fr i x, Row.other h.lr (show _ ≠ gF from fun e => e5 e.symm) _, h.jb.other (show _ ≠ gF from fun e => e6 e.symm) _, ownsRow_setCell_below h.own (by show gF < base; omega) _, h.nd, h.lo, h.bel.setCell (by show _ ≤ gF; omega) _, by simpa using h.big, h.lm, by show (q.fi.set i x).length = s; rw [List.length_set]; exact h.lf, h.ll⟩
theorem CBr.setL (h : CBr base w gd gf gl gM gF gL gj m s vS sg q lp W) (i : Nat) (x : Int) : CBr base w gd gf gl gM gF gL gj m s vS sg ⟨q.mt, q.fi, q.la.set i x⟩ lp (W.setCell ⟨gL, i, none⟩ (.int .i64 x)) := by
 have nd := h.nd
 simp only [List.nodup_cons, List.mem_cons, not_or, List.not_mem_nil, not_false_iff, and_true, List.nodup_nil] at nd
 obtain ⟨⟨a1, a2, a3, a4, a5, a6⟩, ⟨b2, b3, b4, b5, b6⟩, ⟨c3, c4, c5, c6⟩, ⟨d4, d5, d6⟩, ⟨e5, e6⟩, f6⟩ := nd
 have lo := h.lo gL (by simp)
 exact ⟨h.d.other (show _ ≠ gL from a5) _, Row.other h.mr (show _ ≠ gL from d5) _, h.fb.other (show _ ≠ gL from b5) _, h.lb.other (show _ ≠ gL from c5) _, Row.other h.fr (show _ ≠ gL from e5) _, IRow.set h.lr i x, h.jb.other (show _ ≠ gL from fun e => f6 e.symm) _, ownsRow_setCell_below h.own (by show gL < base; omega) _, h.nd, h.lo, h.bel.setCell (by show _ ≤ gL; omega) _, by simpa using h.big, h.lm, h.lf, by show (q.la.set i x).length = s; rw [List.length_set]; exact h.ll⟩
theorem CBr.setD (h : CBr base w gd gf gl gM gF gL gj m s vS sg q lp W) (lp' : Nat) : CBr base w gd gf gl gM gF gL gj m s vS sg q lp' (W.setCell ⟨gd, 2, none⟩ (.int .i64 (lp' : Int))) := by
 have nd := h.nd
 simp only [List.nodup_cons, List.mem_cons, not_or, List.not_mem_nil, not_false_iff, and_true, List.nodup_nil] at nd
 obtain ⟨⟨a1, a2, a3, a4, a5, a6⟩, ⟨b2, b3, b4, b5, b6⟩, ⟨c3, c4, c5, c6⟩, ⟨d4, d5, d6⟩, ⟨e5, e6⟩, f6⟩ := nd
 have lo := h.lo gd (by simp)
 exact ⟨h.d.set 2 (.int .i64 (lp' : Int)), Row.other h.mr (show _ ≠ gd from fun e => a3 e.symm) _, h.fb.other (show _ ≠ gd from fun e => a1 e.symm) _, h.lb.other (show _ ≠ gd from fun e => a2 e.symm) _, Row.other h.fr (show _ ≠ gd from fun e => a4 e.symm) _, Row.other h.lr (show _ ≠ gd from fun e => a5 e.symm) _, h.jb.other (show _ ≠ gd from fun e => a6 e.symm) _, ownsRow_setCell_below h.own (by show gd < base; omega) _, h.nd, h.lo, h.bel.setCell (by show _ ≤ gd; omega) _, by simpa using h.big, h.lm, h.lf, h.ll⟩
def FrB (base : Nat) (W W' : World) : Prop := ∀ g, base ≤ g → W'.heap[g]? = W.heap[g]?
theorem FrB.refl (base : Nat) (W : World) : FrB base W W := fun _ _ => rfl
theorem FrB.set {base : Nat} {W W' : World} (h : FrB base W W') {g : Nat} (hg : g < base) (i : Nat) (v : Value) : FrB base W (W'.setCell ⟨g, i, none⟩ v) := fun k hk => (Below.heap_setCell W' ⟨g, i, none⟩ v k (by show k ≠ g; omega)).trans (h k hk)
theorem FrB.drew {base : Nat} {W W' : World} (h : FrB base W W') : FrB base W W'.drew := h
theorem FrB.row {base : Nat} {W W' : World} (h : FrB base W W') {g : Nat} {t : TypeId} {vs : List Value} (hr : Row W g t vs) (hg : base ≤ g) : Row W' g t vs := (h g hg).trans hr
theorem CBr.app (h : CBr base w gd gf gl gM gF gL gj m s vS sg q lp W) {g c : Nat} {x : Int} (own : W'.ownsRow base 3 1 (.slice (some ⟨g, 0, none⟩) (sg.length + 1) c) (sg.length + 1) (sg.map (.int .i64) ++ [.int .i64 x])) (gr : W.grownBy W' vS.ownBlock) :
 CBr base w gd gf gl gM gF gL gj m s (.slice (some ⟨g, 0, none⟩) (sg.length + 1) c) (sg ++ [x]) q lp (W'.setCell ⟨gd, 0, none⟩ (.slice (some ⟨g, 0, none⟩) (sg.length + 1) c)) := by
 have nd := h.nd
 simp only [List.nodup_cons, List.mem_cons, not_or, List.not_mem_nil, not_false_iff, and_true, List.nodup_nil] at nd
 obtain ⟨⟨a1, a2, a3, a4, a5, a6⟩, ⟨b2, b3, b4, b5, b6⟩, ⟨c3, c4, c5, c6⟩, ⟨d4, d5, d6⟩, ⟨e5, e6⟩, f6⟩ := nd
 have ne : ∀ k, k ∈ [gd, gf, gl, gM, gF, gL, gj] → some k ≠ vS.ownBlock := fun k hk e => by
  have h1 := (h.own.lt _ e.symm).1
  have h2 := (h.lo k hk).2
  omega
 have lo := h.lo gd (by simp)
 have hb : Below w.heap.size w W' := h.bel.grown gr h.bel.size (fun k hk => by have := (h.own.lt k hk).1; omega)
 have hbig : base ≤ W'.heap.size := Nat.le_trans h.big gr.size
 refine ⟨(h.d.grown gr (ne _ (by simp))).set 0 _, Row.other (Row.grown h.mr gr (ne _ (by simp))) (show _ ≠ gd from fun e => a3 e.symm) _, (h.fb.grown gr (ne _ (by simp))).other (show _ ≠ gd from fun e => a1 e.symm) _, (h.lb.grown gr (ne _ (by simp))).other (show _ ≠ gd from fun e => a2 e.symm) _, Row.other (Row.grown h.fr gr (ne _ (by simp))) (show _ ≠ gd from fun e => a4 e.symm) _, Row.other (Row.grown h.lr gr (ne _ (by simp))) (show _ ≠ gd from fun e => a5 e.symm) _, (h.jb.grown gr (ne _ (by simp))).other (show _ ≠ gd from fun e => a6 e.symm) _, ?_, h.nd, h.lo, hb.setCell (by show _ ≤ gd; omega) _, by simpa using hbig, h.lm, h.lf, h.ll⟩
 have e1 : (sg ++ [x]).length = sg.length + 1 := by simp
 rw [e1, List.map_append]
 exact ownsRow_setCell_below own (by show gd < base; omega) _
end
set_option maxRecDepth 100000 in
set_option maxHeartbeats 2000000 in
theorem cjoin_any {base : Nat} {w W : World} {gd gf gl gM gF gL gj m s : Nat} {vS : Value} {sg : List Int} {q : Pl.ClS} {lp : Nat} (h : CBr base w gd gf gl gM gF gL gj m s vS sg q lp W) (a b : Nat) (ha : a < m) (hb : b < m) (hm : m ≤ 1000) :
 Calls Tryd.prog 36 #[.int .i64 (a : Int), .int .i64 (b : Int), .pointer (some ⟨gd, 0, none⟩)] W fun e W' => (∃ v, e = .returned v) ∧ CBr base w gd gf gl gM gF gL gj m s vS sg ⟨Pl.jnn q.mt a b, q.fi, q.la⟩ lp W' ∧ FrB base W W' := by
 have H := hide h
 obtain ⟨d0, d1, d2, d3⟩ := box3 h.d
 have c1 := IRow.cell h.mr (i := a) (by rw [nats_len, h.lm]; exact ha)
 have c2 := IRow.cell h.mr (i := b) (by rw [nats_len, h.lm]; exact hb)
 have f1 := Row.free h.mr
 have c3 := IRow.cell (h.setM a b).mr (i := b) (by rw [nats_len, (h.setM a b).lm]; exact hb)
 have c4 := IRow.cell (h.setM b a).mr (i := a) (by rw [nats_len, (h.setM b a).lm]; exact ha)
 obtain ⟨_, e1, _, _⟩ := box3 (h.setM a b).d
 obtain ⟨_, e2, _, _⟩ := box3 (h.setM b a).d
 have a0 : (0 : Int) ≤ (a : Int) := by omega
 have a1 : (a : Int) < (m : Int) := by omega
 have b0 : (0 : Int) ≤ (b : Int) := by omega
 have b1 : (b : Int) < (m : Int) := by omega
 clear h
 go_enter Tryd.func36, Tryd.ntmps36
 go_region
 all_goals (go_wp2_with fail)
 all_goals exact bodyPost_end (by simp [results, Tryd.results36, go_sem]; rfl) rfl ⟨⟨_, rfl⟩, ((H.out.setM a b).setM b a).below (Below.refl _ _).drew, (((FrB.refl base W).set (H.out.lo gM (by simp)).2 _ _).set (H.out.lo gM (by simp)).2 _ _).drew⟩
set_option maxRecDepth 100000 in
set_option maxHeartbeats 2000000 in
theorem cpass_any {base : Nat} {w W : World} {gd gf gl gM gF gL gj m s : Nat} {vS : Value} {sg : List Int} {q : Pl.ClS} {lp : Nat} (h : CBr base w gd gf gl gM gF gL gj m s vS sg q lp W) (p i o : Nat) (hp : p < s) (hi : i < m) (ho : o < m) (hm : m ≤ 1000) (hs : s ≤ 10) (hla : q.la.getD p (-1) < (m : Int)) :
 Calls Tryd.prog 37 #[.int .i64 (p : Int), .int .i64 (i : Int), .int .i64 (o : Int), .pointer (some ⟨gl, 0, none⟩), .pointer (some ⟨gf, 0, none⟩), .pointer (some ⟨gj, 0, none⟩)] W fun e W' => (∃ v, e = .returned v) ∧ CBr base w gd gf gl gM gF gL gj m s vS sg (Pl.clPass q p i o) lp W' ∧ FrB base W W' := by
 have H := hide h
 have l0 := h.lb.cell (i := 0) (by simp)
 have f0 := h.fb.cell (i := 0) (by simp)
 have j0 := h.jb.cell (i := 0) (by simp)
 have c1 := IRow.cell h.lr (i := p) (by rw [h.ll]; exact hp)
 have c2 := IRow.cell h.fr (i := p) (by rw [h.lf]; exact hp)
 have f1 := Row.free h.lr
 have f2 := Row.free h.fr
 have p0 : (0 : Int) ≤ (p : Int) := by omega
 have p1 : (p : Int) < (s : Int) := by omega
 have HP := hide (show Pl.pv q.la p = q.la.getD p (-1) by
  unfold Pl.pv
  rw [List.getD_eq_getElem?_getD, List.getD_eq_getElem?_getD, List.getElem?_eq_getElem (by rw [h.ll]; exact hp)]
  rfl)
 rw [HP.out] at c1
 obtain ⟨x, hx⟩ : ∃ x, x = q.la.getD p (-1) := ⟨_, rfl⟩
 rw [← hx] at c1 hla
 have HX := hide hx
 clear h hx
 simp only [List.getElem_cons_zero] at l0 f0 j0
 by_cases hx0 : x < 0
 ·have HE := hide (show Pl.clPass q p i o = ⟨q.mt, q.fi.set p (i : Int), q.la.set p (o : Int)⟩ by unfold Pl.clPass; rw [if_pos (by rw [← HX.out]; exact hx0)])
  have H1 := hide (H.out.setF p (i : Int))
  have l1 := H1.out.lb.cell (i := 0) (by simp)
  have c3 := IRow.cell H1.out.lr (i := p) (by rw [H1.out.ll]; exact hp)
  have f3 := Row.free H1.out.lr
  simp only [List.getElem_cons_zero] at l1
  go_enter Tryd.func37, Tryd.ntmps37
  go_wp2_with fail
  exact bodyPost_end (by simp [results, Tryd.results37, go_sem]; rfl) rfl ⟨⟨_, rfl⟩, by rw [HE.out]; exact H1.out.setL p (o : Int), ((FrB.refl base W).set (H.out.lo gF (by simp)).2 _ _).set (H.out.lo gL (by simp)).2 _ _⟩
 ·obtain ⟨a, rfl⟩ := Int.eq_ofNat_of_zero_le (show 0 ≤ x by omega)
  have ham : a < m := by omega
  have HE := hide (show Pl.clPass q p i o = ⟨Pl.jnn q.mt a i, q.fi, q.la.set p (o : Int)⟩ by
   unfold Pl.clPass
   rw [if_neg (by rw [← HX.out]; exact hx0), ← HX.out]
   rfl)
  have HD := hide (H.out.below (Below.refl W.heap.size W).drew)
  go_enter Tryd.func37, Tryd.ntmps37
  go_upto_region 2 with fail
  go_still_tail 6, (by kernel_rfl)
  change wpList _ _ _ _ _ W.drew
  obtain ⟨W6, hW6⟩ : ∃ W6 : World, W6 = W.drew := ⟨_, rfl⟩
  rw [← hW6] at HD ⊢
  have HFR := hide (show FrB base W W6 by rw [hW6]; exact FrB.refl base W)
  clear hW6 l0 f0 j0 c1 c2 f1 f2
  go_wp2_with fail
  refine (cjoin_any HD.out a i ham hi hm).mono ?_
  rintro e W2 ⟨⟨v, rfl⟩, hc, hfr⟩
  have H2 := hide hc
  have HFR2 := hide (show FrB base W W2 from fun k hk => (hfr k hk).trans (HFR.out k hk))
  have l1 := H2.out.lb.cell (i := 0) (by simp)
  have c3 := IRow.cell H2.out.lr (i := p) (by rw [H2.out.ll]; exact hp)
  have f3 := Row.free H2.out.lr
  simp only [List.getElem_cons_zero] at l1
  clear hc hfr
  go_wp2_with fail
  exact bodyPost_end (by simp [results, Tryd.results37, go_sem]; rfl) rfl ⟨⟨_, rfl⟩, by rw [HE.out]; exact H2.out.setL p (o : Int), HFR2.out.set (H.out.lo gL (by simp)).2 _ _⟩
theorem cpass_int {base : Nat} {w W : World} {gd gf gl gM gF gL gj m s : Nat} {vS : Value} {sg : List Int} {q : Pl.ClS} {lp : Nat} (h : CBr base w gd gf gl gM gF gL gj m s vS sg q lp W) (p i o : Nat) (x y z : Int) (ex : x = (p : Int)) (ey : y = (i : Int)) (ez : z = (o : Int)) (hp : p < s) (hi : i < m) (ho : o < m) (hm : m ≤ 1000) (hs : s ≤ 10) (hla : q.la.getD p (-1) < (m : Int)) :
 Calls Tryd.prog 37 #[.int .i64 x, .int .i64 y, .int .i64 z, .pointer (some ⟨gl, 0, none⟩), .pointer (some ⟨gf, 0, none⟩), .pointer (some ⟨gj, 0, none⟩)] W fun e W' => (∃ v, e = .returned v) ∧ CBr base w gd gf gl gM gF gL gj m s vS sg (Pl.clPass q p i o) lp W' ∧ FrB base W W' := by
 subst ex ey ez
 exact cpass_any h p i o hp hi ho hm hs hla
end Go.Proofs.YtcaoblilkgajoaaDoor
end
