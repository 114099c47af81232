/-
  Plain Lean: the graph components of a diagram, found by a queue. No program is named here.
-/
import Derived.Test.YtobbepmlmbbamaaVf
namespace Go.Proofs.Ytobbepmlmbbamaa.Pl

/-- The label of a crossing. -/
def pv (ps : List Int) (a : Nat) : Int := ps.getD a 0
theorem pv_set {ps : List Int} {i : Nat} (hi : i < ps.length) (v : Int) (a : Nat) : pv (ps.set i v) a = if a = i then v else pv ps a := by
  unfold pv
  rw [List.getD_eq_getElem?_getD, List.getD_eq_getElem?_getD, List.getElem?_set]
  by_cases h : i = a
  · subst h; simp [hi]
  · rw [if_neg h, if_neg (fun e => h e.symm)]
def unl (ps : List Int) : Nat := ps.countP (fun z => decide (z < 0))
theorem unl_set {ps : List Int} {i : Nat} (hi : i < ps.length) (hn : pv ps i < 0) {v : Int} (hv : 0 ≤ v) : unl (ps.set i v) + 1 = unl ps := by
  have e : pv ps i = ps[i] := by unfold pv; rw [List.getD_eq_getElem?_getD, List.getElem?_eq_getElem hi]; rfl
  have hp : 0 < unl ps := by
    unfold unl
    rw [List.countP_pos_iff]
    exact ⟨ps[i], List.getElem_mem hi, by rw [← e]; simpa using hn⟩
  unfold unl at hp ⊢
  rw [List.countP_set hi]
  have h1 : decide (ps[i] < 0) = true := by rw [← e]; simpa using hn
  have h2 : decide (v < 0) = false := by simpa using hv
  rw [h1, h2]
  simp only [if_true, Bool.false_eq_true, if_false]
  omega

theorem fill_set {k n : Nat} (h : k < n) : (List.replicate k (-1 : Int) ++ List.replicate (n - k) 0).set k (-1) = List.replicate (k + 1) (-1) ++ List.replicate (n - (k + 1)) 0 := by
  refine List.ext_getElem (by simp; omega) (fun i h1 h2 => ?_)
  simp only [List.getElem_set, List.getElem_append, List.getElem_replicate, List.length_replicate]
  split <;> split <;> (try split) <;> omega
variable {d : Dg}
/-- The crossing at the other end of an edge. -/
def nb (d : Dg) (a t : Nat) : Nat := d.m (4 * a + t) / 4
theorem nb_lt (hd : Wf d) {a t : Nat} (ha : a < d.n) (ht : t < 4) : nb d a t < d.n := by
  have := hd.lt (4 * a + t) (by omega)
  unfold nb; omega
theorem nb_comp (hd : Wf d) {a t : Nat} (ha : a < d.n) (ht : t < 4) : Comp d a (nb d a t) := by
  have h1 := (con_comp hd (g := 4 * a + t) (h := d.m (4 * a + t)) (by omega) (hd.lt _ (by omega))).1 (Con.refl.right)
  rwa [show (4 * a + t) / 4 = a by omega] at h1
/-- A set of crossings that holds its neighbours holds its components. -/
theorem comp_closed (hd : Wf d) {P : Nat → Prop} (hP : ∀ a, a < d.n → P a → ∀ t, t < 4 → P (nb d a t)) {a b : Nat} (ha : a < d.n) (h : P a) (e : Comp d a b) : P b := by
  have : ∀ y, Con rot d.m (4 * a) y → y < 4 * d.n ∧ P (y / 4) := by
    intro y e
    induction e with
    | refl => exact ⟨by omega, by rw [show 4 * a / 4 = a by omega]; exact h⟩
    | left _ ih => exact ⟨tn_lt ih.1, by unfold rot; rw [tn_div]; exact ih.2⟩
    | right _ ih =>
      rename_i y _
      refine ⟨hd.lt y ih.1, ?_⟩
      have := hP (y / 4) (by omega) ih.2 (y % 4) (by omega)
      unfold nb at this
      rwa [show 4 * (y / 4) + y % 4 = y by omega] at this
  have := (this _ e).2
  rwa [show 4 * b / 4 = b by omega] at this

/-- Whole components bear the labels below P, each its own. -/
structure LB (d : Dg) (ps : List Int) (P : Nat) : Prop where
  len : ps.length = d.n
  lo : ∀ a, a < d.n → -1 ≤ pv ps a ∧ pv ps a < P
  same : ∀ a b, a < d.n → Comp d a b → 0 ≤ pv ps a → pv ps b = pv ps a
  conn : ∀ a b, a < d.n → b < d.n → 0 ≤ pv ps a → pv ps a = pv ps b → Comp d a b
  all : ∀ p : Nat, p < P → ∃ a, a < d.n ∧ pv ps a = p
theorem LB.le {ps : List Int} {P : Nat} (h : LB d ps P) : P ≤ d.n := by
  have hw : ∀ p : Nat, ∃ a : Nat, p < P → a < d.n ∧ pv ps a = p := fun p => by
    by_cases hp : p < P
    · obtain ⟨a, ha⟩ := h.all p hp; exact ⟨a, fun _ => ha⟩
    · exact ⟨0, fun e => absurd e hp⟩
  refine pigeon P d.n (fun p => Classical.choose (hw p)) (fun p hp => (Classical.choose_spec (hw p) hp).1) (fun p q hp hq e => ?_)
  have e1 := (Classical.choose_spec (hw p) hp).2
  have e2 := (Classical.choose_spec (hw q) hq).2
  have e' : Classical.choose (hw p) = Classical.choose (hw q) := e
  rw [e', e2] at e1
  omega
theorem LB.start (d : Dg) : LB d (List.replicate d.n (-1)) 0 := by
  have e : ∀ a, a < d.n → pv (List.replicate d.n (-1)) a = -1 := fun a ha => by
    unfold pv; rw [List.getD_eq_getElem?_getD, List.getElem?_replicate, if_pos ha]; rfl
  exact ⟨by simp, fun a ha => by rw [e a ha]; omega, fun a b ha _ h => by rw [e a ha] at h; omega, fun a b ha _ h => by rw [e a ha] at h; omega, fun p hp => by omega⟩
/-- No crossing of the component of an unlabelled one is labelled. -/
theorem LB.none (hd : Wf d) {ps : List Int} {P : Nat} (h : LB d ps P) {c b : Nat} (hc : c < d.n) (hn : pv ps c < 0) (e : Comp d c b) : pv ps b < 0 := by
  have hb := comp_mem hd hc e
  by_cases h0 : 0 ≤ pv ps b
  · have := h.same b c hb (comp_symm hd hc e) h0
    omega
  · omega

/-- While the component of c is searched: qs waits, the slots of u below s are done. -/
structure LQ (d : Dg) (c : Nat) (p0 : List Int) (P : Nat) (ps : List Int) (qs : List Nat) (u s : Nat) : Prop where
  base : LB d p0 P
  hc : c < d.n
  new : pv p0 c < 0
  len : ps.length = d.n
  me : pv ps c = P
  mine : ∀ a, a < d.n → pv ps a = P → Comp d c a
  old : ∀ a, a < d.n → pv ps a ≠ P → pv ps a = pv p0 a
  wait : ∀ q, q ∈ qs → q < d.n ∧ pv ps q = P
  brd : ∀ a, a < d.n → pv ps a = P → a ∈ qs ∨ ∀ t, t < 4 → (a = u → t < s) → 0 ≤ pv ps (nb d a t)
theorem LQ.start {c : Nat} {p0 : List Int} {P : Nat} (h : LB d p0 P) (hc : c < d.n) (hn : pv p0 c < 0) : LQ d c p0 P (p0.set c P) [c] d.n 0 := by
  have hl : c < p0.length := by rw [h.len]; exact hc
  refine ⟨h, hc, hn, by rw [List.length_set, h.len], by rw [pv_set hl, if_pos rfl], fun a ha e => ?_, fun a ha e => ?_, fun q hq => ?_, fun a ha e => ?_⟩
  · rw [pv_set hl] at e
    by_cases h1 : a = c
    · subst h1; exact .refl
    · rw [if_neg h1] at e; have := (h.lo a ha).2; omega
  · rw [pv_set hl] at e ⊢
    by_cases h1 : a = c
    · rw [if_pos h1] at e; exact absurd rfl e
    · rw [if_neg h1]
  · rw [List.mem_singleton] at hq; subst hq; exact ⟨hc, by rw [pv_set hl, if_pos rfl]⟩
  · rw [pv_set hl] at e
    by_cases h1 : a = c
    · exact .inl (by rw [h1]; simp)
    · rw [if_neg h1] at e; have := (h.lo a ha).2; omega
theorem LQ.pop {c : Nat} {p0 ps : List Int} {P q s u : Nat} {qs : List Nat} (h : LQ d c p0 P ps (q :: qs) u s) (hu : u = d.n) : LQ d c p0 P ps qs q 0 := by
  refine ⟨h.base, h.hc, h.new, h.len, h.me, h.mine, h.old, fun x hx => h.wait x (by simp [hx]), fun a ha e => ?_⟩
  rcases h.brd a ha e with h1 | h1
  · by_cases h2 : a = q
    · exact .inr fun t _ h3 => absurd (h3 h2) (by omega)
    · exact .inl (by simpa [h2] using h1)
  · exact .inr fun t ht _ => h1 t ht (fun e => absurd e (by omega))
theorem LQ.ge {c : Nat} {p0 ps : List Int} {P s u : Nat} {qs : List Nat} (h : LQ d c p0 P ps qs u s) {a : Nat} (ha : a < d.n) : -1 ≤ pv ps a ∧ pv ps a < (P + 1 : Nat) := by
  by_cases e : pv ps a = P
  · omega
  · rw [h.old a ha e]; have := h.base.lo a ha; omega
/-- The neighbour at the slot s has a label. -/
theorem LQ.skip {c : Nat} {p0 ps : List Int} {P s u : Nat} {qs : List Nat} (h : LQ d c p0 P ps qs u s) (hn : 0 ≤ pv ps (nb d u s)) : LQ d c p0 P ps qs u (s + 1) := by
  refine ⟨h.base, h.hc, h.new, h.len, h.me, h.mine, h.old, h.wait, fun a ha e => ?_⟩
  rcases h.brd a ha e with h1 | h1
  · exact .inl h1
  · refine .inr fun t ht h2 => ?_
    by_cases h3 : a = u ∧ t = s
    · obtain ⟨rfl, rfl⟩ := h3; exact hn
    · exact h1 t ht (fun e => by
        have := h2 e
        have : t ≠ s := fun e2 => h3 ⟨e, e2⟩
        omega)
/-- It has none: it gets one, and waits. -/
theorem LQ.push (hd : Wf d) {c : Nat} {p0 ps : List Int} {P s u : Nat} {qs : List Nat} (h : LQ d c p0 P ps qs u s) (hu : u < d.n) (hup : pv ps u = P) (hs : s < 4) (_ : pv ps (nb d u s) < 0) :
    LQ d c p0 P (ps.set (nb d u s) P) (qs ++ [nb d u s]) u (s + 1) := by
  have hb := nb_lt hd hu hs
  have hl : nb d u s < ps.length := by rw [h.len]; exact hb
  have hcb : Comp d c (nb d u s) := (h.mine u hu hup).trans (nb_comp hd hu hs)
  refine ⟨h.base, h.hc, h.new, by rw [List.length_set, h.len], ?_, fun a ha e => ?_, fun a ha e => ?_, fun q hq => ?_, fun a ha e => ?_⟩
  · rw [pv_set hl]; split
    · rfl
    · exact h.me
  · rw [pv_set hl] at e
    by_cases h1 : a = nb d u s
    · rw [h1]; exact hcb
    · rw [if_neg h1] at e; exact h.mine a ha e
  · rw [pv_set hl] at e ⊢
    by_cases h1 : a = nb d u s
    · rw [if_pos h1] at e; exact absurd rfl e
    · rw [if_neg h1] at e ⊢; exact h.old a ha e
  · rw [List.mem_append, List.mem_singleton] at hq
    rw [pv_set hl]
    rcases hq with hq | hq
    · exact ⟨(h.wait q hq).1, by split; rfl; exact (h.wait q hq).2⟩
    · subst hq; exact ⟨hb, by rw [if_pos rfl]⟩
  · by_cases h1 : a = nb d u s
    · exact .inl (by rw [h1]; simp)
    · rw [pv_set hl, if_neg h1] at e
      rcases h.brd a ha e with h2 | h2
      · exact .inl (by simp [h2])
      · refine .inr fun t ht h3 => ?_
        rw [pv_set hl]
        split
        · omega
        · rename_i h4
          refine h2 t ht (fun e => ?_)
          have := h3 e
          have : t ≠ s := fun e2 => h4 (by rw [e, e2])
          omega
theorem LQ.rest {c : Nat} {p0 ps : List Int} {P u : Nat} {qs : List Nat} (h : LQ d c p0 P ps qs u 4) : LQ d c p0 P ps qs d.n 0 :=
  ⟨h.base, h.hc, h.new, h.len, h.me, h.mine, h.old, h.wait, fun a ha e => (h.brd a ha e).imp id fun h1 t ht _ => h1 t ht (fun _ => ht)⟩
/-- THE QUEUE IS EMPTY: the component is done. -/
theorem LQ.done (hd : Wf d) {c : Nat} {p0 ps : List Int} {P s : Nat} (h : LQ d c p0 P ps [] d.n s) : LB d ps (P + 1) ∧ (∀ a, a < d.n → 0 ≤ pv p0 a → 0 ≤ pv ps a) ∧ 0 ≤ pv ps c := by
  have full : ∀ b, Comp d c b → pv ps b = P := by
    intro b e
    have : b < d.n ∧ pv ps b = P := by
      refine comp_closed hd (P := fun a => a < d.n ∧ pv ps a = P) (fun a ha ⟨_, h2⟩ t ht => ?_) h.hc ⟨h.hc, h.me⟩ e
      refine ⟨nb_lt hd ha ht, ?_⟩
      rcases h.brd a ha h2 with h3 | h3
      · cases h3
      · have h4 := h3 t ht (fun e => absurd e (by omega))
        by_cases h5 : pv ps (nb d a t) = P
        · exact h5
        · have h6 := h.old _ (nb_lt hd ha ht) h5
          have := h.base.none hd h.hc h.new ((h.mine a ha h2).trans (nb_comp hd ha ht))
          omega
    exact this.2
  have cls : ∀ a, a < d.n → (pv ps a = P ↔ Comp d c a) := fun a ha => ⟨h.mine a ha, full a⟩
  refine ⟨⟨h.len, fun a ha => h.ge ha, fun a b ha e h0 => ?_, fun a b ha hb h0 e => ?_, fun p hp => ?_⟩, fun a ha h0 => ?_, by rw [h.me]; omega⟩
  · have hb := comp_mem hd ha e
    by_cases h1 : pv ps a = P
    · rw [h1]; exact full b ((h.mine a ha h1).trans e)
    · have h2 : pv ps b ≠ P := fun h3 => h1 ((cls a ha).2 ((h.mine b hb h3).trans (comp_symm hd ha e)))
      rw [h.old a ha h1, h.old b hb h2]
      rw [h.old a ha h1] at h0
      exact h.base.same a b ha e h0
  · by_cases h1 : pv ps a = P
    · rw [h1] at e
      exact (comp_symm hd h.hc (h.mine a ha h1)).trans (h.mine b hb e.symm)
    · have h2 : pv ps b ≠ P := fun h3 => h1 (by rw [e, h3])
      rw [h.old a ha h1, h.old b hb h2] at e
      rw [h.old a ha h1] at h0
      exact h.base.conn a b ha hb h0 e
  · by_cases h1 : p = P
    · exact ⟨c, h.hc, by rw [h.me, h1]⟩
    · obtain ⟨a, ha, e⟩ := h.base.all p (by omega)
      refine ⟨a, ha, ?_⟩
      by_cases h2 : pv ps a = P
      · have := h.base.none hd h.hc h.new (h.mine a ha h2)
        omega
      · rw [h.old a ha h2, e]
  · by_cases h1 : pv ps a = P
    · rw [h1]; omega
    · rw [h.old a ha h1]; exact h0
end Go.Proofs.Ytobbepmlmbbamaa.Pl
