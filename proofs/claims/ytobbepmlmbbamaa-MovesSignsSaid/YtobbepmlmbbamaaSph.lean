/-
  Plain Lean: the faces of a diagram, marked one by one; the rule of faces by labels. No program is named here.
-/
import Derived.Test.YtobbepmlmbbamaaLab
namespace Go.Proofs.Ytobbepmlmbbamaa.Pl
variable {d : Dg}

noncomputable def vb (p : Prop) : Bool := open Classical in decide p
theorem vb_true {p : Prop} (h : p) : vb p = true := by unfold vb; simpa using h
theorem vb_false {p : Prop} (h : ¬ p) : vb p = false := by unfold vb; simpa using h
theorem vb_iff {p : Prop} : vb p = true ↔ p := by unfold vb; simp

theorem Wf.nxb (hd : Wf d) : Bij (4 * d.n) (dart d) (nx d) := hd.hm.pb
def gb (bs : List Bool) (g : Nat) : Bool := bs.getD g false
theorem gb_set {bs : List Bool} {i : Nat} (hi : i < bs.length) (v : Bool) (a : Nat) : gb (bs.set i v) a = if a = i then v else gb bs a := by
  unfold gb
  rw [List.getD_eq_getElem?_getD, List.getD_eq_getElem?_getD, List.getElem?_set]
  by_cases h : i = a
  · subst h; simp [hi]
  · rw [if_neg h, if_neg (fun e => h e.symm)]
def uns (bs : List Bool) : Nat := bs.countP (fun b => !b)
theorem uns_set {bs : List Bool} {i : Nat} (hi : i < bs.length) (hn : gb bs i = false) : uns (bs.set i true) + 1 = uns bs := by
  have e : gb bs i = bs[i] := by unfold gb; rw [List.getD_eq_getElem?_getD, List.getElem?_eq_getElem hi]; rfl
  have hb : bs[i] = false := by rw [← e, hn]
  have hp : 0 < uns bs := by
    unfold uns
    rw [List.countP_pos_iff]
    exact ⟨bs[i], List.getElem_mem hi, by rw [hb]; rfl⟩
  unfold uns at hp ⊢
  rw [List.countP_set hi, hb]
  simp only [Bool.not_false, if_true, Bool.not_true, Bool.false_eq_true, if_false]
  omega

/-- Marked are the faces of the half-edges below k. -/
structure SQ (d : Dg) (k : Nat) (bs : List Bool) : Prop where
  len : bs.length = 4 * d.n
  iff : ∀ g, g < 4 * d.n → (gb bs g = true ↔ ∃ h, h < k ∧ Orb (nx d) h g)
theorem SQ.start (d : Dg) : SQ d 0 (List.replicate (4 * d.n) false) := by
  refine ⟨by simp, fun g hg => ?_⟩
  have : gb (List.replicate (4 * d.n) false) g = false := by
    unfold gb; rw [List.getD_eq_getElem?_getD, List.getElem?_replicate, if_pos hg]; rfl
  rw [this]
  exact ⟨fun h => (Bool.false_ne_true h).elim, fun ⟨h, h1, _⟩ => by omega⟩
/-- .. and the first i half-edges of the face of k. -/
structure SI (d : Dg) (k i : Nat) (bs : List Bool) : Prop where
  len : bs.length = 4 * d.n
  hk : k < 4 * d.n
  new : ¬ ∃ h, h < k ∧ Orb (nx d) h k
  iff : ∀ g, g < 4 * d.n → (gb bs g = true ↔ (∃ h, h < k ∧ Orb (nx d) h g) ∨ ∃ j, j < i ∧ it (nx d) j k = g)
theorem SQ.seen (hd : Wf d) {k : Nat} {bs : List Bool} (h : SQ d k bs) (hk : k < 4 * d.n) (hs : gb bs k = true) : SQ d (k + 1) bs ∧ ¬ Least (nx d) k := by
  obtain ⟨h0, h1, h2⟩ := (h.iff k hk).1 hs
  have h0n : h0 < 4 * d.n := by omega
  refine ⟨⟨h.len, fun g hg => (h.iff g hg).trans ⟨fun ⟨x, hx, e⟩ => ⟨x, by omega, e⟩, fun ⟨x, hx, e⟩ => ?_⟩⟩, fun hl => ?_⟩
  · by_cases e2 : x = k
    · subst e2; exact ⟨h0, h1, h2.trans e⟩
    · exact ⟨x, by omega, e⟩
  · obtain ⟨j, hj⟩ := hd.nxb.symm h0n h2
    have := hl j
    omega
theorem SQ.enter (hd : Wf d) {k : Nat} {bs : List Bool} (h : SQ d k bs) (hk : k < 4 * d.n) (hs : gb bs k = false) : SI d k 0 bs ∧ Least (nx d) k := by
  have hn : ¬ ∃ h, h < k ∧ Orb (nx d) h k := fun e => by rw [(h.iff k hk).2 e] at hs; cases hs
  refine ⟨⟨h.len, hk, hn, fun g hg => (h.iff g hg).trans ⟨.inl, fun e => e.resolve_right (fun ⟨j, hj, _⟩ => by omega)⟩⟩, fun j => ?_⟩
  refine Nat.le_of_not_lt fun hlt => hn ⟨_, hlt, hd.nxb.symm hk ⟨j, rfl⟩⟩
theorem SI.lt (hd : Wf d) {k i : Nat} {bs : List Bool} (h : SI d k i bs) : it (nx d) i k < 4 * d.n := hd.nxb.it i k h.hk
theorem SI.step (hd : Wf d) {k i : Nat} {bs : List Bool} (h : SI d k i bs) : SI d k (i + 1) (bs.set (it (nx d) i k) true) := by
  have hl : it (nx d) i k < bs.length := by rw [h.len]; exact h.lt hd
  refine ⟨by rw [List.length_set, h.len], h.hk, h.new, fun g hg => ?_⟩
  rw [gb_set hl]
  by_cases e : g = it (nx d) i k
  · rw [if_pos e]
    exact ⟨fun _ => .inr ⟨i, by omega, e.symm⟩, fun _ => rfl⟩
  · rw [if_neg e, h.iff g hg]
    constructor
    · rintro (h1 | ⟨j, hj, e1⟩)
      · exact .inl h1
      · exact .inr ⟨j, by omega, e1⟩
    · rintro (h1 | ⟨j, hj, e1⟩)
      · exact .inl h1
      · by_cases e2 : j = i
        · subst e2; exact absurd e1.symm e
        · exact .inr ⟨j, by omega, e1⟩
theorem SI.done (hd : Wf d) {k i : Nat} {bs : List Bool} (h : SI d k i bs) (hs : gb bs (it (nx d) i k) = true) : SQ d (k + 1) bs := by
  have hb := hd.nxb
  -- the face has come back
  have hback : ∃ p, 0 < p ∧ p ≤ i ∧ it (nx d) p k = k := by
    rcases (h.iff _ (h.lt hd)).1 hs with ⟨x, hx, e⟩ | ⟨j, hj, e⟩
    · exact absurd ⟨x, hx, e.trans (hb.symm h.hk ⟨i, rfl⟩)⟩ h.new
    · refine ⟨i - j, by omega, by omega, ?_⟩
      have e2 : it (nx d) i k = it (nx d) j (it (nx d) (i - j) k) := by rw [← it_add, Nat.add_sub_cancel' (by omega)]
      rw [e2] at e
      exact (hb.it_inj j _ _ h.hk (hb.it _ k h.hk) e).symm
  obtain ⟨p, hp, hpi, e⟩ := hback
  have all : ∀ g, Orb (nx d) k g → ∃ j, j < i ∧ it (nx d) j k = g := by
    intro g hg
    have : ∃ j, j < p ∧ it (nx d) j k = g := orb_closed (P := fun g => ∃ j, j < p ∧ it (nx d) j k = g) (fun z ⟨j, hj, ej⟩ => by
      by_cases e3 : j + 1 = p
      · refine ⟨0, hp, ?_⟩
        rw [← ej]
        show k = it (nx d) (j + 1) k
        rw [e3, e]
      · exact ⟨j + 1, by omega, by rw [← ej]; rfl⟩) ⟨0, hp, rfl⟩ hg
    obtain ⟨j, hj, ej⟩ := this
    exact ⟨j, by omega, ej⟩
  refine ⟨h.len, fun g hg => (h.iff g hg).trans ⟨?_, ?_⟩⟩
  · rintro (⟨x, hx, e1⟩ | ⟨j, _, e1⟩)
    · exact ⟨x, by omega, e1⟩
    · exact ⟨k, by omega, j, e1⟩
  · rintro ⟨x, hx, e1⟩
    by_cases e2 : x = k
    · subst e2; exact .inr (all g e1)
    · exact .inl ⟨x, by omega, e1⟩

/-- How many crossings a label has, and how many faces. -/
noncomputable def nv (ps : List Int) (p k : Nat) : Nat := cnt (fun a => pv ps a = p) k
noncomputable def nf (d : Dg) (ps : List Int) (p k : Nat) : Nat := cnt (fun h => Least (nx d) h ∧ pv ps (h / 4) = p) k
/-- The numbers of the rule while they are counted. -/
def Ex (d : Dg) (ps es : List Int) (P k m : Nat) : Prop := es.length = P ∧ ∀ p, p < P → pv es p = (nf d ps p m : Int) - (nv ps p k : Int)
theorem Ex.start (d : Dg) (ps : List Int) (P : Nat) : Ex d ps (List.replicate P 0) P 0 0 := by
  refine ⟨by simp, fun p hp => ?_⟩
  have : pv (List.replicate P 0) p = 0 := by
    unfold pv; rw [List.getD_eq_getElem?_getD, List.getElem?_replicate, if_pos hp]; rfl
  rw [this]
  simp [nf, nv, cnt]
theorem Ex.less {ps es : List Int} {P k : Nat} (h : Ex d ps es P k 0) {q : Nat} (hq : q < P) (e : pv ps k = q) : Ex d ps (es.set q (pv es q - 1)) P (k + 1) 0 := by
  refine ⟨by rw [List.length_set, h.1], fun p hp => ?_⟩
  rw [pv_set (by rw [h.1]; exact hq)]
  have hp0 := h.2 p hp
  by_cases e2 : p = q
  · subst e2
    rw [if_pos rfl, hp0]
    unfold nv
    rw [cnt_step_pos e]; omega
  · rw [if_neg e2, hp0]
    unfold nv
    rw [cnt_step_neg (fun e3 => e2 (by rw [e] at e3; omega))]
theorem Ex.more {ps es : List Int} {P k m : Nat} (h : Ex d ps es P k m) {q : Nat} (hq : q < P) (e : pv ps (m / 4) = q) (hl : Least (nx d) m) : Ex d ps (es.set q (pv es q + 1)) P k (m + 1) := by
  refine ⟨by rw [List.length_set, h.1], fun p hp => ?_⟩
  rw [pv_set (by rw [h.1]; exact hq)]
  have hp0 := h.2 p hp
  by_cases e2 : p = q
  · subst e2
    rw [if_pos rfl, hp0]
    unfold nf
    rw [cnt_step_pos ⟨hl, e⟩]; omega
  · rw [if_neg e2, hp0]
    unfold nf
    rw [cnt_step_neg (fun e3 => e2 (by have := e3.2; rw [e] at this; omega))]
theorem Ex.same {ps es : List Int} {P k m : Nat} (h : Ex d ps es P k m) (hl : ¬ Least (nx d) m) : Ex d ps es P k (m + 1) := by
  refine ⟨h.1, fun p hp => ?_⟩
  rw [h.2 p hp]
  unfold nf
  rw [cnt_step_neg (fun e3 => hl e3.1)]
/-- The rule of faces. -/
def Rule (d : Dg) : Prop := ∀ c, c < d.n → cnt (fun h => Least (nx d) h ∧ Comp d c (h / 4)) (4 * d.n) = cnt (fun b => Comp d c b) d.n + 2
theorem Ex.rule (hd : Wf d) {ps es : List Int} {P : Nat} (hb : LB d ps P) (hall : ∀ a, a < d.n → 0 ≤ pv ps a) (h : Ex d ps es P d.n (4 * d.n)) : (∀ p, p < P → pv es p = 2) ↔ Rule d := by
  have key : ∀ c p : Nat, c < d.n → pv ps c = p → nf d ps p (4 * d.n) = cnt (fun h => Least (nx d) h ∧ Comp d c (h / 4)) (4 * d.n) ∧ nv ps p d.n = cnt (fun b => Comp d c b) d.n := by
    intro c p hc e
    have one : ∀ b, b < d.n → (pv ps b = p ↔ Comp d c b) := fun b hb' => ⟨fun e2 => hb.conn c b hc hb' (hall c hc) (by rw [e, e2]), fun e2 => by rw [hb.same c b hc e2 (hall c hc), e]⟩
    refine ⟨cnt_congr _ (fun x hx => ?_), cnt_congr _ (fun x hx => one x hx)⟩
    rw [one (x / 4) (by omega)]
  constructor
  · intro h2 c hc
    have hlo := hb.lo c hc
    have h0 := hall c hc
    obtain ⟨p, hp⟩ : ∃ p : Nat, pv ps c = p := ⟨(pv ps c).toNat, by omega⟩
    obtain ⟨k1, k2⟩ := key c p hc hp
    have h3 := h2 p (by omega)
    rw [h.2 p (by omega), k1, k2] at h3
    omega
  · intro h2 p hp
    obtain ⟨c, hc, e⟩ := hb.all p hp
    obtain ⟨k1, k2⟩ := key c p hc e
    rw [h.2 p hp, k1, k2, h2 c hc]
    omega
end Go.Proofs.Ytobbepmlmbbamaa.Pl
