/-
  Plain Lean: a diagram out of lists of integers; when such lists are a valid diagram. No program is named here.
-/
import Derived.Test.YtobbepmlmbbamaaSph
namespace Go.Proofs.Ytobbepmlmbbamaa.Pl

/-- The diagram that the lists would be. -/
def mk (sg mt : List Int) (lp : Int) : Dg := ⟨sg, mt.map Int.toNat, lp.toNat⟩
/-- The lists are a valid diagram. -/
def VL (sg mt : List Int) (lp : Int) : Prop := Valid (mk sg mt lp) ∧ (∀ z, z ∈ mt → 0 ≤ z) ∧ 0 ≤ lp
variable {sg mt : List Int} {lp : Int}
theorem mk_n (sg mt : List Int) (lp : Int) : (mk sg mt lp).n = sg.length := rfl
theorem mk_s (sg mt : List Int) (lp : Int) (c : Nat) : (mk sg mt lp).s c = pv sg c := rfl
theorem mk_m {h : Nat} (hh : h < mt.length) : (mk sg mt lp).m h = (pv mt h).toNat := by
  unfold Dg.m mk pv
  rw [List.getD_eq_getElem?_getD, List.getD_eq_getElem?_getD, List.getElem?_map, List.getElem?_eq_getElem hh]; rfl
theorem nats_mk (h : ∀ z, z ∈ mt → 0 ≤ z) : (mk sg mt lp).mt.map (fun m : Nat => (m : Int)) = mt := by
  unfold mk
  rw [List.map_map]
  refine (List.map_congr_left (fun z hz => ?_)).trans (List.map_id mt)
  have := h z hz
  simp only [Function.comp_apply, id_eq]
  omega
theorem pv_mem {l : List Int} {h : Nat} (hh : h < l.length) : pv l h ∈ l := by
  unfold pv
  rw [List.getD_eq_getElem?_getD, List.getElem?_eq_getElem hh]
  exact List.getElem_mem hh
theorem VL.few (h : VL sg mt lp) : sg.length ≤ 64 := h.1.wf.few
theorem VL.len (h : VL sg mt lp) : mt.length = 4 * sg.length := by have := h.1.wf.len; unfold mk Dg.n at this; simpa using this
theorem VL.loops (h : VL sg mt lp) : 0 ≤ lp ∧ lp ≤ 64 := by
  have h1 := h.1.wf.lp
  have h2 := h.2.2
  unfold mk at h1
  simp only at h1
  omega
theorem VL.sign (h : VL sg mt lp) {c : Nat} (hc : c < sg.length) : pv sg c = 1 ∨ pv sg c = -1 := h.1.wf.sign c hc
theorem VL.mate (h : VL sg mt lp) {k : Nat} (hk : k < mt.length) : 0 ≤ pv mt k ∧ pv mt k < mt.length ∧ pv mt k ≠ k ∧ pv mt (pv mt k).toNat = k ∧ out (mk sg mt lp) k ≠ out (mk sg mt lp) (pv mt k).toNat := by
  have hl := h.len
  have hw := h.1.wf
  have h0 := h.2.1 _ (pv_mem hk)
  have hk4 : k < 4 * (mk sg mt lp).n := by rw [mk_n]; omega
  have h1 := hw.lt k hk4
  have h2 := hw.ne k hk4
  have h3 := hw.inv k hk4
  have h4 := hw.way k hk4
  rw [mk_m hk] at h1 h2 h3 h4
  rw [mk_n] at h1
  have hm : (pv mt k).toNat < mt.length := by omega
  rw [mk_m hm] at h3
  have h5 := h.2.1 _ (pv_mem hm)
  exact ⟨h0, by omega, by omega, by omega, h4⟩
/-- All rules but the sphere's. -/
theorem wf_of (h1 : sg.length ≤ 64) (h2 : mt.length = 4 * sg.length) (h3 : 0 ≤ lp ∧ lp ≤ 64) (h4 : ∀ c, c < sg.length → pv sg c = 1 ∨ pv sg c = -1)
    (h5 : ∀ k, k < mt.length → 0 ≤ pv mt k ∧ pv mt k < mt.length ∧ pv mt k ≠ k ∧ pv mt (pv mt k).toNat = k ∧ out (mk sg mt lp) k ≠ out (mk sg mt lp) (pv mt k).toNat) : Wf (mk sg mt lp) := by
  refine ⟨h1, by unfold mk Dg.n; simpa using h2, by unfold mk; simp only; omega, h4, fun h hh => ?_, fun h hh => ?_, fun h hh => ?_, fun h hh => ?_⟩
  all_goals
    rw [mk_n] at hh
    have hl : h < mt.length := by omega
    obtain ⟨g1, g2, g3, g4, g5⟩ := h5 h hl
    rw [mk_m hl]
  · rw [mk_n]; omega
  · omega
  · rw [mk_m (by omega), g4]; rfl
  · exact g5
theorem VL.of (hw : Wf (mk sg mt lp)) (hp : ∀ z, z ∈ mt → 0 ≤ z) (hl : 0 ≤ lp) : VL sg mt lp ↔ Rule (mk sg mt lp) :=
  ⟨fun h => h.1.flat, fun h => ⟨⟨hw, h⟩, hp, hl⟩⟩
theorem mem_pv {l : List Int} {z : Int} (h : z ∈ l) : ∃ k, k < l.length ∧ pv l k = z := by
  obtain ⟨k, hk, e⟩ := List.mem_iff_getElem.1 h
  exact ⟨k, hk, by unfold pv; rw [List.getD_eq_getElem?_getD, List.getElem?_eq_getElem hk]; exact e⟩
end Go.Proofs.Ytobbepmlmbbamaa.Pl
