/-
  The texts Slr, Slv, Unc, Und, Unk in one.
-/
import Derived.Test.YtghdiolnonejaaaB02
import Derived.Test.YtghdiolnonejaaaB00
set_option linter.unusedVariables false
set_option linter.unusedSimpArgs false

section
namespace Go.Proofs.Ytghdiolnonejaaa.Pl
/-- The exchange of places at a triangle. -/
def tau (h0 h1 h2 p0 p1 p2 u0 u1 u2 v0 v1 v2 x : Nat) : Nat :=
  if x = h0 then v1 else if x = h1 then v2 else if x = h2 then v0 else if x = p0 then u2 else if x = p1 then u0 else if x = p2 then u1 else if x = u0 then p1 else if x = u1 then p2 else if x = u2 then p0 else if x = v0 then h2 else if x = v1 then h0 else if x = v2 then h1 else x
theorem nd12 {h0 h1 h2 p0 p1 p2 u0 u1 u2 v0 v1 v2 : Nat} (h : [h0, h1, h2, p0, p1, p2, u0, u1, u2, v0, v1, v2].Nodup) : h0 ≠ h1 ∧ h0 ≠ h2 ∧ h0 ≠ p0 ∧ h0 ≠ p1 ∧ h0 ≠ p2 ∧ h0 ≠ u0 ∧ h0 ≠ u1 ∧ h0 ≠ u2 ∧ h0 ≠ v0 ∧ h0 ≠ v1 ∧ h0 ≠ v2 ∧ h1 ≠ h2 ∧ h1 ≠ p0 ∧ h1 ≠ p1 ∧ h1 ≠ p2 ∧ h1 ≠ u0 ∧ h1 ≠ u1 ∧ h1 ≠ u2 ∧ h1 ≠ v0 ∧ h1 ≠ v1 ∧ h1 ≠ v2 ∧ h2 ≠ p0 ∧ h2 ≠ p1 ∧ h2 ≠ p2 ∧ h2 ≠ u0 ∧ h2 ≠ u1 ∧ h2 ≠ u2 ∧ h2 ≠ v0 ∧ h2 ≠ v1 ∧ h2 ≠ v2 ∧ p0 ≠ p1 ∧ p0 ≠ p2 ∧ p0 ≠ u0 ∧ p0 ≠ u1 ∧ p0 ≠ u2 ∧ p0 ≠ v0 ∧ p0 ≠ v1 ∧ p0 ≠ v2 ∧ p1 ≠ p2 ∧ p1 ≠ u0 ∧ p1 ≠ u1 ∧ p1 ≠ u2 ∧ p1 ≠ v0 ∧ p1 ≠ v1 ∧ p1 ≠ v2 ∧ p2 ≠ u0 ∧ p2 ≠ u1 ∧ p2 ≠ u2 ∧ p2 ≠ v0 ∧ p2 ≠ v1 ∧ p2 ≠ v2 ∧ u0 ≠ u1 ∧ u0 ≠ u2 ∧ u0 ≠ v0 ∧ u0 ≠ v1 ∧ u0 ≠ v2 ∧ u1 ≠ u2 ∧ u1 ≠ v0 ∧ u1 ≠ v1 ∧ u1 ≠ v2 ∧ u2 ≠ v0 ∧ u2 ≠ v1 ∧ u2 ≠ v2 ∧ v0 ≠ v1 ∧ v0 ≠ v2 ∧ v1 ≠ v2 := by
  simp only [List.nodup_cons, List.mem_cons, List.not_mem_nil, or_false, not_or, not_false_eq_true, List.nodup_nil, and_true] at h
  obtain ⟨⟨a0_1, a0_2, a0_3, a0_4, a0_5, a0_6, a0_7, a0_8, a0_9, a0_10, a0_11⟩, ⟨a1_2, a1_3, a1_4, a1_5, a1_6, a1_7, a1_8, a1_9, a1_10, a1_11⟩, ⟨a2_3, a2_4, a2_5, a2_6, a2_7, a2_8, a2_9, a2_10, a2_11⟩, ⟨a3_4, a3_5, a3_6, a3_7, a3_8, a3_9, a3_10, a3_11⟩, ⟨a4_5, a4_6, a4_7, a4_8, a4_9, a4_10, a4_11⟩, ⟨a5_6, a5_7, a5_8, a5_9, a5_10, a5_11⟩, ⟨a6_7, a6_8, a6_9, a6_10, a6_11⟩, ⟨a7_8, a7_9, a7_10, a7_11⟩, ⟨a8_9, a8_10, a8_11⟩, ⟨a9_10, a9_11⟩, a10_11⟩ := h
  refine ⟨?_, ?_, ?_, ?_, ?_, ?_, ?_, ?_, ?_, ?_, ?_, ?_, ?_, ?_, ?_, ?_, ?_, ?_, ?_, ?_, ?_, ?_, ?_, ?_, ?_, ?_, ?_, ?_, ?_, ?_, ?_, ?_, ?_, ?_, ?_, ?_, ?_, ?_, ?_, ?_, ?_, ?_, ?_, ?_, ?_, ?_, ?_, ?_, ?_, ?_, ?_, ?_, ?_, ?_, ?_, ?_, ?_, ?_, ?_, ?_, ?_, ?_, ?_, ?_, ?_, ?_⟩ <;> assumption
theorem tau_h0 {h0 h1 h2 p0 p1 p2 u0 u1 u2 v0 v1 v2 : Nat} (h : [h0, h1, h2, p0, p1, p2, u0, u1, u2, v0, v1, v2].Nodup) : tau h0 h1 h2 p0 p1 p2 u0 u1 u2 v0 v1 v2 h0 = v1 := by
  obtain ⟨a0_1, a0_2, a0_3, a0_4, a0_5, a0_6, a0_7, a0_8, a0_9, a0_10, a0_11, a1_2, a1_3, a1_4, a1_5, a1_6, a1_7, a1_8, a1_9, a1_10, a1_11, a2_3, a2_4, a2_5, a2_6, a2_7, a2_8, a2_9, a2_10, a2_11, a3_4, a3_5, a3_6, a3_7, a3_8, a3_9, a3_10, a3_11, a4_5, a4_6, a4_7, a4_8, a4_9, a4_10, a4_11, a5_6, a5_7, a5_8, a5_9, a5_10, a5_11, a6_7, a6_8, a6_9, a6_10, a6_11, a7_8, a7_9, a7_10, a7_11, a8_9, a8_10, a8_11, a9_10, a9_11, a10_11⟩ := nd12 h
  unfold tau
  rw [if_pos rfl]
theorem tau_h1 {h0 h1 h2 p0 p1 p2 u0 u1 u2 v0 v1 v2 : Nat} (h : [h0, h1, h2, p0, p1, p2, u0, u1, u2, v0, v1, v2].Nodup) : tau h0 h1 h2 p0 p1 p2 u0 u1 u2 v0 v1 v2 h1 = v2 := by
  obtain ⟨a0_1, a0_2, a0_3, a0_4, a0_5, a0_6, a0_7, a0_8, a0_9, a0_10, a0_11, a1_2, a1_3, a1_4, a1_5, a1_6, a1_7, a1_8, a1_9, a1_10, a1_11, a2_3, a2_4, a2_5, a2_6, a2_7, a2_8, a2_9, a2_10, a2_11, a3_4, a3_5, a3_6, a3_7, a3_8, a3_9, a3_10, a3_11, a4_5, a4_6, a4_7, a4_8, a4_9, a4_10, a4_11, a5_6, a5_7, a5_8, a5_9, a5_10, a5_11, a6_7, a6_8, a6_9, a6_10, a6_11, a7_8, a7_9, a7_10, a7_11, a8_9, a8_10, a8_11, a9_10, a9_11, a10_11⟩ := nd12 h
  unfold tau
  rw [if_neg (Ne.symm a0_1), if_pos rfl]
theorem tau_h2 {h0 h1 h2 p0 p1 p2 u0 u1 u2 v0 v1 v2 : Nat} (h : [h0, h1, h2, p0, p1, p2, u0, u1, u2, v0, v1, v2].Nodup) : tau h0 h1 h2 p0 p1 p2 u0 u1 u2 v0 v1 v2 h2 = v0 := by
  obtain ⟨a0_1, a0_2, a0_3, a0_4, a0_5, a0_6, a0_7, a0_8, a0_9, a0_10, a0_11, a1_2, a1_3, a1_4, a1_5, a1_6, a1_7, a1_8, a1_9, a1_10, a1_11, a2_3, a2_4, a2_5, a2_6, a2_7, a2_8, a2_9, a2_10, a2_11, a3_4, a3_5, a3_6, a3_7, a3_8, a3_9, a3_10, a3_11, a4_5, a4_6, a4_7, a4_8, a4_9, a4_10, a4_11, a5_6, a5_7, a5_8, a5_9, a5_10, a5_11, a6_7, a6_8, a6_9, a6_10, a6_11, a7_8, a7_9, a7_10, a7_11, a8_9, a8_10, a8_11, a9_10, a9_11, a10_11⟩ := nd12 h
  unfold tau
  rw [if_neg (Ne.symm a0_2), if_neg (Ne.symm a1_2), if_pos rfl]
theorem tau_p0 {h0 h1 h2 p0 p1 p2 u0 u1 u2 v0 v1 v2 : Nat} (h : [h0, h1, h2, p0, p1, p2, u0, u1, u2, v0, v1, v2].Nodup) : tau h0 h1 h2 p0 p1 p2 u0 u1 u2 v0 v1 v2 p0 = u2 := by
  obtain ⟨a0_1, a0_2, a0_3, a0_4, a0_5, a0_6, a0_7, a0_8, a0_9, a0_10, a0_11, a1_2, a1_3, a1_4, a1_5, a1_6, a1_7, a1_8, a1_9, a1_10, a1_11, a2_3, a2_4, a2_5, a2_6, a2_7, a2_8, a2_9, a2_10, a2_11, a3_4, a3_5, a3_6, a3_7, a3_8, a3_9, a3_10, a3_11, a4_5, a4_6, a4_7, a4_8, a4_9, a4_10, a4_11, a5_6, a5_7, a5_8, a5_9, a5_10, a5_11, a6_7, a6_8, a6_9, a6_10, a6_11, a7_8, a7_9, a7_10, a7_11, a8_9, a8_10, a8_11, a9_10, a9_11, a10_11⟩ := nd12 h
  unfold tau
  rw [if_neg (Ne.symm a0_3), if_neg (Ne.symm a1_3), if_neg (Ne.symm a2_3), if_pos rfl]
theorem tau_p1 {h0 h1 h2 p0 p1 p2 u0 u1 u2 v0 v1 v2 : Nat} (h : [h0, h1, h2, p0, p1, p2, u0, u1, u2, v0, v1, v2].Nodup) : tau h0 h1 h2 p0 p1 p2 u0 u1 u2 v0 v1 v2 p1 = u0 := by
  obtain ⟨a0_1, a0_2, a0_3, a0_4, a0_5, a0_6, a0_7, a0_8, a0_9, a0_10, a0_11, a1_2, a1_3, a1_4, a1_5, a1_6, a1_7, a1_8, a1_9, a1_10, a1_11, a2_3, a2_4, a2_5, a2_6, a2_7, a2_8, a2_9, a2_10, a2_11, a3_4, a3_5, a3_6, a3_7, a3_8, a3_9, a3_10, a3_11, a4_5, a4_6, a4_7, a4_8, a4_9, a4_10, a4_11, a5_6, a5_7, a5_8, a5_9, a5_10, a5_11, a6_7, a6_8, a6_9, a6_10, a6_11, a7_8, a7_9, a7_10, a7_11, a8_9, a8_10, a8_11, a9_10, a9_11, a10_11⟩ := nd12 h
  unfold tau
  rw [if_neg (Ne.symm a0_4), if_neg (Ne.symm a1_4), if_neg (Ne.symm a2_4), if_neg (Ne.symm a3_4), if_pos rfl]
theorem tau_p2 {h0 h1 h2 p0 p1 p2 u0 u1 u2 v0 v1 v2 : Nat} (h : [h0, h1, h2, p0, p1, p2, u0, u1, u2, v0, v1, v2].Nodup) : tau h0 h1 h2 p0 p1 p2 u0 u1 u2 v0 v1 v2 p2 = u1 := by
  obtain ⟨a0_1, a0_2, a0_3, a0_4, a0_5, a0_6, a0_7, a0_8, a0_9, a0_10, a0_11, a1_2, a1_3, a1_4, a1_5, a1_6, a1_7, a1_8, a1_9, a1_10, a1_11, a2_3, a2_4, a2_5, a2_6, a2_7, a2_8, a2_9, a2_10, a2_11, a3_4, a3_5, a3_6, a3_7, a3_8, a3_9, a3_10, a3_11, a4_5, a4_6, a4_7, a4_8, a4_9, a4_10, a4_11, a5_6, a5_7, a5_8, a5_9, a5_10, a5_11, a6_7, a6_8, a6_9, a6_10, a6_11, a7_8, a7_9, a7_10, a7_11, a8_9, a8_10, a8_11, a9_10, a9_11, a10_11⟩ := nd12 h
  unfold tau
  rw [if_neg (Ne.symm a0_5), if_neg (Ne.symm a1_5), if_neg (Ne.symm a2_5), if_neg (Ne.symm a3_5), if_neg (Ne.symm a4_5), if_pos rfl]
theorem tau_u0 {h0 h1 h2 p0 p1 p2 u0 u1 u2 v0 v1 v2 : Nat} (h : [h0, h1, h2, p0, p1, p2, u0, u1, u2, v0, v1, v2].Nodup) : tau h0 h1 h2 p0 p1 p2 u0 u1 u2 v0 v1 v2 u0 = p1 := by
  obtain ⟨a0_1, a0_2, a0_3, a0_4, a0_5, a0_6, a0_7, a0_8, a0_9, a0_10, a0_11, a1_2, a1_3, a1_4, a1_5, a1_6, a1_7, a1_8, a1_9, a1_10, a1_11, a2_3, a2_4, a2_5, a2_6, a2_7, a2_8, a2_9, a2_10, a2_11, a3_4, a3_5, a3_6, a3_7, a3_8, a3_9, a3_10, a3_11, a4_5, a4_6, a4_7, a4_8, a4_9, a4_10, a4_11, a5_6, a5_7, a5_8, a5_9, a5_10, a5_11, a6_7, a6_8, a6_9, a6_10, a6_11, a7_8, a7_9, a7_10, a7_11, a8_9, a8_10, a8_11, a9_10, a9_11, a10_11⟩ := nd12 h
  unfold tau
  rw [if_neg (Ne.symm a0_6), if_neg (Ne.symm a1_6), if_neg (Ne.symm a2_6), if_neg (Ne.symm a3_6), if_neg (Ne.symm a4_6), if_neg (Ne.symm a5_6), if_pos rfl]
theorem tau_u1 {h0 h1 h2 p0 p1 p2 u0 u1 u2 v0 v1 v2 : Nat} (h : [h0, h1, h2, p0, p1, p2, u0, u1, u2, v0, v1, v2].Nodup) : tau h0 h1 h2 p0 p1 p2 u0 u1 u2 v0 v1 v2 u1 = p2 := by
  obtain ⟨a0_1, a0_2, a0_3, a0_4, a0_5, a0_6, a0_7, a0_8, a0_9, a0_10, a0_11, a1_2, a1_3, a1_4, a1_5, a1_6, a1_7, a1_8, a1_9, a1_10, a1_11, a2_3, a2_4, a2_5, a2_6, a2_7, a2_8, a2_9, a2_10, a2_11, a3_4, a3_5, a3_6, a3_7, a3_8, a3_9, a3_10, a3_11, a4_5, a4_6, a4_7, a4_8, a4_9, a4_10, a4_11, a5_6, a5_7, a5_8, a5_9, a5_10, a5_11, a6_7, a6_8, a6_9, a6_10, a6_11, a7_8, a7_9, a7_10, a7_11, a8_9, a8_10, a8_11, a9_10, a9_11, a10_11⟩ := nd12 h
  unfold tau
  rw [if_neg (Ne.symm a0_7), if_neg (Ne.symm a1_7), if_neg (Ne.symm a2_7), if_neg (Ne.symm a3_7), if_neg (Ne.symm a4_7), if_neg (Ne.symm a5_7), if_neg (Ne.symm a6_7), if_pos rfl]
theorem tau_u2 {h0 h1 h2 p0 p1 p2 u0 u1 u2 v0 v1 v2 : Nat} (h : [h0, h1, h2, p0, p1, p2, u0, u1, u2, v0, v1, v2].Nodup) : tau h0 h1 h2 p0 p1 p2 u0 u1 u2 v0 v1 v2 u2 = p0 := by
  obtain ⟨a0_1, a0_2, a0_3, a0_4, a0_5, a0_6, a0_7, a0_8, a0_9, a0_10, a0_11, a1_2, a1_3, a1_4, a1_5, a1_6, a1_7, a1_8, a1_9, a1_10, a1_11, a2_3, a2_4, a2_5, a2_6, a2_7, a2_8, a2_9, a2_10, a2_11, a3_4, a3_5, a3_6, a3_7, a3_8, a3_9, a3_10, a3_11, a4_5, a4_6, a4_7, a4_8, a4_9, a4_10, a4_11, a5_6, a5_7, a5_8, a5_9, a5_10, a5_11, a6_7, a6_8, a6_9, a6_10, a6_11, a7_8, a7_9, a7_10, a7_11, a8_9, a8_10, a8_11, a9_10, a9_11, a10_11⟩ := nd12 h
  unfold tau
  rw [if_neg (Ne.symm a0_8), if_neg (Ne.symm a1_8), if_neg (Ne.symm a2_8), if_neg (Ne.symm a3_8), if_neg (Ne.symm a4_8), if_neg (Ne.symm a5_8), if_neg (Ne.symm a6_8), if_neg (Ne.symm a7_8), if_pos rfl]
theorem tau_v0 {h0 h1 h2 p0 p1 p2 u0 u1 u2 v0 v1 v2 : Nat} (h : [h0, h1, h2, p0, p1, p2, u0, u1, u2, v0, v1, v2].Nodup) : tau h0 h1 h2 p0 p1 p2 u0 u1 u2 v0 v1 v2 v0 = h2 := by
  obtain ⟨a0_1, a0_2, a0_3, a0_4, a0_5, a0_6, a0_7, a0_8, a0_9, a0_10, a0_11, a1_2, a1_3, a1_4, a1_5, a1_6, a1_7, a1_8, a1_9, a1_10, a1_11, a2_3, a2_4, a2_5, a2_6, a2_7, a2_8, a2_9, a2_10, a2_11, a3_4, a3_5, a3_6, a3_7, a3_8, a3_9, a3_10, a3_11, a4_5, a4_6, a4_7, a4_8, a4_9, a4_10, a4_11, a5_6, a5_7, a5_8, a5_9, a5_10, a5_11, a6_7, a6_8, a6_9, a6_10, a6_11, a7_8, a7_9, a7_10, a7_11, a8_9, a8_10, a8_11, a9_10, a9_11, a10_11⟩ := nd12 h
  unfold tau
  rw [if_neg (Ne.symm a0_9), if_neg (Ne.symm a1_9), if_neg (Ne.symm a2_9), if_neg (Ne.symm a3_9), if_neg (Ne.symm a4_9), if_neg (Ne.symm a5_9), if_neg (Ne.symm a6_9), if_neg (Ne.symm a7_9), if_neg (Ne.symm a8_9), if_pos rfl]
theorem tau_v1 {h0 h1 h2 p0 p1 p2 u0 u1 u2 v0 v1 v2 : Nat} (h : [h0, h1, h2, p0, p1, p2, u0, u1, u2, v0, v1, v2].Nodup) : tau h0 h1 h2 p0 p1 p2 u0 u1 u2 v0 v1 v2 v1 = h0 := by
  obtain ⟨a0_1, a0_2, a0_3, a0_4, a0_5, a0_6, a0_7, a0_8, a0_9, a0_10, a0_11, a1_2, a1_3, a1_4, a1_5, a1_6, a1_7, a1_8, a1_9, a1_10, a1_11, a2_3, a2_4, a2_5, a2_6, a2_7, a2_8, a2_9, a2_10, a2_11, a3_4, a3_5, a3_6, a3_7, a3_8, a3_9, a3_10, a3_11, a4_5, a4_6, a4_7, a4_8, a4_9, a4_10, a4_11, a5_6, a5_7, a5_8, a5_9, a5_10, a5_11, a6_7, a6_8, a6_9, a6_10, a6_11, a7_8, a7_9, a7_10, a7_11, a8_9, a8_10, a8_11, a9_10, a9_11, a10_11⟩ := nd12 h
  unfold tau
  rw [if_neg (Ne.symm a0_10), if_neg (Ne.symm a1_10), if_neg (Ne.symm a2_10), if_neg (Ne.symm a3_10), if_neg (Ne.symm a4_10), if_neg (Ne.symm a5_10), if_neg (Ne.symm a6_10), if_neg (Ne.symm a7_10), if_neg (Ne.symm a8_10), if_neg (Ne.symm a9_10), if_pos rfl]
theorem tau_v2 {h0 h1 h2 p0 p1 p2 u0 u1 u2 v0 v1 v2 : Nat} (h : [h0, h1, h2, p0, p1, p2, u0, u1, u2, v0, v1, v2].Nodup) : tau h0 h1 h2 p0 p1 p2 u0 u1 u2 v0 v1 v2 v2 = h1 := by
  obtain ⟨a0_1, a0_2, a0_3, a0_4, a0_5, a0_6, a0_7, a0_8, a0_9, a0_10, a0_11, a1_2, a1_3, a1_4, a1_5, a1_6, a1_7, a1_8, a1_9, a1_10, a1_11, a2_3, a2_4, a2_5, a2_6, a2_7, a2_8, a2_9, a2_10, a2_11, a3_4, a3_5, a3_6, a3_7, a3_8, a3_9, a3_10, a3_11, a4_5, a4_6, a4_7, a4_8, a4_9, a4_10, a4_11, a5_6, a5_7, a5_8, a5_9, a5_10, a5_11, a6_7, a6_8, a6_9, a6_10, a6_11, a7_8, a7_9, a7_10, a7_11, a8_9, a8_10, a8_11, a9_10, a9_11, a10_11⟩ := nd12 h
  unfold tau
  rw [if_neg (Ne.symm a0_11), if_neg (Ne.symm a1_11), if_neg (Ne.symm a2_11), if_neg (Ne.symm a3_11), if_neg (Ne.symm a4_11), if_neg (Ne.symm a5_11), if_neg (Ne.symm a6_11), if_neg (Ne.symm a7_11), if_neg (Ne.symm a8_11), if_neg (Ne.symm a9_11), if_neg (Ne.symm a10_11), if_pos rfl]
theorem tau_x {h0 h1 h2 p0 p1 p2 u0 u1 u2 v0 v1 v2 x : Nat} (h : x ∉ [h0, h1, h2, p0, p1, p2, u0, u1, u2, v0, v1, v2]) : tau h0 h1 h2 p0 p1 p2 u0 u1 u2 v0 v1 v2 x = x := by
  simp only [List.mem_cons, List.not_mem_nil, or_false, not_or] at h
  obtain ⟨a0, a1, a2, a3, a4, a5, a6, a7, a8, a9, a10, a11⟩ := h
  unfold tau
  rw [if_neg a0, if_neg a1, if_neg a2, if_neg a3, if_neg a4, if_neg a5, if_neg a6, if_neg a7, if_neg a8, if_neg a9, if_neg a10, if_neg a11]
/-- Three corners of a face, at three crossings: a triangle. -/
theorem tri_of {d : Dg} (hd : Wf d) {h0 h1 h2 : Nat} (l0 : h0 < 4 * d.n) (e0 : nx d h0 = h1) (e1 : nx d h1 = h2) (e2 : nx d h2 = h0) (c01 : h0 / 4 ≠ h1 / 4) (c12 : h1 / 4 ≠ h2 / 4) (c02 : h0 / 4 ≠ h2 / 4) :
    Tri (dart d) rot d.m (tau h0 h1 h2 (tn h0 1) (tn h1 1) (tn h2 1) (tn h0 2) (tn h1 2) (tn h2 2) (tn h0 3) (tn h1 3) (tn h2 3)) h0 h1 h2 (tn h0 1) (tn h1 1) (tn h2 1) (tn h0 2) (tn h1 2) (tn h2 2) (tn h0 3) (tn h1 3) (tn h2 3) := by
  have l1 : h1 < 4 * d.n := by rw [← e0]; exact tn_lt (hd.lt _ l0)
  have l2 : h2 < 4 * d.n := by rw [← e1]; exact tn_lt (hd.lt _ l1)
  have nd : [h0, h1, h2, tn h0 1, tn h1 1, tn h2 1, tn h0 2, tn h1 2, tn h2 2, tn h0 3, tn h1 3, tn h2 3].Nodup := by
    simp only [List.nodup_cons, List.mem_cons, List.not_mem_nil, or_false, not_or, not_false_eq_true, List.nodup_nil, and_true]
    unfold tn
    omega
  have am : ∀ {x y}, nx d x = y → d.m x = tn y 1 := fun {x y} e => by rw [← e]; unfold nx; rw [tn_tn, tn_four]
  have r1 : ∀ x j, j < 4 → rot (tn x (j + 1)) = tn x j := fun x j hj => by unfold rot; rw [tn_tn]; unfold tn; omega
  have back : ∀ {x y}, x < 4 * d.n → nx d x = y → d.m (tn y 1) = x := fun {x y} hx e => by rw [← am e, hd.inv x hx]
  refine ⟨fun x hx => ?_, r1 h0 2 (by omega), r1 h1 2 (by omega), r1 h2 2 (by omega), r1 h0 1 (by omega), r1 h1 1 (by omega), r1 h2 1 (by omega), ?_, ?_, ?_, rfl, rfl, rfl, am e0, am e1, am e2, back l0 e0, back l1 e1, back l2 e2, nd,
    tau_u0 nd, tau_u1 nd, tau_u2 nd, tau_p1 nd, tau_p2 nd, tau_p0 nd, tau_v0 nd, tau_v1 nd, tau_v2 nd, tau_h2 nd, tau_h0 nd, tau_h1 nd, fun x hx => tau_x hx⟩
  · unfold dart
    simp only [List.mem_cons, List.not_mem_nil, or_false] at hx
    rcases hx with rfl | rfl | rfl | rfl | rfl | rfl | rfl | rfl | rfl | rfl | rfl | rfl <;> first | assumption | (exact tn_lt l0) | (exact tn_lt l1) | (exact tn_lt l2)
  · have := r1 h0 0 (by omega); rwa [tn_zero] at this
  · have := r1 h1 0 (by omega); rwa [tn_zero] at this
  · have := r1 h2 0 (by omega); rwa [tn_zero] at this
theorem set_getD (l : List Nat) (a b x : Nat) (ha : a < l.length) : (l.set a b).getD x 0 = if x = a then b else l.getD x 0 := by
  rw [List.getD_eq_getElem?_getD, List.getElem?_set, List.getD_eq_getElem?_getD]
  by_cases h : a = x
  · subst h; simp [ha]
  · rw [if_neg h, if_neg (Ne.symm h)]
theorem jn_getD (l : List Nat) (a b x : Nat) (ha : a < l.length) (hb : b < l.length) : ((l.set a b).set b a).getD x 0 = if x = b then a else if x = a then b else l.getD x 0 := by
  rw [set_getD _ _ _ _ (by simpa using hb), set_getD _ _ _ _ ha]
/-- Mates joined one after the other, all by one rule g: each place has the old mate or the new. -/
def Half (N : Nat) (m g : Nat → Nat) (W : Nat → Prop) (l : List Nat) : Prop := l.length = N ∧ ∀ x, x < N → l.getD x 0 = g x ∨ (l.getD x 0 = m x ∧ ¬ W x)
theorem Half.join {N : Nat} {m g : Nat → Nat} {W : Nat → Prop} {l : List Nat} (h : Half N m g W l) {a b : Nat} (ha : a < N) (hb : b < N) (e1 : g a = b) (e2 : g b = a) : Half N m g (fun x => W x ∨ x = a ∨ x = b) ((l.set a b).set b a) := by
  refine ⟨by simp [h.1], fun x hx => ?_⟩
  rw [jn_getD l a b x (by rw [h.1]; exact ha) (by rw [h.1]; exact hb)]
  by_cases h1 : x = b
  · rw [if_pos h1]; exact .inl (by rw [h1, e2])
  · rw [if_neg h1]
    by_cases h2 : x = a
    · rw [if_pos h2]; exact .inl (by rw [h2, e1])
    · rw [if_neg h2]
      rcases h.2 x hx with h3 | ⟨h3, h4⟩
      · exact .inl h3
      · exact .inr ⟨h3, fun h => h.elim h4 (fun h => h.elim h2 h1)⟩
theorem Half.mono {N : Nat} {m g : Nat → Nat} {W W' : Nat → Prop} {l : List Nat} (h : Half N m g W l) (hw : ∀ x, W' x → W x) : Half N m g W' l :=
  ⟨h.1, fun x hx => (h.2 x hx).imp id (fun h => ⟨h.1, fun hh => h.2 (hw x hh)⟩)⟩
theorem Half.all {N : Nat} {m g : Nat → Nat} {W : Nat → Prop} {l : List Nat} (h : Half N m g W l) (ha : ∀ x, x < N → W x ∨ m x = g x) : ∀ x, x < N → l.getD x 0 = g x := fun x hx => by
  rcases h.2 x hx with h1 | ⟨h1, h2⟩
  · exact h1
  · rcases ha x hx with h3 | h3
    · exact absurd h3 h2
    · rw [h1, h3]
end Go.Proofs.Ytghdiolnonejaaa.Pl
end

section
namespace Go.Proofs.Ytghdiolnonejaaa.Pl
theorem out_opp {d : Dg} (hd : Wf d) {h : Nat} (hh : h < 4 * d.n) : out d (tn h 2) = !out d h := by
  have s := hd.sign (h / 4) (by omega)
  unfold out
  rw [tn_div, tn_mod]
  generalize d.s (h / 4) = s at *
  have ha : h % 4 = 0 ∨ h % 4 = 1 ∨ h % 4 = 2 ∨ h % 4 = 3 := by omega
  rcases ha with a | a | a | a <;> rw [a] <;> rcases s with rfl | rfl <;> rfl
/-- Three half-edges of a face, at three crossings. -/
structure Tr (d : Dg) (h0 h1 h2 : Nat) : Prop where
  l0 : h0 < 4 * d.n
  e0 : nx d h0 = h1
  e1 : nx d h1 = h2
  e2 : nx d h2 = h0
  c01 : h0 / 4 ≠ h1 / 4
  c12 : h1 / 4 ≠ h2 / 4
  c02 : h0 / 4 ≠ h2 / 4
def tu (h0 h1 h2 x : Nat) : Nat := tau h0 h1 h2 (tn h0 1) (tn h1 1) (tn h2 1) (tn h0 2) (tn h1 2) (tn h2 2) (tn h0 3) (tn h1 3) (tn h2 3) x
theorem Tr.tri {d : Dg} (hd : Wf d) {h0 h1 h2 : Nat} (t : Tr d h0 h1 h2) : Tri (dart d) rot d.m (tu h0 h1 h2) h0 h1 h2 (tn h0 1) (tn h1 1) (tn h2 1) (tn h0 2) (tn h1 2) (tn h2 2) (tn h0 3) (tn h1 3) (tn h2 3) := tri_of hd t.l0 t.e0 t.e1 t.e2 t.c01 t.c12 t.c02
theorem Tr.out {d : Dg} (hd : Wf d) {h0 h1 h2 : Nat} (t : Tr d h0 h1 h2) {x : Nat} (hx : x < 4 * d.n) : Pl.out d (tu h0 h1 h2 x) = Pl.out d x := by
  have T := t.tri hd
  have l1 : h1 < 4 * d.n := T.mem h1 (by simp)
  have l2 : h2 < 4 * d.n := T.mem h2 (by simp)
  -- a half-edge and the one across the crossing of its mate
  have key : ∀ {h h' : Nat}, h < 4 * d.n → d.m h = tn h' 1 → h' < 4 * d.n → Pl.out d (tn h 2) = Pl.out d (tn h' 1) ∧ Pl.out d (tn h' 3) = Pl.out d h := by
    intro h h' hh e hh'
    have w := hd.way h hh
    rw [e] at w
    have o1 := out_opp hd hh
    have o2 := out_opp hd (show tn h' 1 < 4 * d.n from tn_lt hh')
    rw [tn_tn] at o2
    constructor
    · rw [o1]; cases q : Pl.out d h <;> cases q' : Pl.out d (tn h' 1) <;> rw [q, q'] at w <;> first | rfl | exact absurd rfl w
    · rw [o2]; cases q : Pl.out d h <;> cases q' : Pl.out d (tn h' 1) <;> rw [q, q'] at w <;> first | rfl | exact absurd rfl w
  obtain ⟨a0, b0⟩ := key t.l0 T.ah0 l1
  obtain ⟨a1, b1⟩ := key l1 T.ah1 l2
  obtain ⟨a2, b2⟩ := key l2 T.ah2 t.l0
  by_cases hm : x ∈ [h0, h1, h2, tn h0 1, tn h1 1, tn h2 1, tn h0 2, tn h1 2, tn h2 2, tn h0 3, tn h1 3, tn h2 3]
  · simp only [List.mem_cons, List.not_mem_nil, or_false] at hm
    rcases hm with e | e | e | e | e | e | e | e | e | e | e | e <;> rw [e]
    · rw [T.th0, b0]
    · rw [T.th1, b1]
    · rw [T.th2, b2]
    · rw [T.tp0, a2]
    · rw [T.tp1, a0]
    · rw [T.tp2, a1]
    · rw [T.tu0, a0]
    · rw [T.tu1, a1]
    · rw [T.tu2, a2]
    · rw [T.tv0, b2]
    · rw [T.tv1, b0]
    · rw [T.tv2, b1]
  · rw [T.tx x hm]
/-- A slide keeps a diagram valid. -/
theorem Tr.valid {d d' : Dg} (hd : Valid d) {h0 h1 h2 : Nat} (t : Tr d h0 h1 h2) (sg : d'.sg = d.sg) (lp : d'.lp = d.lp) (len : d'.mt.length = 4 * d.n) (hm : ∀ x, x < 4 * d.n → d'.m x = cj (tu h0 h1 h2) d.m x) : Valid d' := by
  have hv := Valid.iff.1 hd
  have T := t.tri hv.1
  have hn : d'.n = d.n := by unfold Dg.n; rw [sg]
  have hs : ∀ c, d'.s c = d.s c := fun c => by unfold Dg.s; rw [sg]
  have ho : ∀ x, Pl.out d' x = Pl.out d x := fun x => out_old (hs _)
  have hj := hv.1.hm.cj (t := tu h0 h1 h2) T.tS (fun x _ => T.tt x)
  have tl : ∀ x, x < 4 * d.n → tu h0 h1 h2 x < 4 * d.n := fun x hx => T.tS x hx
  refine Valid.iff.2 ⟨wf_by (by rw [hn]; exact hv.1.few) (by rw [hn]; exact len) (by rw [lp]; exact hv.1.lp) (fun c hc => by rw [hs]; exact hv.1.sign c (by rw [← hn]; exact hc)) (fun z hz => ?_), ?_⟩
  · rw [hn] at hz ⊢
    have hz2 : cj (tu h0 h1 h2) d.m z < 4 * d.n := hj.ab.maps z hz
    rw [hm z hz, hm _ hz2, ho, ho]
    refine ⟨hz2, hj.inv z hz, ?_⟩
    unfold cj
    have h1 := tl z hz
    rw [t.out hv.1 (hv.1.lt _ h1), ← t.out hv.1 hz]
    exact hv.1.way _ h1
  · have hg := T.gen hv.1.hm hv.2
    have e : dart d' = dart d := by funext x; unfold dart; rw [hn]
    rw [e]
    exact Gen.congr (hj.congr (fun _ _ => rfl) (fun _ _ => rfl) |> fun _ => (⟨hv.1.hm.rb, hj.ab, hj.inv⟩ : Hm (4 * d.n) (dart d) rot (cj (tu h0 h1 h2) d.m))) (fun _ _ => rfl) (fun x hx => (hm x hx).symm) hg
end Go.Proofs.Ytghdiolnonejaaa.Pl
end

section
namespace Go.Proofs.Ytghdiolnonejaaa.Pl
variable {d : Dg}
theorem rot_rot (h : Nat) : rot (rot h) = tn h 2 := by unfold rot; rw [tn_tn]; unfold tn; omega
theorem st_bij (hd : Wf d) : Bij (4 * d.n) (dart d) (st d) :=
  ⟨fun _ h => h, fun x hx => tn_lt (hd.lt x hx), fun x y hx hy e => hd.bij.inj x y hx hy (tn_inj e)⟩
theorem out_st (hd : Wf d) {h : Nat} (hh : h < 4 * d.n) : out d (st d h) = out d h := by
  unfold st
  rw [out_opp hd (hd.lt h hh), out_way hd hh, Bool.not_not]
theorem out_it (hd : Wf d) {h : Nat} (hh : h < 4 * d.n) : ∀ k, out d (it (st d) k h) = out d h
  | 0 => rfl
  | k + 1 => by
    show out d (st d (it (st d) k h)) = _
    rw [out_st hd ((st_bij hd).it k h hh), out_it hd hh k]
theorem least_back {N : Nat} {S : Nat → Prop} {f : Nat → Nat} (h : Bij N S f) {x : Nat} (hx : S x) : ∃ p, 0 < p ∧ it f p x = x ∧ ∀ j, 0 < j → j < p → it f j x ≠ x := by
  obtain ⟨p, p0, _, e⟩ := h.back hx
  obtain ⟨q, ⟨q0, hq⟩, hmin⟩ := least_of (p := fun k => 0 < k ∧ it f k x = x) p ⟨p0, e⟩
  exact ⟨q, q0, hq, fun j j0 jq e2 => by have := hmin j ⟨j0, e2⟩; omega⟩
/-- No edge joins two opposite half-edges. -/
theorem no_opp (hd : Valid d) {o : Nat} (ho : o < 4 * d.n) : d.m o ≠ tn o 2 := by
  intro he
  have hv := Valid.iff.1 hd
  have hw := hv.1
  have hm := hw.hm
  have ho2 : tn o 2 < 4 * d.n := tn_lt ho
  have hne : o ≠ tn o 2 := fun e => hw.ne o ho (by rw [he]; exact e.symm)
  -- the half-edge q of the other strand that comes in, p that goes out
  obtain ⟨p, q, hpq, hqp, hcase, hop, hoq⟩ : ∃ p q, q = tn p 2 ∧ p = tn q 2 ∧ (q = tn o 1 ∨ q = tn o 3) ∧ out d p = true ∧ out d q = false := by
    have h1 : out d (tn (tn o 1) 2) = !out d (tn o 1) := out_opp hw (tn_lt ho)
    rw [tn_tn] at h1
    cases e : out d (tn o 1) with
    | true => exact ⟨tn o 1, tn o 3, by rw [tn_tn], by rw [tn_tn]; unfold tn; omega, .inr rfl, e, by rw [h1, e]; rfl⟩
    | false => exact ⟨tn o 3, tn o 1, by rw [tn_tn]; unfold tn; omega, by rw [tn_tn], .inl rfl, by rw [h1, e]; rfl, e⟩
  have hq : q < 4 * d.n := by rcases hcase with rfl | rfl <;> exact tn_lt ho
  have hp : p < 4 * d.n := by rw [hqp]; exact tn_lt hq
  have qo : q ≠ o := by rcases hcase with rfl | rfl <;> (unfold tn; omega)
  have qo2 : q ≠ tn o 2 := by rcases hcase with rfl | rfl <;> (unfold tn; omega)
  have po : p ≠ o := by rw [hqp]; rcases hcase with rfl | rfl <;> (unfold tn; omega)
  have po2 : p ≠ tn o 2 := by rw [hqp]; rcases hcase with rfl | rfl <;> (unfold tn; omega)
  obtain ⟨y, hy⟩ : ∃ y, y = d.m q := ⟨_, rfl⟩
  have hyl : y < 4 * d.n := by rw [hy]; exact hw.lt q hq
  have hyq : d.m y = q := by rw [hy, hw.inv q hq]
  have yo : y ≠ o := fun e => by rw [e, he] at hyq; exact qo2 hyq.symm
  have hmo2 : d.m (tn o 2) = o := by rw [← he, hw.inv o ho]
  have yo2 : y ≠ tn o 2 := fun e => by rw [e, hmo2] at hyq; exact qo hyq.symm
  have qy : q ≠ y := fun e => hw.ne q hq (by rw [← hy]; exact e.symm)
  -- without the edge o
  obtain ⟨c1, c2, c3⟩ := Hm.cut hm ho (hw.ne o ho)
  rw [he] at c1 c2 c3
  obtain ⟨a0, ha0⟩ : ∃ a0, a0 = tr d.m o (tn o 2) := ⟨_, rfl⟩
  rw [← ha0] at c1 c2 c3
  have a0e : tr a0 o (tn o 2) = d.m := by rw [ha0, tr_tr]
  obtain ⟨f0, k0⟩ := Flat.del c1 ho ho2 hne c2 c3 (by rw [a0e]; exact hv.2)
  have a0q : a0 q = y := by rw [ha0, tr_ne qo qo2, hy]
  have a0y : a0 y = q := by rw [ha0, tr_ne yo yo2, hyq]
  -- and without the edge q
  obtain ⟨d1, d2, d3⟩ := Hm.cut c1 hq (by rw [a0q]; exact Ne.symm qy)
  rw [a0q] at d1 d2 d3
  obtain ⟨a1, ha1⟩ : ∃ a1, a1 = tr a0 q y := ⟨_, rfl⟩
  rw [← ha1] at d1 d2 d3
  have a1e : tr a1 q y = a0 := by rw [ha1, tr_tr]
  obtain ⟨f1, k1⟩ := Flat.del d1 hq hyl qy d2 d3 (by rw [a1e]; exact f0)
  have a1z : ∀ z, z ≠ o → z ≠ tn o 2 → z ≠ q → z ≠ y → a1 z = d.m z := fun z z1 z2 z3 z4 => by rw [ha1, tr_ne z3 z4, ha0, tr_ne z1 z2]
  have rr : ∀ z, Con rot a1 z (tn z 2) := fun z => by rw [← rot_rot]; exact (Con.refl.left).left
  -- the strand of p comes back along q's edge
  have hsb := st_bij hw
  have fo : st d o = o := by unfold st; rw [he, tn_tn]; exact tn_four o
  have fo2 : st d (tn o 2) = tn o 2 := by unfold st; rw [hmo2]
  obtain ⟨k, kp, ke, kl⟩ := least_back hsb (x := p) hp
  have run : ∀ j, j < k → Con rot a1 p (it (st d) j p) := by
    intro j
    induction j with
    | zero => intro _; exact .refl
    | succ j ih =>
      intro hj
      have h1 := ih (by omega)
      have hz := hsb.it j p hp
      obtain ⟨z, ez⟩ : ∃ z, z = it (st d) j p := ⟨_, rfl⟩
      show Con rot a1 p (st d (it (st d) j p))
      rw [← ez] at h1 hz ⊢
      have hfix : ∀ w, dart d w → st d w = w → z ≠ w → True := fun _ _ _ _ => trivial
      have zo : z ≠ o := fun e => by
        have e2 : it (st d) j p = it (st d) j o := by
          rw [← ez, e]
          have : ∀ i, it (st d) i o = o := fun i => by
            induction i with
            | zero => rfl
            | succ i ih => show st d (it (st d) i o) = o; rw [ih, fo]
          exact (this j).symm
        exact po (hsb.it_inj j p o hp ho e2)
      have zo2 : z ≠ tn o 2 := fun e => by
        have e2 : it (st d) j p = it (st d) j (tn o 2) := by
          rw [← ez, e]
          have : ∀ i, it (st d) i (tn o 2) = tn o 2 := fun i => by
            induction i with
            | zero => rfl
            | succ i ih => show st d (it (st d) i (tn o 2)) = tn o 2; rw [ih, fo2]
          exact (this j).symm
        exact po2 (hsb.it_inj j p _ hp ho2 e2)
      have zq : z ≠ q := fun e => by
        have := out_it hw hp j
        rw [← ez, e, hop, hoq] at this
        exact absurd this (by decide)
      have zy : z ≠ y := fun e => by
        apply kl (j + 1) (by omega) hj
        show st d (it (st d) j p) = p
        rw [← ez, e]
        unfold st
        rw [hyq, ← hqp]
      have e3 : a1 z = d.m z := a1z z zo zo2 zq zy
      have h2 : Con rot a1 p (d.m z) := by rw [← e3]; exact h1.right
      exact h2.trans (rr (d.m z))
  have hlast : it (st d) (k - 1) p = y := by
    have e : st d (it (st d) (k - 1) p) = p := by
      have : it (st d) (k - 1 + 1) p = p := by rw [show k - 1 + 1 = k by omega]; exact ke
      exact this
    have hz := hsb.it (k - 1) p hp
    have e2 : st d y = p := by unfold st; rw [hyq, ← hqp]
    exact hsb.inj _ _ hz hyl (e.trans e2.symm)
  have cpy : Con rot a1 p y := by have := run (k - 1) (by omega); rwa [hlast] at this
  have cqy : Con rot a1 q y := by
    have := rr q
    rw [← hqp] at this
    exact this.trans cpy
  have hn : ¬ Orb (phi rot a0) q y := by
    rw [← a1e, phi_tr]
    exact d1.pb.part hq hyl qy (k1 cqy)
  have coo : Con rot a0 o (tn o 2) := by rw [← rot_rot]; exact (Con.refl.left).left
  have ooo := k0 coo
  have py : phi rot a0 y = rot q := by unfold phi; rw [a0y]
  have po' : phi rot a0 o = rot o := by unfold phi; rw [c2]
  have po2' : phi rot a0 (tn o 2) = rot (tn o 2) := by unfold phi; rw [c3]
  have sym := fun {x y} (hx : dart d x) (e : Orb (phi rot a0) x y) => c1.pb.symm hx e
  rcases hcase with e | e
  · -- q = tn o 1: o2 goes to q, y goes to o
    have s1 : Orb (phi rot a0) (tn o 2) q := by
      have := Orb.step (phi rot a0) (tn o 2)
      rw [po2', show rot (tn o 2) = q by rw [e]; unfold rot; rw [tn_tn]; unfold tn; omega] at this
      exact this
    have s2 : Orb (phi rot a0) y o := by
      have := Orb.step (phi rot a0) y
      rw [py, show rot q = o by rw [e]; unfold rot; rw [tn_tn]; exact tn_four o] at this
      exact this
    exact hn (sym hyl (s2.trans (ooo.trans s1)))
  · have s1 : Orb (phi rot a0) o q := by
      have := Orb.step (phi rot a0) o
      rw [po', show rot o = q by rw [e]; rfl] at this
      exact this
    have s2 : Orb (phi rot a0) y (tn o 2) := by
      have := Orb.step (phi rot a0) y
      rw [py, show rot q = tn o 2 by rw [e]; unfold rot; rw [tn_tn]; unfold tn; omega] at this
      exact this
    exact hn (sym hyl (s2.trans ((sym ho ooo).trans s1)))
end Go.Proofs.Ytghdiolnonejaaa.Pl
end

section
namespace Go.Proofs.Ytghdiolnonejaaa.Pl
variable {d : Dg}
theorem tn_ne {h j k : Nat} (e : j % 4 ≠ k % 4) : tn h j ≠ tn h k := by unfold tn; omega
theorem dg_m {d : Dg} (hd : Wf d) {h : Nat} (hh : h < 4 * d.n) : d.mt.getD h 0 = d.m h := by
  unfold Dg.m
  have := hd.len
  rw [List.getD_eq_getElem?_getD, List.getD_eq_getElem?_getD, List.getElem?_eq_getElem (by omega)]
  rfl
/-- The four half-edges of a kink: o and its mate i lie side by side; A and B are across. -/
theorem kink_four (hd : Valid d) {o : Nat} (ho : o < 4 * d.n) (hk : d.m o / 4 = o / 4) : d.m o = tn o 1 ∨ d.m o = tn o 3 := by
  have h1 := no_opp hd ho
  have h2 := (Valid.iff.1 hd).1.ne o ho
  unfold tn at h1 ⊢
  omega
/-- The mates without the kink at o, on an edge: A and B, across o and across its mate, are bypassed. -/
theorem kink_byp (hd : Valid d) {o : Nat} (ho : o < 4 * d.n) (hk : d.m o / 4 = o / 4) (hn : d.m (tn o 2) ≠ tn (d.m o) 2) :
    Hm (4 * d.n) (dart d) rot (byp d.m (tn (d.m o) 2) (tn o 2)) ∧ Flat (dart d) rot (byp d.m (tn (d.m o) 2) (tn o 2)) := by
  have hv := Valid.iff.1 hd
  have hw := hv.1
  have hi := hw.lt o ho
  have hA : tn o 2 < 4 * d.n := tn_lt ho
  have hB : tn (d.m o) 2 < 4 * d.n := tn_lt hi
  have hBA : tn (d.m o) 2 ≠ tn o 2 := fun e => hw.ne o ho (tn_inj e)
  have hmBA : d.m (tn (d.m o) 2) ≠ tn o 2 := fun e => hn (by rw [← e, hw.inv _ hB])
  obtain ⟨c0, c1, c2, c3, c4, c5, c6, c7⟩ := cut2_hm hw.hm hB hA hBA (hw.ne _ hB) (hw.ne _ hA) hmBA
  refine byp_flat hw.hm hB hA hBA (hw.ne _ hB) (hw.ne _ hA) hmBA ?_ hv.2
  rcases kink_four hd ho hk with e | e
  · -- B's next is A
    have s1 := Orb.step (phi rot (cut2 d.m (tn (d.m o) 2) (tn o 2))) (tn (d.m o) 2)
    rw [show phi rot (cut2 d.m (tn (d.m o) 2) (tn o 2)) (tn (d.m o) 2) = tn o 2 by
      unfold phi; rw [c1, e]; unfold rot; rw [tn_tn, tn_tn]; unfold tn; omega] at s1
    exact s1
  · have s1 := Orb.step (phi rot (cut2 d.m (tn (d.m o) 2) (tn o 2))) (tn (d.m o) 2)
    rw [show phi rot (cut2 d.m (tn (d.m o) 2) (tn o 2)) (tn (d.m o) 2) = o by
      unfold phi; rw [c1, e]; unfold rot; rw [tn_tn, tn_tn]; unfold tn; omega] at s1
    have n1 : o ≠ tn (d.m o) 2 := by rw [e, tn_tn]; unfold tn; omega
    have n2 : o ≠ tn o 2 := by unfold tn; omega
    have n3 : o ≠ d.m (tn (d.m o) 2) := fun e2 => by
      have : d.m o = tn (d.m o) 2 := by have h := hw.inv _ hB; rw [← e2] at h; exact h
      unfold tn at this; omega
    have n4 : o ≠ d.m (tn o 2) := fun e2 => by
      have : d.m o = tn o 2 := by have h := hw.inv _ hA; rw [← e2] at h; exact h
      exact no_opp hd ho this
    have s2 := Orb.step (phi rot (cut2 d.m (tn (d.m o) 2) (tn o 2))) o
    rw [show phi rot (cut2 d.m (tn (d.m o) 2) (tn o 2)) o = tn o 2 by
      unfold phi; rw [cut2_at _ _ n1 n2 n3 n4, e]; unfold rot; rw [tn_tn]; unfold tn; omega] at s2
    exact s1.trans s2
/-- Without the kink: on an edge. -/
theorem kink_rs (hd : Valid d) {o : Nat} (ho : o < 4 * d.n) (hk : d.m o / 4 = o / 4) (hn : d.m (tn o 2) ≠ tn (d.m o) 2) {mt : List Nat} {lp : Nat} (hl : lp ≤ 64)
    (hmt : ∀ h, h < 4 * d.n → mt.getD h 0 = if h = d.m (tn o 2) then d.m (tn (d.m o) 2) else if h = d.m (tn (d.m o) 2) then d.m (tn o 2) else d.m h) :
    Rs d [o / 4] mt lp (byp d.m (tn (d.m o) 2) (tn o 2)) := by
  have hw := (Valid.iff.1 hd).1
  have hi := hw.lt o ho
  have hA : tn o 2 < 4 * d.n := tn_lt ho
  have hB : tn (d.m o) 2 < 4 * d.n := tn_lt hi
  have hBA : tn (d.m o) 2 ≠ tn o 2 := fun e => hw.ne o ho (tn_inj e)
  have hmBA : d.m (tn (d.m o) 2) ≠ tn o 2 := fun e => hn (by rw [← e, hw.inv _ hB])
  obtain ⟨b1, b2, b3, b4, b5⟩ := byp_at hw.hm hB hA hBA (hw.ne _ hB) (hw.ne _ hA) hmBA
  have q1 : tn o 2 / 4 = o / 4 := tn_div o 2
  have q2 : tn (d.m o) 2 / 4 = o / 4 := by rw [tn_div, hk]
  have four := kink_four hd ho hk
  have inv := hw.inv o ho
  -- the mates of A and B lie elsewhere
  have uA : d.m (tn o 2) / 4 ≠ o / 4 := fun e => by
    have h1 : d.m (tn o 2) = o ∨ d.m (tn o 2) = d.m o ∨ d.m (tn o 2) = tn o 2 ∨ d.m (tn o 2) = tn (d.m o) 2 := by rcases four with h | h <;> rw [h] <;> unfold tn at * <;> omega
    rcases h1 with h | h | h | h
    · have : tn o 2 = d.m o := by have h2 := hw.inv _ hA; rw [h] at h2; exact h2.symm
      exact no_opp hd ho this.symm
    · have := hw.bij.inj _ _ hA ho h; unfold tn at this; omega
    · exact hw.ne _ hA h
    · exact hn h
  have uB : d.m (tn (d.m o) 2) / 4 ≠ o / 4 := fun e => by
    have h1 : d.m (tn (d.m o) 2) = o ∨ d.m (tn (d.m o) 2) = d.m o ∨ d.m (tn (d.m o) 2) = tn o 2 ∨ d.m (tn (d.m o) 2) = tn (d.m o) 2 := by rcases four with h | h <;> rw [h] at e ⊢ <;> unfold tn at * <;> omega
    rcases h1 with h | h | h | h
    · have : tn (d.m o) 2 = d.m o := by have h2 := hw.inv _ hB; rw [h] at h2; exact h2.symm
      unfold tn at this; omega
    · have := hw.bij.inj _ _ hB ho h
      exact no_opp hd hi (by rw [inv]; exact this.symm)
    · exact hmBA h
    · exact hw.ne _ hB h
  refine ⟨by simp, few_one _, (kink_byp hd ho hk hn).1, fun h hg => ?_, fun h hs => ?_, fun h hs => ?_, hl⟩
  · have hc : h / 4 = o / 4 := by simpa using hg.2
    have h1 : h = o ∨ h = d.m o ∨ h = tn o 2 ∨ h = tn (d.m o) 2 := by rcases four with h | h <;> rw [h] <;> unfold tn at * <;> omega
    have t1 : o ≠ tn (d.m o) 2 := by rcases four with h | h <;> rw [h, tn_tn] <;> (unfold tn; omega)
    have t2 : o ≠ tn o 2 := by unfold tn; omega
    have t3 : d.m o ≠ tn (d.m o) 2 := by unfold tn; omega
    have t4 : d.m o ≠ tn o 2 := no_opp hd ho
    rcases h1 with rfl | rfl | rfl | rfl
    · rw [b5 h t1 t2 (fun e => uB (by rw [← e])) (fun e => uA (by rw [← e]))]; simpa using hk
    · rw [b5 _ t3 t4 (fun e => uB (by rw [← e, hk])) (fun e => uA (by rw [← e, hk])), inv]; simp
    · rw [b2]; simpa using q1
    · rw [b1]; simpa using q2
  · have hc : h / 4 ≠ o / 4 := by simpa using hs.2
    rw [hmt h hs.1]
    by_cases e1 : h = d.m (tn o 2)
    · rw [if_pos e1, e1, b4]
    · rw [if_neg e1]
      by_cases e2 : h = d.m (tn (d.m o) 2)
      · rw [if_pos e2, e2, b3]
      · rw [if_neg e2, b5 h (fun e => hc (by rw [e, q2])) (fun e => hc (by rw [e, q1])) e2 e1]
  · have hc : h / 4 ≠ o / 4 := by simpa using hs.2
    have oA : out d (d.m (tn o 2)) = out d o := by rw [out_way hw hA, out_opp hw ho, Bool.not_not]
    have oB : out d (d.m (tn (d.m o) 2)) = !out d o := by rw [out_way hw hB, out_opp hw hi, out_way hw ho, Bool.not_not]
    by_cases e1 : h = d.m (tn o 2)
    · rw [e1, b4, oA, oB]; cases out d o <;> decide
    · by_cases e2 : h = d.m (tn (d.m o) 2)
      · rw [e2, b3, oA, oB]; cases out d o <;> decide
      · rw [b5 h (fun e => hc (by rw [e, q2])) (fun e => hc (by rw [e, q1])) e2 e1]
        exact hw.way h hs.1
/-- Without the kink: on a loop. -/
theorem kink_rs0 (hd : Valid d) {o : Nat} (ho : o < 4 * d.n) (hk : d.m o / 4 = o / 4) (hn : d.m (tn o 2) = tn (d.m o) 2) {lp : Nat} (hl : lp ≤ 64) : Rs d [o / 4] d.mt lp d.m := by
  have hw := (Valid.iff.1 hd).1
  have hi := hw.lt o ho
  have hA : tn o 2 < 4 * d.n := tn_lt ho
  have four := kink_four hd ho hk
  refine ⟨by simp, few_one _, hw.hm, fun h hg => ?_, fun h hs => dg_m hw hs.1, fun h hs => hw.way h hs.1, hl⟩
  have hc : h / 4 = o / 4 := by simpa using hg.2
  have h1 : h = o ∨ h = d.m o ∨ h = tn o 2 ∨ h = tn (d.m o) 2 := by rcases four with h | h <;> rw [h] <;> unfold tn at * <;> omega
  rcases h1 with rfl | rfl | rfl | rfl
  · simpa using hk
  · rw [hw.inv o ho]; simp
  · rw [hn, tn_div, hk]; simp
  · rw [← hn, hw.inv _ hA, tn_div]; simp
theorem kink_valid (hd : Valid d) {o : Nat} (ho : o < 4 * d.n) (hk : d.m o / 4 = o / 4) (hn : d.m (tn o 2) ≠ tn (d.m o) 2) {mt : List Nat} {lp : Nat} (hl : lp ≤ 64)
    (hmt : ∀ h, h < 4 * d.n → mt.getD h 0 = if h = d.m (tn o 2) then d.m (tn (d.m o) 2) else if h = d.m (tn (d.m o) 2) then d.m (tn o 2) else d.m h) : Valid (rsD d [o / 4] mt lp) :=
  (kink_rs hd ho hk hn hl hmt).valid (Valid.iff.1 hd).1 (kink_byp hd ho hk hn).2
theorem kink_valid0 (hd : Valid d) {o : Nat} (ho : o < 4 * d.n) (hk : d.m o / 4 = o / 4) (hn : d.m (tn o 2) = tn (d.m o) 2) {lp : Nat} (hl : lp ≤ 64) : Valid (rsD d [o / 4] d.mt lp) :=
  (kink_rs0 hd ho hk hn hl).valid (Valid.iff.1 hd).1 (Valid.iff.1 hd).2
end Go.Proofs.Ytghdiolnonejaaa.Pl
end

section
namespace Go.Proofs.Ytghdiolnonejaaa.Pl
variable {d : Dg}
/-- Edges lead from outgoing half-edges to incoming ones. -/
def Wy (d : Dg) (b : Nat → Nat) : Prop := ∀ z, z < 4 * d.n → b z ≠ z → out d (b z) = !out d z
theorem wy_m (hd : Wf d) : Wy d d.m := fun z hz _ => out_way hd hz
theorem byp_wy {b : Nat → Nat} (h : Hm (4 * d.n) (dart d) rot b) (hw : Wy d b) {u v : Nat} (hu : u < 4 * d.n) (hv : v < 4 * d.n) (huv : u ≠ v) (nu : b u ≠ u) (nv : b v ≠ v) (nuv : b u ≠ v) (ho : out d v = !out d u) : Wy d (byp b u v) := by
  obtain ⟨b1, b2, b3, b4, b5⟩ := byp_at h hu hv huv nu nv nuv
  intro z hz hne
  by_cases z1 : z = u
  · subst z1; exact absurd b1 hne
  · by_cases z2 : z = v
    · subst z2; exact absurd b2 hne
    · by_cases z3 : z = b u
      · rw [z3, b3, hw u hu nu, hw v hv nv, ho]
      · by_cases z4 : z = b v
        · rw [z4, b4, hw u hu nu, hw v hv nv, ho, Bool.not_not]
        · rw [b5 z z1 z2 z3 z4] at hne ⊢
          exact hw z hz hne
/-- What a lens at h is: its mate u lies at another crossing; the face to the left of h is h and the half-edge behind u. -/
structure Lens (d : Dg) (h u : Nat) : Prop where
  hh : h < 4 * d.n
  m0 : d.m h = u
  m1 : d.m (tn h 1) = tn u 3
  ne : h / 4 ≠ u / 4
/-- One of the two strands closed behind the lens. -/
def cls (b : Nat → Nat) (u v : Nat) : Nat → Nat := if b u = v then b else byp b u v
section
variable {h u : Nat}
theorem Lens.hu (hd : Wf d) (L : Lens d h u) : u < 4 * d.n := by rw [← L.m0]; exact hd.lt h L.hh
theorem Lens.m2 (hd : Wf d) (L : Lens d h u) : d.m u = h := by rw [← L.m0]; exact hd.inv h L.hh
theorem Lens.m3 (hd : Wf d) (L : Lens d h u) : d.m (tn u 3) = tn h 1 := by rw [← L.m1]; exact hd.inv _ (tn_lt L.hh)
/-- The first strand. -/
def lA (d : Dg) (h u : Nat) : Nat → Nat := cls d.m (tn h 2) (tn u 2)
/-- Both. -/
def lB (d : Dg) (h u : Nat) : Nat → Nat := cls (lA d h u) (tn h 3) (tn u 1)
theorem ap {x y : Nat} (e : x / 4 ≠ y / 4) : x ≠ y := fun h => e (by rw [h])
theorem pm {j k h u : Nat} (e : h / 4 ≠ u / 4) : tn h j ≠ tn u k := ap (by rw [tn_div, tn_div]; exact e)
theorem pm0 {j h u : Nat} (e : h / 4 ≠ u / 4) : tn h j ≠ u := ap (by rw [tn_div]; exact e)
theorem pm1 {k h u : Nat} (e : h / 4 ≠ u / 4) : h ≠ tn u k := ap (by rw [tn_div]; exact e)
theorem pmz {h k : Nat} (e : k % 4 ≠ 0) : h ≠ tn h k := by unfold tn; omega
/-- What the first strand's closing leaves. -/
structure LA (d : Dg) (h u : Nat) (b : Nat → Nat) : Prop where
  hm : Hm (4 * d.n) (dart d) rot b
  fl : Flat (dart d) rot b
  wy : Wy d b
  e0 : b h = u
  e1 : b (tn h 1) = tn u 3
  e2 : b u = h
  e3 : b (tn u 3) = tn h 1
  c : (b (tn h 2) = tn u 2 ∧ b (tn u 2) = tn h 2) ∨ (b (tn h 2) = tn h 2 ∧ b (tn u 2) = tn u 2)
  nf : ∀ z, z < 4 * d.n → z ≠ tn h 2 → z ≠ tn u 2 → b z ≠ z
theorem Lens.la (hd : Valid d) (L : Lens d h u) : LA d h u (lA d h u) := by
  have hv := Valid.iff.1 hd
  have hw := hv.1
  have hu := L.hu hw
  have hh := L.hh
  have E := L.ne
  have hA : tn h 2 < 4 * d.n := tn_lt hh
  have hB : tn u 2 < 4 * d.n := tn_lt hu
  have m0 := L.m0
  have m1 := L.m1
  have m2 := L.m2 hw
  have m3 := L.m3 hw
  unfold lA cls
  by_cases hc : d.m (tn h 2) = tn u 2
  · rw [if_pos hc]
    exact ⟨hw.hm, hv.2, wy_m hw, m0, m1, m2, m3, .inl ⟨hc, by rw [← hc, hw.inv _ hA]⟩, fun z hz _ _ => hw.ne z hz⟩
  · rw [if_neg hc]
    have hAB : tn h 2 ≠ tn u 2 := pm E
    have nA := hw.ne _ hA
    have nB := hw.ne _ hB
    obtain ⟨b1, b2, b3, b4, b5⟩ := byp_at hw.hm hA hB hAB nA nB hc
    obtain ⟨c0, c1, c2, c3, c4, c5, c6, c7⟩ := cut2_hm hw.hm hA hB hAB nA nB hc
    -- the four inner half-edges are none of the outer ones' mates
    have ni : ∀ z, z < 4 * d.n → d.m z ≠ tn h 2 → d.m z ≠ tn u 2 → z ≠ d.m (tn h 2) ∧ z ≠ d.m (tn u 2) := fun z hz n1 n2 =>
      ⟨fun e => n1 (by rw [e, hw.inv _ hA]), fun e => n2 (by rw [e, hw.inv _ hB])⟩
    have n0 := ni h hh (by rw [m0]; exact Ne.symm (pm0 E)) (by rw [m0]; exact pmz (by omega))
    have n1 := ni (tn h 1) (tn_lt hh) (by rw [m1]; exact Ne.symm (pm E)) (by rw [m1]; exact tn_ne (by omega))
    have n2 := ni u hu (by rw [m2]; exact pmz (by omega)) (by rw [m2]; exact pm1 E)
    have n3 := ni (tn u 3) (tn_lt hu) (by rw [m3]; exact tn_ne (by omega)) (by rw [m3]; exact pm E)
    have ho : Orb (phi rot (cut2 d.m (tn h 2) (tn u 2))) (tn h 2) (tn u 2) := by
      refine ⟨2, ?_⟩
      show phi rot _ (phi rot _ (tn h 2)) = tn u 2
      have s1 : phi rot (cut2 d.m (tn h 2) (tn u 2)) (tn h 2) = tn h 1 := by unfold phi; rw [c1]; unfold rot; rw [tn_tn]; unfold tn; omega
      have s2 : phi rot (cut2 d.m (tn h 2) (tn u 2)) (tn h 1) = tn u 2 := by
        unfold phi; rw [cut2_at _ _ (tn_ne (by omega)) (pm E) n1.1 n1.2, m1]; unfold rot; rw [tn_tn]; unfold tn; omega
      rw [s1, s2]
    obtain ⟨g1, g2⟩ := byp_flat hw.hm hA hB hAB nA nB hc ho hv.2
    refine ⟨g1, g2, byp_wy hw.hm (wy_m hw) hA hB hAB nA nB hc ?_, ?_, ?_, ?_, ?_, .inr ⟨b1, b2⟩, ?_⟩
    · rw [out_opp hw hu, out_opp hw hh, ← m0, out_way hw hh]
    · rw [b5 h (pmz (by omega)) (pm1 E) n0.1 n0.2, m0]
    · rw [b5 _ (tn_ne (by omega)) (pm E) n1.1 n1.2, m1]
    · rw [b5 u (Ne.symm (pm0 E)) (pmz (by omega)) n2.1 n2.2, m2]
    · rw [b5 _ (Ne.symm (pm E)) (tn_ne (by omega)) n3.1 n3.2, m3]
    · intro z hz z1 z2
      by_cases z3 : z = d.m (tn h 2)
      · rw [z3, b3]; exact Ne.symm c6
      · by_cases z4 : z = d.m (tn u 2)
        · rw [z4, b4]; exact c6
        · rw [b5 z z1 z2 z3 z4]; exact hw.ne z hz
/-- What the closing of both leaves. -/
structure LB2 (d : Dg) (h u : Nat) (b : Nat → Nat) : Prop where
  hm : Hm (4 * d.n) (dart d) rot b
  fl : Flat (dart d) rot b
  wy : Wy d b
  e0 : b h = u
  e1 : b (tn h 1) = tn u 3
  e2 : b u = h
  e3 : b (tn u 3) = tn h 1
  c : (b (tn h 2) = tn u 2 ∧ b (tn u 2) = tn h 2) ∨ (b (tn h 2) = tn h 2 ∧ b (tn u 2) = tn u 2)
  c' : (b (tn h 3) = tn u 1 ∧ b (tn u 1) = tn h 3) ∨ (b (tn h 3) = tn h 3 ∧ b (tn u 1) = tn u 1)
  nf : ∀ z, z < 4 * d.n → z ≠ tn h 2 → z ≠ tn u 2 → z ≠ tn h 3 → z ≠ tn u 1 → b z ≠ z
theorem LA.lb (hw : Wf d) (L : Lens d h u) {a : Nat → Nat} (A : LA d h u a) : LB2 d h u (cls a (tn h 3) (tn u 1)) := by
  have hu := L.hu hw
  have hh := L.hh
  have E := L.ne
  have h3 : tn h 3 < 4 * d.n := tn_lt hh
  have u1 : tn u 1 < 4 * d.n := tn_lt hu
  have n3 := A.nf _ h3 (tn_ne (by omega)) (pm E)
  have n1 := A.nf _ u1 (Ne.symm (pm E)) (tn_ne (by omega))
  unfold cls
  by_cases hc : a (tn h 3) = tn u 1
  · rw [if_pos hc]
    exact ⟨A.hm, A.fl, A.wy, A.e0, A.e1, A.e2, A.e3, A.c, .inl ⟨hc, by rw [← hc, A.hm.inv _ h3]⟩, fun z hz z1 z2 _ _ => A.nf z hz z1 z2⟩
  · rw [if_neg hc]
    have hAB : tn h 3 ≠ tn u 1 := pm E
    obtain ⟨b1, b2, b3, b4, b5⟩ := byp_at A.hm h3 u1 hAB n3 n1 hc
    obtain ⟨c0, c1, c2, c3, c4, c5, c6, c7⟩ := cut2_hm A.hm h3 u1 hAB n3 n1 hc
    have ni : ∀ z, z < 4 * d.n → a z ≠ tn h 3 → a z ≠ tn u 1 → z ≠ a (tn h 3) ∧ z ≠ a (tn u 1) := fun z hz n1 n2 =>
      ⟨fun e => n1 (by rw [e, A.hm.inv _ h3]), fun e => n2 (by rw [e, A.hm.inv _ u1])⟩
    have k0 := ni h hh (by rw [A.e0]; exact Ne.symm (pm0 E)) (by rw [A.e0]; exact pmz (by omega))
    have k1 := ni (tn h 1) (tn_lt hh) (by rw [A.e1]; exact Ne.symm (pm E)) (by rw [A.e1]; exact tn_ne (by omega))
    have k2 := ni u hu (by rw [A.e2]; exact pmz (by omega)) (by rw [A.e2]; exact pm1 E)
    have k3 := ni (tn u 3) (tn_lt hu) (by rw [A.e3]; exact tn_ne (by omega)) (by rw [A.e3]; exact pm E)
    have k4 : tn h 2 ≠ a (tn h 3) ∧ tn h 2 ≠ a (tn u 1) := ni (tn h 2) (tn_lt hh) (by rcases A.c with ⟨e, _⟩ | ⟨e, _⟩ <;> rw [e]; exact Ne.symm (pm E); exact tn_ne (by omega)) (by rcases A.c with ⟨e, _⟩ | ⟨e, _⟩ <;> rw [e]; exact tn_ne (by omega); exact pm E)
    have k5 : tn u 2 ≠ a (tn h 3) ∧ tn u 2 ≠ a (tn u 1) := ni (tn u 2) (tn_lt hu) (by rcases A.c with ⟨_, e⟩ | ⟨_, e⟩ <;> rw [e]; exact tn_ne (by omega); exact Ne.symm (pm E)) (by rcases A.c with ⟨_, e⟩ | ⟨_, e⟩ <;> rw [e]; exact pm E; exact tn_ne (by omega))
    have r2 : cut2 a (tn h 3) (tn u 1) (tn h 2) = a (tn h 2) := cut2_at _ _ (tn_ne (by omega)) (pm E) k4.1 k4.2
    have r5 : cut2 a (tn h 3) (tn u 1) (tn u 2) = a (tn u 2) := cut2_at _ _ (Ne.symm (pm E)) (tn_ne (by omega)) k5.1 k5.2
    have r1 : cut2 a (tn h 3) (tn u 1) (tn h 1) = tn u 3 := by rw [cut2_at _ _ (tn_ne (by omega)) (pm E) k1.1 k1.2, A.e1]
    have s1 : phi rot (cut2 a (tn h 3) (tn u 1)) (tn h 3) = tn h 2 := by unfold phi; rw [c1]; unfold rot; rw [tn_tn]; unfold tn; omega
    have ho : Orb (phi rot (cut2 a (tn h 3) (tn u 1))) (tn h 3) (tn u 1) := by
      rcases A.c with ⟨e, _⟩ | ⟨e, e'⟩
      · have s2 : phi rot (cut2 a (tn h 3) (tn u 1)) (tn h 2) = tn u 1 := by unfold phi; rw [r2, e]; unfold rot; rw [tn_tn]; unfold tn; omega
        refine ⟨2, ?_⟩
        show phi rot _ (phi rot _ (tn h 3)) = tn u 1
        rw [s1, s2]
      · have s2 : phi rot (cut2 a (tn h 3) (tn u 1)) (tn h 2) = tn h 1 := by unfold phi; rw [r2, e]; unfold rot; rw [tn_tn]; unfold tn; omega
        have s3 : phi rot (cut2 a (tn h 3) (tn u 1)) (tn h 1) = tn u 2 := by unfold phi; rw [r1]; unfold rot; rw [tn_tn]; unfold tn; omega
        have s4 : phi rot (cut2 a (tn h 3) (tn u 1)) (tn u 2) = tn u 1 := by unfold phi; rw [r5, e']; unfold rot; rw [tn_tn]; unfold tn; omega
        refine ⟨4, ?_⟩
        show phi rot _ (phi rot _ (phi rot _ (phi rot _ (tn h 3)))) = tn u 1
        rw [s1, s2, s3, s4]
    obtain ⟨g1, g2⟩ := byp_flat A.hm h3 u1 hAB n3 n1 hc ho A.fl
    have w1 : out d (tn u 1) = !out d (tn h 3) := by
      have a1 : out d (tn (tn h 1) 2) = !out d (tn h 1) := out_opp hw (tn_lt hh)
      have a2 : out d (tn (tn u 3) 2) = !out d (tn u 3) := out_opp hw (tn_lt hu)
      rw [tn_tn] at a1 a2
      rw [show tn u (3 + 2) = tn u 1 by unfold tn; omega] at a2
      have a3 := out_way hw (tn_lt (k := 1) hh)
      rw [L.m1] at a3
      rw [a2, a3, ← a1]
    refine ⟨g1, g2, byp_wy A.hm A.wy h3 u1 hAB n3 n1 hc w1, ?_, ?_, ?_, ?_, ?_, .inr ⟨b1, b2⟩, ?_⟩
    · rw [b5 h (pmz (by omega)) (pm1 E) k0.1 k0.2, A.e0]
    · rw [b5 _ (tn_ne (by omega)) (pm E) k1.1 k1.2, A.e1]
    · rw [b5 u (Ne.symm (pm0 E)) (pmz (by omega)) k2.1 k2.2, A.e2]
    · rw [b5 _ (Ne.symm (pm E)) (tn_ne (by omega)) k3.1 k3.2, A.e3]
    · rw [b5 _ (tn_ne (by omega)) (pm E) k4.1 k4.2, b5 _ (Ne.symm (pm E)) (tn_ne (by omega)) k5.1 k5.2]; exact A.c
    · intro z hz z1 z2 z5 z6
      by_cases z3 : z = a (tn h 3)
      · rw [z3, b3]; exact Ne.symm c6
      · by_cases z4 : z = a (tn u 1)
        · rw [z4, b4]; exact c6
        · rw [b5 z z5 z6 z3 z4]; exact A.nf z hz z1 z2
theorem Lens.lb (hd : Valid d) (L : Lens d h u) : LB2 d h u (lB d h u) := (L.la hd).lb (Valid.iff.1 hd).1 L
theorem LB2.rs (hw : Wf d) (L : Lens d h u) {b : Nat → Nat} (B : LB2 d h u b) {x y : Nat} (hxy : x < y) (hx : (x = h / 4 ∧ y = u / 4) ∨ (x = u / 4 ∧ y = h / 4)) {mt : List Nat} {lp : Nat} (hl : lp ≤ 64)
    (hmt : ∀ z, stay d [x, y] z → mt.getD z 0 = b z) : Rs d [x, y] mt lp b := by
  have hin : ∀ z, z / 4 ∈ [x, y] ↔ z / 4 = h / 4 ∨ z / 4 = u / 4 := fun z => by
    rw [List.mem_cons, List.mem_singleton]
    rcases hx with ⟨rfl, rfl⟩ | ⟨rfl, rfl⟩
    · exact Iff.rfl
    · exact Or.comm
  have s0 : ∀ k, tn h k / 4 = h / 4 ∨ tn h k / 4 = u / 4 := fun k => .inl (tn_div h k)
  have s1 : ∀ k, tn u k / 4 = h / 4 ∨ tn u k / 4 = u / 4 := fun k => .inr (tn_div u k)
  refine ⟨by simp; omega, few_two hxy, B.hm, fun z hz => ?_, hmt, fun z hz e => ?_, hl⟩
  · rw [hin]
    rcases (hin z).1 hz.2 with hz2 | hz2
    · have : z = h ∨ z = tn h 1 ∨ z = tn h 2 ∨ z = tn h 3 := by unfold tn; omega
      rcases this with rfl | rfl | rfl | rfl
      · rw [B.e0]; exact .inr rfl
      · rw [B.e1]; exact s1 _
      · rcases B.c with ⟨e, _⟩ | ⟨e, _⟩ <;> rw [e]; exact s1 _; exact s0 _
      · rcases B.c' with ⟨e, _⟩ | ⟨e, _⟩ <;> rw [e]; exact s1 _; exact s0 _
    · have : z = u ∨ z = tn u 1 ∨ z = tn u 2 ∨ z = tn u 3 := by unfold tn; omega
      rcases this with rfl | rfl | rfl | rfl
      · rw [B.e2]; exact .inl rfl
      · rcases B.c' with ⟨_, e⟩ | ⟨_, e⟩ <;> rw [e]; exact s0 _; exact s1 _
      · rcases B.c with ⟨_, e⟩ | ⟨_, e⟩ <;> rw [e]; exact s0 _; exact s1 _
      · rw [B.e3]; exact s0 _
  · have hno : ¬ (z / 4 = h / 4 ∨ z / 4 = u / 4) := fun e => hz.2 ((hin z).2 e)
    have hq : ∀ k, z ≠ tn h k ∧ z ≠ tn u k := fun k => ⟨fun e => hno (by rw [e]; exact s0 k), fun e => hno (by rw [e]; exact s1 k)⟩
    have := B.wy z hz.1 (B.nf z hz.1 (hq 2).1 (hq 2).2 (hq 3).1 (hq 1).2)
    rw [this] at e
    cases h : out d z <;> rw [h] at e <;> exact absurd e (by decide)
theorem Lens.valid (hd : Valid d) (L : Lens d h u) {x y : Nat} (hxy : x < y) (hx : (x = h / 4 ∧ y = u / 4) ∨ (x = u / 4 ∧ y = h / 4)) {mt : List Nat} {lp : Nat} (hl : lp ≤ 64)
    (hmt : ∀ z, stay d [x, y] z → mt.getD z 0 = lB d h u z) : Valid (rsD d [x, y] mt lp) :=
  ((L.lb hd).rs (Valid.iff.1 hd).1 L hxy hx hl hmt).valid (Valid.iff.1 hd).1 (L.lb hd).fl
end
end Go.Proofs.Ytghdiolnonejaaa.Pl
end
