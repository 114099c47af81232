/-
  Walks: the reference's Fits; the lists' checks.
-/
import Derived.Test.YtpmegcgmbhhfaaaDoorWa
namespace Go.Proofs.YtpmegcgmbhhfaaaDoor
open Go.RowKit

theorem argFits_false_at {a : ByteArray} {j : Nat} (hj : j < a.size) (h : ¬ ((32 ≤ (a[j].toNat : Int) ∧ (a[j].toNat : Int) ≤ 126) ∨ (a[j].toNat : Int) = 10 ∨ (a[j].toNat : Int) = 9)) : argFits a = false := by
  have := not_all hj (p := argB) (by simpa [argB] using h)
  unfold argFits; rw [this, Bool.and_false]

set_option maxHeartbeats 1000000 in
theorem fits_any (c : Cmd) (B : Option Addr) (m cp : Nat) (w : World) (hs : c.word.size ≤ maxLen) (hss : ∀ a ∈ c.args, a.size ≤ maxLen) (hm : m ≤ maxLen) (ha : StrsAt w B m c.args) :
    Calls Tryd.prog 27 #[.agg #[.string c.word, .slice B m cp]] w fun e w' => e = .returned (.bool (fits c)) ∧ Below w.heap.size w w' := by
  unfold maxLen at hs hm
  obtain ⟨s, ss⟩ := c
  simp only at hs hss ha ⊢
  have Hl := hide ha.len
  by_cases h1 : s.size < 1
  · have := Hl.out
    go_enter Tryd.func27, Tryd.ntmps27
    go_wp2
    go_ret
    exact ⟨ret_bool (by simp [fits]; omega), (Below.refl _ _).alloc (Nat.le_refl _) _⟩
  · by_cases h2 : 20 < s.size
    · have := Hl.out
      go_enter Tryd.func27, Tryd.ntmps27
      go_wp2
      go_ret
      exact ⟨ret_bool (by simp [fits]; omega), (Below.refl _ _).alloc (Nat.le_refl _) _⟩
    · by_cases h3 : 20 < m
      · have := Hl.out
        go_enter Tryd.func27, Tryd.ntmps27
        go_wp2
        go_ret
        exact ⟨ret_bool (by simp [fits]; omega), (Below.refl _ _).alloc (Nat.le_refl _) _⟩
      · have b1 : decide ((s.size : Int) < 1) = false := by simp; omega
        have b2 : decide (20 < (s.size : Int)) = false := by simp; omega
        have b3 : decide (20 < (m : Int)) = false := by simp; omega
        go_enter Tryd.func27, Tryd.ntmps27
        go_wp2
        have hb : Below w.heap.size w (w.alloc (Obj.cells #[Value.string s, Value.slice B m cp] 33)) := ((Below.refl _ _).alloc (Nat.le_refl _) _)
        have hbox0 : (w.alloc (Obj.cells #[Value.string s, Value.slice B m cp] 33)).cell? ⟨w.heap.size, 0, none⟩ = some (.string s) := by go_simp
        have hbox : (w.alloc (Obj.cells #[Value.string s, Value.slice B m cp] 33)).cell? ⟨w.heap.size, 1, none⟩ = some (.slice B m cp) := by go_simp
        generalize w.alloc (Obj.cells #[Value.string s, Value.slice B m cp] 33) = W1 at hb hbox0 hbox ⊢
        go_loop [3] (fun i => ∃ k : Nat, k ≤ s.size ∧ i = .int .i64 k ∧ (s.data.toList.take k).all lowB = true) (fun i => s.size - (intOf i).toNat)
        case atStart => exact ⟨0, Nat.zero_le _, rfl, rfl⟩
        case round =>
          obtain ⟨k, hk, rfl, hall⟩ := hrel
          have Hall := hide hall; clear hall
          by_cases hlt : k < s.size
          · go_wp2
            case roundEnd => exact ⟨⟨k + 1, by omega, by go_num, step_all hlt Hall.out (by simp [lowB]; omega)⟩, by simp [intOf]; omega⟩
            all_goals (go_ret; exact ⟨ret_bool (fits_no_word (not_all hlt (p := lowB) (by simp [lowB]; omega))).symm, hb⟩)
          · have hw := hide (end_all hlt Hall.out)
            clear Hall
            go_wp2
            go_loop [4] (fun i => ∃ k : Nat, k ≤ m ∧ i = .int .i64 k ∧ (ss.take k).all argFits = true) (fun i => m - (intOf i).toNat)
            case atStart => exact ⟨0, Nat.zero_le _, rfl, rfl⟩
            case round =>
              obtain ⟨q, hq, rfl, hall2⟩ := hrel
              have Hall2 := hide hall2; clear hall2
              by_cases hlt2 : q < m
              · obtain ⟨ab, ao, rfl, hc⟩ := (ha.keep hb).at_ hlt2
                have hqs : q < ss.length := by have := Hl.out; omega
                have hsz : (ss[q]'hqs).size ≤ 9223372036854775807 := hss _ (List.getElem_mem _)
                by_cases h4 : 20000 < (ss[q]'hqs).size
                · go_wp2
                  go_ret
                  exact ⟨ret_bool (fits_no_arg (not_allS (k := q) hqs (by simp [argFits]; omega))).symm, hb⟩
                · have h4' : decide (20000 < (((ss[q]'hqs).size : Nat) : Int)) = false := by simp; omega
                  go_wp2
                  go_loop [5] (fun i => ∃ k : Nat, k ≤ (ss[q]'hqs).size ∧ i = .int .i64 k ∧ ((ss[q]'hqs).data.toList.take k).all argB = true) (fun i => (ss[q]'hqs).size - (intOf i).toNat)
                  case atStart => exact ⟨0, Nat.zero_le _, rfl, rfl⟩
                  case round =>
                    obtain ⟨j, hj, rfl, hall3⟩ := hrel
                    have Hall3 := hide hall3; clear hall3
                    by_cases hlt3 : j < (ss[q]'hqs).size
                    · have Hno := hide (fun h => fits_no_arg (c := ⟨s, ss⟩) (not_allS (l := ss) (p := argFits) (k := q) hqs (argFits_false_at hlt3 h)))
                      have Hyes := hide (fun (h : ((32 ≤ (((ss[q]'hqs)[j]'hlt3).toNat : Int) ∧ (((ss[q]'hqs)[j]'hlt3).toNat : Int) ≤ 126) ∨ (((ss[q]'hqs)[j]'hlt3).toNat : Int) = 10 ∨ (((ss[q]'hqs)[j]'hlt3).toNat : Int) = 9)) => step_all (p := argB) hlt3 Hall3.out (by simpa [argB] using h))
                      go_wp2
                      all_goals first
                        | refine ⟨⟨j + 1, by omega, by go_num, Hyes.out ?_⟩, by simp [intOf]; omega⟩
                        | (go_ret; refine ⟨ret_bool (Hno.out ?_).symm, hb⟩)
                      all_goals go_light
                      all_goals first | omega | (simp at *; omega)
                    · have := end_all hlt3 Hall3.out
                      have Hw := hide (take_allS (l := ss) (p := argFits) (k := q) hqs Hall2.out (by simp [argFits, this]; omega))
                      clear this Hall3 h4'
                      go_wp2
                      exact ⟨⟨q + 1, by omega, by go_num, Hw.out⟩, by simp [intOf]; omega⟩
              · have := end_allS (l := ss) (k := q) (by have := Hl.out; omega) Hall2.out
                have Hw := hide (show fits ⟨s, ss⟩ = true by
                  have := Hl.out; have := hw.out
                  simp [fits] at *; simp_all; omega)
                clear this Hall2 hw
                go_wp2
                go_ret
                exact ⟨ret_bool Hw.out.symm, hb⟩

end Go.Proofs.YtpmegcgmbhhfaaaDoor
