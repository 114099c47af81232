/-
  Walks: the lists' checks.
-/
import Derived.Test.YtpmegcgmbhhfaaaDoorWb
namespace Go.Proofs.YtpmegcgmbhhfaaaDoor
open Go.RowKit

/-- Every string that the list holds is no longer than Go allows. -/
def CmdsFit (cs : List Cmd) : Prop := ∀ c ∈ cs, c.word.size ≤ maxLen ∧ (∀ a ∈ c.args, a.size ≤ maxLen)

theorem take_allC {l : List Cmd} {p : Cmd → Bool} {k : Nat} (hk : k < l.length) (ha : (l.take k).all p = true) (h : p l[k] = true) : (l.take (k + 1)).all p = true := by
  rw [List.take_succ_eq_append_getElem hk, List.all_append]; simp_all
theorem not_allC {l : List Cmd} {p : Cmd → Bool} {k : Nat} (hk : k < l.length) (h : p l[k] = false) : l.all p = false := by
  rw [List.all_eq_false]; exact ⟨l[k], List.getElem_mem hk, by simp [h]⟩
theorem end_allC {l : List Cmd} {p : Cmd → Bool} {k : Nat} (hk : ¬ k < l.length) (ha : (l.take k).all p = true) : l.all p = true := by
  rw [← ha, List.take_of_length_le (by omega)]

set_option maxHeartbeats 1000000 in
theorem Valid_any (cs : List Cmd) (A : Option Addr) (n cp : Nat) (w : World) (hf : CmdsFit cs) (hn : n ≤ maxLen) (hc : CmdsAt w A n cs) :
    Calls Tryd.prog 11 #[.slice A n cp] w fun e w' => e = .returned (.bool (decide (cs.length ≤ 1000) && cs.all fits)) ∧ Below w.heap.size w w' := by
  unfold maxLen at hn
  have Hl := hide hc.len
  by_cases h1 : 1000 < n
  · go_enter Tryd.func11, Tryd.ntmps11
    go_wp2
    go_ret
    exact ⟨ret_bool (by have := Hl.out; simp; omega), Below.refl _ _⟩
  · have h1' : decide (1000 < (n : Int)) = false := by simp; omega
    go_enter Tryd.func11, Tryd.ntmps11
    go_wp2
    go_loopw [10] (fun i wr => ∃ k : Nat, k ≤ n ∧ i = .int .i64 k ∧ (cs.take k).all fits = true ∧ Below w.heap.size w wr) (fun i _ => n - (intOf i).toNat)
    case atStart => exact ⟨0, Nat.zero_le _, rfl, rfl, Below.refl _ _⟩
    case round =>
      obtain ⟨k, hk, rfl, hall, hbr⟩ := hrel
      have Hall := hide hall; clear hall
      by_cases hlt : k < n
      · obtain ⟨ab, ao, B, m, cp', rfl, c1, c2, hm, hs⟩ := (hc.keep hbr).at_ hlt
        have hks : k < cs.length := by have := Hl.out; omega
        obtain ⟨g1, g2⟩ := hf _ (List.getElem_mem hks)
        by_cases hfk : fits (cs[k]'hks) = true
        · have Hn := hide (take_allC hks Hall.out hfk)
          go_wp2_with (go_at_call 26; (with_reducible refine (valid_any (cs[k]'hks) B m cp' _ g1 g2 hm ?_).mono ?_))
          · exact hs.keep (((Below.refl _ _).alloc (Nat.le_refl _) _))
          rintro e w' ⟨rfl, hb2⟩
          rw [hfk]
          have hb3 : Below w.heap.size w w' := (hbr.alloc hbr.size _).trans (hb2.mono (by have := hbr.size; simp; omega))
          clear hb2
          go_wp2
          exact ⟨⟨k + 1, by omega, by go_num, Hn.out, hb3⟩, by simp [intOf]; omega⟩
        · have hno : fits (cs[k]'hks) = false := by simpa using hfk
          have Hn := hide (not_allC hks hno)
          go_wp2_with (go_at_call 26; (with_reducible refine (valid_any (cs[k]'hks) B m cp' _ g1 g2 hm ?_).mono ?_))
          · exact hs.keep (((Below.refl _ _).alloc (Nat.le_refl _) _))
          rintro e w' ⟨rfl, hb2⟩
          rw [hno]
          have hb3 : Below w.heap.size w w' := (hbr.alloc hbr.size _).trans (hb2.mono (by have := hbr.size; simp; omega))
          clear hb2 hno hfk
          go_wp2
          go_ret
          exact ⟨ret_bool (by rw [Hn.out, Bool.and_false]), hb3⟩
      · have Hn := hide (end_allC (p := fits) (by have := Hl.out; omega) Hall.out)
        clear Hall
        go_wp2
        go_ret
        exact ⟨ret_bool (by have := Hl.out; rw [Hn.out]; simp; omega), hbr⟩

set_option maxHeartbeats 1000000 in
theorem lawValid_any (cs : List Cmd) (A : Option Addr) (n cp : Nat) (w : World) (hf : CmdsFit cs) (hn : n ≤ maxLen) (hc : CmdsAt w A n cs) :
    Calls Tryd.prog 12 #[.slice A n cp] w fun e w' => e = .returned (.bool (decide (cs.length ≤ 1000) && cs.all fits)) ∧ Below w.heap.size w w' := by
  unfold maxLen at hn
  have Hl := hide hc.len
  go_enter Tryd.func12, Tryd.ntmps12
  go_wp2
  go_loopw [7] (fun i wr => ∃ k : Nat, k ≤ n ∧ i = .int .i64 k ∧ (cs.take k).all fits = true ∧ Below w.heap.size w wr) (fun i _ => n - (intOf i).toNat)
  case atStart => exact ⟨0, Nat.zero_le _, rfl, rfl, Below.refl _ _⟩
  case round =>
    obtain ⟨k, hk, rfl, hall, hbr⟩ := hrel
    have Hall := hide hall; clear hall
    by_cases hlt : k < n
    · obtain ⟨ab, ao, B, m, cp', rfl, c1, c2, hm, hs⟩ := (hc.keep hbr).at_ hlt
      have hks : k < cs.length := by have := Hl.out; omega
      obtain ⟨g1, g2⟩ := hf _ (List.getElem_mem hks)
      by_cases hfk : fits (cs[k]'hks) = true
      · have Hn := hide (take_allC hks Hall.out hfk)
        go_wp2_with (go_at_call 27; (with_reducible refine (fits_any (cs[k]'hks) B m cp' _ g1 g2 hm ?_).mono ?_))
        · exact hs.keep (((Below.refl _ _).alloc (Nat.le_refl _) _))
        rintro e w' ⟨rfl, hb2⟩
        rw [hfk]
        have hb3 : Below w.heap.size w w' := (hbr.alloc hbr.size _).trans (hb2.mono (by have := hbr.size; simp; omega))
        clear hb2
        go_wp2
        exact ⟨⟨k + 1, by omega, by go_num, Hn.out, hb3⟩, by simp [intOf]; omega⟩
      · have hno : fits (cs[k]'hks) = false := by simpa using hfk
        have Hn := hide (not_allC hks hno)
        go_wp2_with (go_at_call 27; (with_reducible refine (fits_any (cs[k]'hks) B m cp' _ g1 g2 hm ?_).mono ?_))
        · exact hs.keep (((Below.refl _ _).alloc (Nat.le_refl _) _))
        rintro e w' ⟨rfl, hb2⟩
        rw [hno]
        have hb3 : Below w.heap.size w w' := (hbr.alloc hbr.size _).trans (hb2.mono (by have := hbr.size; simp; omega))
        clear hb2 hno hfk
        go_wp2
        go_ret
        exact ⟨ret_bool (by rw [Hn.out, Bool.and_false]), hb3⟩
    · have Hn := hide (end_allC (p := fits) (by have := Hl.out; omega) Hall.out)
      clear Hall
      go_wp2
      go_ret
      exact ⟨ret_bool (by have := Hl.out; rw [Hn.out]; simp; omega), hbr⟩

def greatArg (a : ByteArray) : Bool := decide (200 < a.size ∧ a.size ≤ 20000)
def okCmd (c : Cmd) : Bool := decide (c.args.length ≤ 25 ∧ c.word.size ≤ 200) && c.args.all (fun a => !greatArg a)
/-- 'great' of the statements. -/
def great (cs : List Cmd) : Bool := !(cs.all okCmd) || decide (20 < cs.length ∧ cs.length ≤ 1000)

set_option maxHeartbeats 1000000 in
theorem great_any (cs : List Cmd) (A : Option Addr) (n cp : Nat) (w : World) (hf : CmdsFit cs) (hn : n ≤ maxLen) (hc : CmdsAt w A n cs) :
    Calls Tryd.prog 10 #[.slice A n cp] w fun e w' => e = .returned (.bool (great cs)) ∧ Below w.heap.size w w' := by
  unfold maxLen at hn
  have Hl := hide hc.len
  go_enter Tryd.func10, Tryd.ntmps10
  go_wp2
  go_loopw [9] (fun i wr => ∃ k : Nat, k ≤ n ∧ i = .int .i64 k ∧ (cs.take k).all okCmd = true ∧ Below w.heap.size w wr) (fun i _ => n - (intOf i).toNat)
  case atStart => exact ⟨0, Nat.zero_le _, rfl, rfl, Below.refl _ _⟩
  case round =>
    obtain ⟨k, hk, rfl, hall, hbr⟩ := hrel
    have Hall := hide hall; clear hall
    by_cases hlt : k < n
    · obtain ⟨ab, ao, B, m, cp', rfl, c1, c2, hm, hs⟩ := (hc.keep hbr).at_ hlt
      have hks : k < cs.length := by have := Hl.out; omega
      obtain ⟨g1, g2⟩ := hf _ (List.getElem_mem hks)
      have Hsl := hide hs.len
      unfold maxLen at hm g1
      by_cases hg : m ≤ 25 ∧ (cs[k]'hks).word.size ≤ 200
      · obtain ⟨hg1, hg2⟩ := hg
        have b1 : decide (25 < (m : Int)) = false := by simp; omega
        have b2 : decide (200 < ((cs[k]'hks).word.size : Int)) = false := by simp; omega
        go_wp2
        have hb3 : Below w.heap.size w (wr.alloc (.cells #[.string (cs[k]'hks).word, .slice B m cp'] 31)) := hbr.alloc hbr.size _
        have hs3 := hs.keep (w' := wr.alloc (.cells #[.string (cs[k]'hks).word, .slice B m cp'] 31)) ((Below.refl _ _).alloc (Nat.le_refl _) _)
        generalize wr.alloc (.cells #[.string (cs[k]'hks).word, .slice B m cp'] 31) = W3 at hb3 hs3 ⊢
        go_loop [26] (fun i => ∃ j : Nat, j ≤ m ∧ i = .int .i64 j ∧ ((cs[k]'hks).args.take j).all (fun a => !greatArg a) = true) (fun i => m - (intOf i).toNat)
        case atStart => exact ⟨0, Nat.zero_le _, rfl, rfl⟩
        case round =>
          obtain ⟨j, hj, rfl, hall3⟩ := hrel
          have Hall3 := hide hall3; clear hall3
          by_cases hlt3 : j < m
          · obtain ⟨ab3, ao3, rfl, hc3⟩ := hs3.at_ hlt3
            have hjs : j < (cs[k]'hks).args.length := by have := Hsl.out; omega
            have hsz : ((cs[k]'hks).args[j]'hjs).size ≤ 9223372036854775807 := g2 _ (List.getElem_mem _)
            by_cases hga : 200 < ((cs[k]'hks).args[j]'hjs).size ∧ ((cs[k]'hks).args[j]'hjs).size ≤ 20000
            · have Hno := hide (not_allS (l := (cs[k]'hks).args) (p := fun a => !greatArg a) (k := j) hjs (by simp [greatArg]; omega))
              obtain ⟨hga1, hga2⟩ := hga
              go_wp2
              go_ret
              refine ⟨ret_bool ?_, hb3⟩
              have h5 : okCmd (cs[k]'hks) = false := by unfold okCmd; rw [Hno.out, Bool.and_false]
              unfold great; rw [not_allC hks h5]; rfl
            · have Hyes := hide (take_allS (l := (cs[k]'hks).args) (p := fun a => !greatArg a) (k := j) hjs Hall3.out (by simp [greatArg]; omega))
              by_cases hga1 : 200 < ((cs[k]'hks).args[j]'hjs).size
              · have hga2 : ¬ ((cs[k]'hks).args[j]'hjs).size ≤ 20000 := by omega
                go_wp2
                exact ⟨⟨j + 1, by omega, by go_num, Hyes.out⟩, by simp [intOf]; omega⟩
              · clear hga
                go_wp2
                exact ⟨⟨j + 1, by omega, by go_num, Hyes.out⟩, by simp [intOf]; omega⟩
          · have h6 := end_allS (l := (cs[k]'hks).args) (p := fun a => !greatArg a) (k := j) (by have := Hsl.out; omega) Hall3.out
            have Hn := hide (take_allC (p := okCmd) hks Hall.out (by have := Hsl.out; simp only [okCmd, h6, Bool.and_true, decide_eq_true_eq]; omega))
            clear h6 Hall3
            go_wp2
            exact ⟨⟨k + 1, by omega, by go_num, Hn.out, hb3⟩, by simp [intOf]; omega⟩
      · have h5 : okCmd (cs[k]'hks) = false := by
          have := Hsl.out
          have h6 : ¬ ((cs[k]'hks).args.length ≤ 25 ∧ (cs[k]'hks).word.size ≤ 200) := by omega
          unfold okCmd; rw [decide_eq_false h6, Bool.false_and]
        have Hn := hide (show great cs = true by unfold great; rw [not_allC hks h5]; rfl)
        clear h5
        by_cases hg1 : m ≤ 25
        · have hg2 : 200 < (cs[k]'hks).word.size := by omega
          clear hg
          go_wp2
          go_ret
          exact ⟨ret_bool Hn.out.symm, hbr.alloc hbr.size _⟩
        · clear hg
          have hg1' : decide (25 < (m : Int)) = true := by simp; omega
          go_wp2
          go_ret
          exact ⟨ret_bool Hn.out.symm, hbr.alloc hbr.size _⟩
    · have Hn := hide (end_allC (p := okCmd) (by have := Hl.out; omega) Hall.out)
      clear Hall
      have Hg := hide (show great cs = decide (20 < n ∧ n ≤ 1000) by unfold great; rw [Hn.out, Hl.out]; rfl)
      clear Hn
      by_cases hg1 : 20 < n
      · by_cases hg2 : n ≤ 1000
        · go_wp2
          go_ret
          exact ⟨ret_bool (by rw [Hg.out, Bool.eq_iff_iff]; simp; omega), hbr⟩
        · go_wp2
          go_ret
          exact ⟨ret_bool (by rw [Hg.out, Bool.eq_iff_iff]; simp; omega), hbr⟩
      · have hg1' : decide (20 < (n : Int)) = false := by simp; omega
        go_wp2
        go_ret
        exact ⟨ret_bool (by rw [Hg.out, Bool.eq_iff_iff]; simp; omega), hbr⟩

end Go.Proofs.YtpmegcgmbhhfaaaDoor
