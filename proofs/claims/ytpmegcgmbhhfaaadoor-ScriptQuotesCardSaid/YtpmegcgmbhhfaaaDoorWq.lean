/-
  Walks: same, at two scripts that are equal.
-/
import Derived.Test.YtpmegcgmbhhfaaaDoorWn
namespace Go.Proofs.YtpmegcgmbhhfaaaDoor
open Go.RowKit

set_option maxRecDepth 100000 in
set_option maxHeartbeats 2000000 in
theorem cmp_any (c : Cmd) (B : Option Addr) (m cp : Nat) (B' : Option Addr) (cp' : Nat) (w : World) (hm : m ≤ 9223372036854775807) (h1 : StrsAt w B m c.args) (h2 : StrsAt w B' m c.args) :
    Calls Tryd.prog 36 #[.agg #[.string c.word, .slice B m cp], .agg #[.string c.word, .slice B' m cp']] w fun e w' => e = .returned (.bool true) ∧ Below w.heap.size w w' := by
  go_enter Tryd.func36, Tryd.ntmps36
  go_wp2_with fail
  have hb1 : Below w.heap.size w ((w.alloc (Obj.cells #[Value.string c.word, Value.slice B m cp] 31)).alloc (Obj.cells #[Value.string c.word, Value.slice B' m cp'] 31)) := ((Below.refl _ _).alloc (Nat.le_refl _) _).alloc (by simp) _
  refine (equal_any c.args c.args B B' m cp m cp' _ (h1.keep hb1) (h2.keep hb1) hm hm).mono ?_
  rintro e w3 ⟨rfl, nd, rfl⟩
  have hb2 := below_drewN hb1 nd
  clear hb1
  go_wp2
  go_ret
  exact ⟨ret_bool (by simp), hb2⟩

set_option maxRecDepth 100000 in
set_option maxHeartbeats 4000000 in
theorem equalFunc_any (cs : List Cmd) (A A' : Option Addr) (n cp cp' : Nat) (w : World) (hn : n ≤ maxLen) (hc : CmdsAt w A n cs) (hc' : CmdsAt w A' n cs) :
    Calls Tryd.prog 35 #[.slice A n cp, .slice A' n cp', .func (.func 36) #[] #[]] w fun e w' => e = .returned (.bool true) ∧ Below w.heap.size w w' := by
  unfold maxLen at hn
  have Hl := hide hc.len
  go_enter Tryd.func35, Tryd.ntmps35
  go_wp2
  go_loopg [17] n (fun g i wx => ∃ k : Nat, k + g = n ∧ i = .int .i64 k ∧ Below w.heap.size w wx)
  case atStart => exact ⟨0, by omega, rfl, Below.refl _ _⟩
  case round =>
    obtain ⟨k, hkg, rfl, hb⟩ := hrel
    have HG := hide hkg
    have hkn : k ≤ n := by omega
    clear hkg
    by_cases hlt : k < n
    · obtain ⟨ab, ao, Bs, q, p1, rfl, c1, c2, hq, hs⟩ := (hc.keep hb).at_ hlt
      obtain ⟨ab', ao', Bs', q', p1', rfl, d1, d2, hq', hs'⟩ := (hc'.keep hb).at_ hlt
      obtain rfl : q' = q := by have := hs.len; have := hs'.len; omega
      have hks : k < cs.length := by have := Hl.out; omega
      have hb2 : Below wr.heap.size wr ((wr.alloc (.cells #[.string (cs[k]'hks).word, .slice Bs q' p1] 31)).alloc (.cells #[.string (cs[k]'hks).word, .slice Bs' q' p1'] 31)) := ((Below.refl _ _).alloc (Nat.le_refl _) _).alloc (by simp) _
      have e1 := lt_of_cell d1
      have d1' : (wr.alloc (.cells #[.string (cs[k]'hks).word, .slice Bs q' p1] 31)).cell? ⟨ab', ao' + k * 2, none⟩ = some (.string (cs[k]'hks).word) := cell_below d1 ((Below.refl _ _).alloc (Nat.le_refl _) _)
      have d2' : (wr.alloc (.cells #[.string (cs[k]'hks).word, .slice Bs q' p1] 31)).cell? ⟨ab', ao' + k * 2 + 1, none⟩ = some (.slice Bs' q' p1') := cell_below d2 ((Below.refl _ _).alloc (Nat.le_refl _) _)
      go_wp2_with fail
      refine (cmp_any (cs[k]'hks) Bs q' p1 Bs' p1' _ hq (hs.keep hb2) (hs'.keep hb2)).mono ?_
      rintro e w3 ⟨rfl, hb3⟩
      have hb4 : Below w.heap.size w w3 := (hb.trans (hb2.mono hb.size)).trans (hb3.mono (by have := hb.size; have := hb2.size; omega))
      clear hb2 hb3 d1' d2' c1 c2 d1 d2
      go_wp2
      go_roundg (gk - 1)
      case measure => have := HG.out; omega
      case rel => exact ⟨k + 1, by have := HG.out; omega, by go_num, hb4⟩
    · go_wp2
      go_ret
      exact ⟨rfl, hb⟩

set_option maxRecDepth 100000 in
set_option maxHeartbeats 2000000 in
theorem same_any (cs : List Cmd) (A A' : Option Addr) (n cp cp' : Nat) (w : World) (hn : n ≤ maxLen) (hc : CmdsAt w A n cs) (hc' : CmdsAt w A' n cs) :
    Calls Tryd.prog 16 #[.slice A n cp, .slice A' n cp'] w fun e w' => e = .returned (.bool true) ∧ Below w.heap.size w w' := by
  go_enter Tryd.func16, Tryd.ntmps16
  go_wp2_with fail
  refine (equalFunc_any cs A A' n cp cp' _ hn hc hc').mono ?_
  rintro e w1 ⟨rfl, hb⟩
  go_wp2
  go_ret
  exact ⟨rfl, hb⟩
end Go.Proofs.YtpmegcgmbhhfaaaDoor
