/-
  Walks: Format.
-/
import Derived.Test.YtpmegcgmbhhfaaaDoorWj
namespace Go.Proofs.YtpmegcgmbhhfaaaDoor
open Go.RowKit

def okL (cs : List Cmd) : Bool := decide (cs.length ≤ 1000) && cs.all fits
def argsT (al : List ByteArray) : List UInt8 := al.flatMap (fun a => 32 :: Sp.arg a.data.toList)
def lineB (c : Cmd) : List UInt8 := c.word.data.toList ++ (argsT c.args ++ [10])
def fmtL (cs : List Cmd) : List UInt8 := cs.flatMap lineB

theorem arg_len (a : List UInt8) : (Sp.arg a).length ≤ 2 * a.length + 2 := by
  unfold Sp.arg
  split
  · omega
  · have := flat_len a
    simp only [List.length_cons, List.length_append, List.length_nil]; omega
theorem argsT_len : ∀ (al : List ByteArray), al.all argFits = true → (argsT al).length ≤ al.length * 40003
  | [], _ => by simp [argsT]
  | a :: al, h => by
    rw [List.all_cons, Bool.and_eq_true] at h
    have h1 := argsT_len al h.2
    have h2 := arg_len a.data.toList
    have h3 : a.size ≤ 20000 := by
      have := h.1; unfold argFits at this; rw [Bool.and_eq_true] at this; simpa using this.1
    have h4 := Lib.size_eq a
    show (List.flatMap _ (a :: al)).length ≤ _
    rw [List.flatMap_cons, List.length_append]
    unfold argsT at h1
    simp only [List.length_cons]; omega
theorem lineB_len {c : Cmd} (h : fits c = true) : (lineB c).length ≤ 800081 := by
  unfold fits at h
  simp only [Bool.and_eq_true, decide_eq_true_eq] at h
  obtain ⟨⟨⟨⟨h1, h2⟩, h3⟩, h4⟩, h5⟩ := h
  have h6 := argsT_len c.args h5
  have h7 := Lib.size_eq c.word
  unfold lineB
  simp only [List.length_append, List.length_cons, List.length_nil]
  omega
theorem fmtL_len : ∀ (cs : List Cmd), cs.all fits = true → (fmtL cs).length ≤ cs.length * 800081
  | [], _ => by simp [fmtL]
  | c :: cs, h => by
    rw [List.all_cons, Bool.and_eq_true] at h
    have h1 := fmtL_len cs h.2
    have h2 := lineB_len h.1
    show (List.flatMap _ (c :: cs)).length ≤ _
    rw [List.flatMap_cons, List.length_append]
    unfold fmtL at h1
    simp only [List.length_cons]; omega
theorem fmtL_take {cs : List Cmd} {k : Nat} (hk : k < cs.length) : fmtL (cs.take (k + 1)) = fmtL (cs.take k) ++ lineB cs[k] := by
  unfold fmtL; rw [List.take_succ_eq_append_getElem hk, List.flatMap_append]; simp
theorem argsT_take {al : List ByteArray} {k : Nat} (hk : k < al.length) : argsT (al.take (k + 1)) = argsT (al.take k) ++ (32 :: Sp.arg (al[k]).data.toList) := by
  unfold argsT; rw [List.take_succ_eq_append_getElem hk, List.flatMap_append]; simp
theorem all_take {α : Type} {l : List α} {p : α → Bool} (h : l.all p = true) (k : Nat) : (l.take k).all p = true := by
  rw [List.all_eq_true] at h ⊢
  exact fun x hx => h x (List.mem_of_mem_take hx)
theorem all_at {α : Type} {l : List α} {p : α → Bool} (h : l.all p = true) {k : Nat} (hk : k < l.length) : p l[k] = true := by
  rw [List.all_eq_true] at h
  exact h _ (List.getElem_mem hk)

set_option maxRecDepth 100000 in
set_option maxHeartbeats 2000000 in
theorem format_no (cs : List Cmd) (A : Option Addr) (n cp : Nat) (w : World) (hf : CmdsFit cs) (hn : n ≤ maxLen) (hc : CmdsAt w A n cs) (hok : okL cs = false) :
    Calls Tryd.prog 13 #[.slice A n cp] w fun e w' => e = .returned (.tuple #[.string ⟨#[]⟩, .int .i64 3]) ∧ Below w.heap.size w w' := by
  go_enter Tryd.func13, Tryd.ntmps13
  go_wp2_with fail
  refine (Valid_any cs A n cp _ hf hn hc).mono ?_
  rintro e w1 ⟨rfl, hb1⟩
  rw [show (decide (cs.length ≤ 1000) && cs.all fits) = false from hok]
  go_wp2
  go_ret2
  exact ⟨rfl, hb1⟩

set_option maxRecDepth 100000 in
set_option maxHeartbeats 4000000 in
theorem format_yes (cs : List Cmd) (A : Option Addr) (n cp : Nat) (w : World) (hf : CmdsFit cs) (hn : n ≤ maxLen) (hc : CmdsAt w A n cs) (hok : okL cs = true) :
    Calls Tryd.prog 13 #[.slice A n cp] w fun e w' => e = .returned (.tuple #[.string ⟨(fmtL cs).toArray⟩, .int .i64 0]) ∧ Below w.heap.size w w' := by
  have hok2 := hok
  unfold okL at hok2
  simp only [Bool.and_eq_true, decide_eq_true_eq] at hok2
  obtain ⟨ok1, ok2⟩ := hok2
  have Hok := hide ok2
  have Hl := hide hc.len
  have hn2 : n ≤ 1000 := by rw [← hc.len]; exact ok1
  clear ok2 ok1
  go_enter Tryd.func13, Tryd.ntmps13
  go_wp2_with fail
  refine (Valid_any cs A n cp _ hf hn hc).mono ?_
  rintro e w1 ⟨rfl, hb1⟩
  rw [show (decide (cs.length ≤ 1000) && cs.all fits) = true from hok]
  have HN := hide (isB_new w1)
  clear hok hn
  go_wp2
  go_loopg [14] n (fun g i wx => ∃ k : Nat, k + g = n ∧ i = .int .i64 k ∧ IsB w1.heap.size w1.heap.size (fmtL (cs.take k)) wx ∧ Below w1.heap.size w1 wx)
  case atStart => exact ⟨0, by omega, rfl, HN.out, (Below.refl _ _).alloc (Nat.le_refl _) _⟩
  case round =>
    obtain ⟨k, hkg, rfl, hB, hb⟩ := hrel
    have HB := hide hB
    have HG := hide hkg
    have hkn : k ≤ n := by omega
    clear hB hkg
    have hbw : Below w.heap.size w wr := hb1.trans (hb.mono hb1.size)
    by_cases hlt : k < n
    · obtain ⟨ab, ao, Bs, m, cp', rfl, c1w, c2w, hm, hs⟩ := hc.at_ hlt
      have c1 := cell_below c1w hbw
      have c2 := cell_below c2w hbw
      clear c1w c2w
      unfold maxLen at hm
      have hks : k < cs.length := by have := Hl.out; omega
      obtain ⟨g1, g2⟩ := hf _ (List.getElem_mem hks)
      have hfk := all_at Hok.out hks
      have HFL := hide (fmtL_len (cs.take k) (all_take Hok.out k))
      have HTL := hide (List.length_take_le k cs)
      have HFk := hide hfk
      have HT := hide (fmtL_take hks)
      have hws : (cs[k]'hks).word.size ≤ 20 := by unfold fits at hfk; simp only [Bool.and_eq_true, decide_eq_true_eq] at hfk; exact hfk.1.1.1.2
      have has : (cs[k]'hks).args.length ≤ 20 := by unfold fits at hfk; simp only [Bool.and_eq_true, decide_eq_true_eq] at hfk; exact hfk.1.1.2
      have HAF := hide (show (cs[k]'hks).args.all argFits = true by unfold fits at hfk; simp only [Bool.and_eq_true, decide_eq_true_eq] at hfk; exact hfk.2)
      have Hsl := hide hs.len
      have HB2 := hide (isB_more HB.out (show Below wr.heap.size wr (wr.alloc (.cells #[.string (cs[k]'hks).word, .slice Bs m cp'] 31)) from (Below.refl _ _).alloc (Nat.le_refl _) _))
      have hb2 : Below w1.heap.size w1 (wr.alloc (.cells #[.string (cs[k]'hks).word, .slice Bs m cp'] 31)) := hb.alloc hb.size _
      clear hfk g1
      have hlt0 : w1.heap.size < wr.heap.size := isB_lt HB.out
      have hmk : Marked (wr.alloc (.cells #[.string (cs[k]'hks).word, .slice Bs m cp'] 31)) wr.heap.size := ⟨_, heap_alloc_new wr _, fun c fr h => by injection h with _ h2; exact absurd h2 (by decide)⟩
      have hcq : (wr.alloc (.cells #[.string (cs[k]'hks).word, .slice Bs m cp'] 31)).heap[wr.heap.size]? = some (.cells #[.string (cs[k]'hks).word, .slice Bs m cp'] 31) := heap_alloc_new wr _
      have HMk := hide hmk
      have HCq := hide hcq
      clear hmk hcq
      go_wp2_with fail
      generalize wr.alloc (.cells #[.string (cs[k]'hks).word, .slice Bs m cp'] 31) = w3 at hb2 HB2 HMk HCq ⊢
      refine (writeString_m w1.heap.size w1.heap.size _ (cs[k]'hks).word _ HB2.out (by have := HFL.out; have := HTL.out; omega) hb2.size).mono ?_
      rintro e w4 ⟨rfl, hB4, hb4, hk4⟩
      have hq4 := (hk4 _ (by omega) HMk.out).trans HCq.out
      have hb4' := hb2.trans hb4
      have d1 : w4.cell? ⟨wr.heap.size, 1, none⟩ = some (.slice Bs m cp') := by rw [Lib.cell_of_heap hq4]; rfl
      have HB4 := hide hB4
      clear hk4 hb4 hq4 hb2 hB4
      go_wp2
      go_loopg [24] m (fun g j wx => ∃ q : Nat, q + g = m ∧ j = .int .i64 q ∧ IsB w1.heap.size w1.heap.size ((fmtL (cs.take k) ++ (cs[k]'hks).word.data.toList) ++ argsT ((cs[k]'hks).args.take q)) wx ∧ Below w1.heap.size w1 wx)
      case atStart => exact ⟨0, by omega, rfl, by simpa [argsT] using HB4.out, hb4'⟩
      case round =>
        obtain ⟨q, hqg, rfl, hB5, hb5⟩ := hrel
        have HB5 := hide hB5
        have HG5 := hide hqg
        have hqm : q ≤ m := by omega
        clear hB5 hqg
        have hbw5 : Below w.heap.size w wr := hb1.trans (hb5.mono hb1.size)
        have HAL := hide (argsT_len ((cs[k]'hks).args.take q) (all_take HAF.out q))
        have HAL2 := hide (List.length_take_le q (cs[k]'hks).args)
        have HLen := hide (show ((fmtL (cs.take k) ++ (cs[k]'hks).word.data.toList) ++ argsT ((cs[k]'hks).args.take q)).length ≤ 1000000000 by
          have := HFL.out; have := HTL.out; have := HAL.out; have := HAL2.out; have := Lib.size_eq (cs[k]'hks).word
          simp only [List.length_append]; have := Hsl.out; omega)
        by_cases hlt5 : q < m
        · obtain ⟨cb, co, rfl, hcc⟩ := (hs.keep hbw5).at_ hlt5
          have hqs : q < (cs[k]'hks).args.length := by have := Hsl.out; omega
          have HTa := hide (argsT_take hqs)
          have hsz : ((cs[k]'hks).args[q]'hqs).size ≤ 20000 := by
            have := all_at HAF.out hqs; unfold argFits at this; rw [Bool.and_eq_true] at this; simpa using this.1
          go_wp2_with fail
          refine (writeByte_k w1.heap.size w1.heap.size _ 32 32 rfl _ HB5.out (by have := HLen.out; omega) hb5.size).mono ?_
          rintro e w6 ⟨rfl, hB6, hb6, hk6⟩
          have hb6' := hb5.trans hb6
          go_wp2_with fail
          refine (write_any w1.heap.size w1.heap.size _ ((cs[k]'hks).args[q]'hqs) _ hB6 hb6'.size (by have := HLen.out; simp only [List.length_append, List.length_cons, List.length_nil] at this ⊢; omega)).mono ?_
          rintro e w7 ⟨rfl, hB7, hb7, hk7⟩
          have hb7' := hb6'.trans hb7
          clear hB6 hb6 hk6 hk7 hb7
          go_wp2
          go_roundg (gk - 1)
          case measure => have := HG5.out; omega
          case rel => exact ⟨q + 1, by have := HG5.out; omega, by go_num, by rw [HTa.out]; simpa using hB7, hb7'⟩
        · have HE := hide (show argsT ((cs[k]'hks).args.take q) = argsT (cs[k]'hks).args by rw [List.take_of_length_le (by have := Hsl.out; omega)])
          go_wp2_with fail
          refine (writeByte_k w1.heap.size w1.heap.size _ 10 10 rfl _ HB5.out (by have := HLen.out; omega) hb5.size).mono ?_
          rintro e w6 ⟨rfl, hB6, hb6, hk6⟩
          have hb6' := hb5.trans hb6
          clear hb6 hk6
          go_wp2
          go_roundg (n - (k + 1))
          case measure => have := HG.out; omega
          case rel => exact ⟨k + 1, by have := HG.out; omega, by go_num, by rw [HT.out]; unfold lineB; rw [← HE.out]; simpa using hB6, hb6'⟩
    · have HE := hide (show fmtL (cs.take k) = fmtL cs by rw [List.take_of_length_le (by have := Hl.out; omega)])
      go_wp2_with (go_at_call 31; (with_reducible refine (string_any w1.heap.size w1.heap.size _ _ HB.out hb.size).mono ?_); rintro e wy ⟨rfl, _, hb5⟩)
      go_ret2
      exact ⟨by rw [← HE.out]; rfl, hb1.trans ((hb.trans hb5).mono hb1.size)⟩
end Go.Proofs.YtpmegcgmbhhfaaaDoor
