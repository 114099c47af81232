/-
  Walks: the small functions of script and of its reference.
-/
import Derived.Test.YtpmegcgmbhhfaaaDoorRows
import Derived.Test.YtpmegcgmbhhfaaaDoorMem
import Derived.Laws.IdiomStrings
import Derived.Deep.Light
namespace Go.Proofs.YtpmegcgmbhhfaaaDoor
open Go.RowKit

def prt (b : Int) : Bool := decide (32 ≤ b ∧ b ≤ 126)

set_option maxHeartbeats 400000 in
theorem printed_any (b : Int) (w : World) :
    Calls Tryd.prog 47 #[.int .u8 b] w fun e w' => e = .returned (.bool (prt b)) ∧ w = w' := by
  go_enter Tryd.func47, Tryd.ntmps47
  go_wp2
  all_goals go_ret
  · rename_i h; exact ⟨by simp [prt, h], rfl⟩
  · rename_i h; exact ⟨by simp [prt]; omega, rfl⟩

def bareB (b : UInt8) : Bool := !((b == 32) || (b == 34) || !(prt b.toNat))
def bareL (l : List UInt8) : Bool := !l.isEmpty && l.all bareB

theorem bareB_iff (b : UInt8) : bareB b = true ↔ 33 ≤ (b.toNat : Int) ∧ (b.toNat : Int) ≤ 126 ∧ (b.toNat : Int) ≠ 34 := by
  unfold bareB prt
  have h1 : (b == 32) = decide ((b.toNat : Int) = 32) := by
    rw [Bool.eq_iff_iff]; simp [← UInt8.toNat_inj]; omega
  have h2 : (b == 34) = decide ((b.toNat : Int) = 34) := by
    rw [Bool.eq_iff_iff]; simp [← UInt8.toNat_inj]; omega
  rw [h1, h2]
  simp
  omega
theorem take_all {l : List UInt8} {p : UInt8 → Bool} {k : Nat} (hk : k < l.length) : (l.take (k + 1)).all p = ((l.take k).all p && p l[k]) := by
  rw [List.take_succ_eq_append_getElem hk, List.all_append]; simp
theorem all_false {l : List UInt8} {p : UInt8 → Bool} {k : Nat} (hk : k < l.length) (h : p l[k] = false) : l.all p = false := by
  rw [List.all_eq_false]; exact ⟨l[k], List.getElem_mem hk, by simp [h]⟩
theorem toList_data (s : ByteArray) : s.toList = s.data.toList := by
  have h : ∀ (n i : Nat) (r : List UInt8), n = s.size - i → ByteArray.toList.loop s i r = r.reverse ++ s.data.toList.drop i := by
    intro n
    induction n with
    | zero =>
      intro i r hn
      unfold ByteArray.toList.loop
      rw [if_neg (by omega), List.drop_eq_nil_of_le (by simp; omega)]; simp
    | succ n ih =>
      intro i r hn
      unfold ByteArray.toList.loop
      have hi : i < s.size := by omega
      have e : s.get! i = s.data.toList[i]'(by simpa using hi) := by
        show s.data[i]! = _
        rw [getElem!_pos s.data i (by simpa using hi)]; simp
      have e2 : s.data.toList.drop i = s.data.toList[i]'(by simpa using hi) :: s.data.toList.drop (i + 1) := List.drop_eq_getElem_cons (by simpa using hi)
      rw [if_pos hi, ih (i + 1) _ (by omega), e2, e]
      simp
  have := h s.size 0 [] (by omega)
  simpa [ByteArray.toList] using this
theorem isEmpty_data (s : ByteArray) : s.toList.isEmpty = s.data.toList.isEmpty := by rw [toList_data]
theorem bareL_false {s : ByteArray} {k : Nat} (hk : k < s.size) (h : ¬ (33 ≤ (s[k].toNat : Int) ∧ (s[k].toNat : Int) ≤ 126 ∧ (s[k].toNat : Int) ≠ 34)) : bareL s.data.toList = false := by
  have h1 : bareB s[k] = false := by
    rw [← bareB_iff] at h; simpa using h
  have h2 : s.data.toList.all bareB = false := all_false (k := k) (by simpa using hk) h1
  simp [bareL, h2]
theorem bare_step {s : ByteArray} {k : Nat} (hk : k < s.size) (ha : (s.data.toList.take k).all bareB = true) (h : 33 ≤ (s[k].toNat : Int) ∧ (s[k].toNat : Int) ≤ 126 ∧ (s[k].toNat : Int) ≠ 34) : (s.data.toList.take (k + 1)).all bareB = true := by
  rw [take_all (by simpa using hk), ha, Bool.true_and]
  exact (bareB_iff _).2 h

/-- The new row that '[]byte(s)' lays. -/
def byteRow (s : ByteArray) (w : World) : Obj := .cells (bytesRow s (grownCap w s.size 0 5)) 5 ((bytesRow s (grownCap w s.size 0 5)).size, (bytesRow s (grownCap w s.size 0 5)).size + 1)
theorem run_bytes (w : World) (s : ByteArray) : (convert 9 52 (.string s)).run Tryd.prog w = .ok (.slice (some ⟨w.heap.size, 0, none⟩) s.size (grownCap w s.size 0 5)) (w.drew.alloc (byteRow s w)) :=
  run_bytes_of_string (P := Tryd.prog) w 9 52 5 s Tryd.underlying9 Tryd.underlying52 Tryd.underlying5
theorem bytes_world (s : ByteArray) (w v : World) : ∀ k (hk : k < s.size), ((w.alloc (byteRow s v)).drew).cell? ⟨w.heap.size, k, none⟩ = some (.int .u8 (s[k].toNat : Int)) := by
  intro k hk
  exact (World.cell?_alloc_mark w _ _ _ k).trans (bytesRow_at s _ k hk)

set_option maxHeartbeats 400000 in
theorem bare_any (s : ByteArray) (w : World) (hs : s.size ≤ maxLen) :
    Calls Tryd.prog 49 #[.string s] w fun e w' => e = .returned (.bool (bareL s.data.toList)) ∧ Below w.heap.size w w' := by
  unfold maxLen at hs
  have kc := run_bytes
  go_enter Tryd.func49, Tryd.ntmps49
  go_wp2
  have hb : Below w.heap.size w ((w.alloc (byteRow s w)).drew) := ((Below.refl _ _).alloc (Nat.le_refl _) _).drew
  have hcell := bytes_world s w w
  generalize (w.alloc (byteRow s w)).drew = W1 at hb hcell ⊢
  clear kc
  go_loop [8] (fun i => ∃ k : Nat, k ≤ s.size ∧ i = .int .i64 k ∧ (s.data.toList.take k).all bareB = true) (fun i => s.size - (intOf i).toNat)
  case atStart => exact ⟨0, Nat.zero_le _, rfl, rfl⟩
  case round =>
    obtain ⟨k, hk, rfl, hall⟩ := hrel
    have Hall := hall; clear hall
    by_cases hlt : k < s.size
    · have hc := hcell k hlt
      clear hcell
      go_wp2
      case roundEnd => exact ⟨⟨k + 1, by omega, by go_num, bare_step hlt Hall (by first | omega | (simp_all; done) | (simp_all; omega))⟩, by simp [intOf]; omega⟩
      all_goals (go_ret; exact ⟨ret_bool (bareL_false hlt (by first | omega | (simp_all; done) | (simp_all; omega))).symm, hb⟩)
    · clear hcell
      go_wp2
      go_ret
      refine ⟨?_, hb⟩
      have h2 : s.data.toList.all bareB = true := by rw [← Hall, List.take_of_length_le (by simp; omega)]
      simp [bareL, h2, isEmpty_data]

def lowB (b : UInt8) : Bool := decide (97 ≤ (b.toNat : Int) ∧ (b.toNat : Int) ≤ 122)
def argB (b : UInt8) : Bool := decide ((32 ≤ (b.toNat : Int) ∧ (b.toNat : Int) ≤ 126) ∨ (b.toNat : Int) = 10 ∨ (b.toNat : Int) = 9)
def argFits (a : ByteArray) : Bool := decide (a.size ≤ 20000) && a.data.toList.all argB
def fits (c : Cmd) : Bool := decide (1 ≤ c.word.size) && decide (c.word.size ≤ 20) && decide (c.args.length ≤ 20) && c.word.data.toList.all lowB && c.args.all argFits

theorem step_all {s : ByteArray} {p : UInt8 → Bool} {k : Nat} (hk : k < s.size) (ha : (s.data.toList.take k).all p = true) (h : p s[k] = true) : (s.data.toList.take (k + 1)).all p = true := by
  rw [take_all (by simpa using hk), ha, Bool.true_and]; exact h
theorem end_all {s : ByteArray} {p : UInt8 → Bool} {k : Nat} (hk : ¬ k < s.size) (ha : (s.data.toList.take k).all p = true) : s.data.toList.all p = true := by
  rw [← ha, List.take_of_length_le (by simp; omega)]
theorem not_all {s : ByteArray} {p : UInt8 → Bool} {k : Nat} (hk : k < s.size) (h : p s[k] = false) : s.data.toList.all p = false := all_false (k := k) (by simpa using hk) h
theorem take_allS {l : List ByteArray} {p : ByteArray → Bool} {k : Nat} (hk : k < l.length) (ha : (l.take k).all p = true) (h : p l[k] = true) : (l.take (k + 1)).all p = true := by
  rw [List.take_succ_eq_append_getElem hk, List.all_append]; simp_all
theorem not_allS {l : List ByteArray} {p : ByteArray → Bool} {k : Nat} (hk : k < l.length) (h : p l[k] = false) : l.all p = false := by
  rw [List.all_eq_false]; exact ⟨l[k], List.getElem_mem hk, by simp [h]⟩
theorem end_allS {l : List ByteArray} {p : ByteArray → Bool} {k : Nat} (hk : ¬ k < l.length) (ha : (l.take k).all p = true) : l.all p = true := by
  rw [← ha, List.take_of_length_le (by omega)]

theorem fits_no_arg {c : Cmd} (h : c.args.all argFits = false) : fits c = false := by unfold fits; rw [h, Bool.and_false]
theorem fits_no_word {c : Cmd} (h : c.word.data.toList.all lowB = false) : fits c = false := by unfold fits; rw [h, Bool.and_false, Bool.false_and]
set_option maxHeartbeats 1000000 in
theorem valid_any (c : Cmd) (B : Option Addr) (m cp : Nat) (w : World) (hs : c.word.size ≤ maxLen) (hss : ∀ a ∈ c.args, a.size ≤ maxLen) (hm : m ≤ maxLen) (ha : StrsAt w B m c.args) :
    Calls Tryd.prog 26 #[.agg #[.string c.word, .slice B m cp]] w fun e w' => e = .returned (.bool (fits c)) ∧ Below w.heap.size w w' := by
  unfold maxLen at hs hm
  obtain ⟨s, ss⟩ := c
  simp only at hs hss ha ⊢
  have hl := ha.len
  have kc := run_bytes
  by_cases h1 : s.size < 1
  · go_enter Tryd.func26, Tryd.ntmps26
    go_wp2
    go_ret
    exact ⟨ret_bool (by simp [fits]; omega), (Below.refl _ _).alloc (Nat.le_refl _) _⟩
  · by_cases h2 : 20 < s.size
    · go_enter Tryd.func26, Tryd.ntmps26
      go_wp2
      go_ret
      exact ⟨ret_bool (by simp [fits]; omega), (Below.refl _ _).alloc (Nat.le_refl _) _⟩
    · by_cases h3 : 20 < m
      · go_enter Tryd.func26, Tryd.ntmps26
        go_wp2
        go_ret
        exact ⟨ret_bool (by simp [fits]; omega), (Below.refl _ _).alloc (Nat.le_refl _) _⟩
      · have b1 : decide ((s.size : Int) < 1) = false := by simp; omega
        have b2 : decide (20 < (s.size : Int)) = false := by simp; omega
        have b3 : decide (20 < (m : Int)) = false := by simp; omega
        go_enter Tryd.func26, Tryd.ntmps26
        go_wp2
        have hb : Below w.heap.size w (((w.alloc (Obj.cells #[Value.string s, Value.slice B m cp] 31)).alloc (byteRow s (w.alloc (Obj.cells #[Value.string s, Value.slice B m cp] 31)))).drew) := (((Below.refl _ _).alloc (Nat.le_refl _) _).alloc (by simp) _).drew
        have hcell := bytes_world s (w.alloc (Obj.cells #[Value.string s, Value.slice B m cp] 31)) (w.alloc (Obj.cells #[Value.string s, Value.slice B m cp] 31))
        simp only [World.size_alloc] at hcell
        have hbox : (((w.alloc (Obj.cells #[Value.string s, Value.slice B m cp] 31)).alloc (byteRow s (w.alloc (Obj.cells #[Value.string s, Value.slice B m cp] 31)))).drew).cell? ⟨w.heap.size, 1, none⟩ = some (.slice B m cp) := by
          go_simp
        generalize (((w.alloc (Obj.cells #[Value.string s, Value.slice B m cp] 31)).alloc (byteRow s (w.alloc (Obj.cells #[Value.string s, Value.slice B m cp] 31)))).drew) = W1 at hb hcell hbox ⊢
        go_loop [29] (fun i => ∃ k : Nat, k ≤ s.size ∧ i = .int .i64 k ∧ (s.data.toList.take k).all lowB = true) (fun i => s.size - (intOf i).toNat)
        case atStart => exact ⟨0, Nat.zero_le _, rfl, rfl⟩
        case round =>
          obtain ⟨k, hk, rfl, hall⟩ := hrel
          have Hall := hide hall; clear hall
          by_cases hlt : k < s.size
          · have hc := hcell k hlt
            clear hcell
            go_wp2
            case roundEnd => exact ⟨⟨k + 1, by omega, by go_num, step_all hlt Hall.out (by simp [lowB]; omega)⟩, by simp [intOf]; omega⟩
            all_goals (go_ret; exact ⟨ret_bool (fits_no_word (not_all hlt (p := lowB) (by simp [lowB]; omega))).symm, hb⟩)
          · have hw := hide (end_all hlt Hall.out)
            clear hcell Hall
            go_wp2
            go_loopw [43] (fun i wr => ∃ k : Nat, k ≤ m ∧ i = .int .i64 k ∧ (ss.take k).all argFits = true ∧ Below w.heap.size w wr) (fun i _ => m - (intOf i).toNat)
            case atStart => exact ⟨0, Nat.zero_le _, rfl, rfl, hb⟩
            case round =>
              obtain ⟨q, hq, rfl, hall2, hbr⟩ := hrel
              have Hall2 := hide hall2; clear hall2
              by_cases hlt2 : q < m
              · obtain ⟨ab, ao, rfl, hc⟩ := (ha.keep hbr).at_ hlt2
                have hsz : (ss[q]'(by have := ha.len; omega)).size ≤ 9223372036854775807 := hss _ (List.getElem_mem _)
                by_cases h4 : 20000 < (ss[q]'(by have := ha.len; omega)).size
                · go_wp2
                  go_ret
                  have : ss.all argFits = false := not_allS (k := q) (by have := ha.len; omega) (by simp [argFits]; omega)
                  exact ⟨ret_bool (fits_no_arg this).symm, hbr⟩
                · have h4' : decide (20000 < (((ss[q]'(by have := ha.len; omega)).size : Nat) : Int)) = false := by simp; omega
                  go_wp2
                  have hb3 : Below w.heap.size w ((wr.alloc (byteRow (ss[q]'(by have := ha.len; omega)) wr)).drew) := ((hbr).alloc (by have := hbr.size; omega) _).drew
                  have hcell3 := bytes_world (ss[q]'(by have := ha.len; omega)) wr wr
                  generalize (wr.alloc (byteRow (ss[q]'(by have := ha.len; omega)) wr)).drew = W3 at hb3 hcell3 ⊢
                  go_loop [53] (fun i => ∃ k : Nat, k ≤ (ss[q]'(by have := ha.len; omega)).size ∧ i = .int .i64 k ∧ ((ss[q]'(by have := ha.len; omega)).data.toList.take k).all argB = true) (fun i => (ss[q]'(by have := ha.len; omega)).size - (intOf i).toNat)
                  case atStart => exact ⟨0, Nat.zero_le _, rfl, rfl⟩
                  case round =>
                    obtain ⟨j, hj, rfl, hall3⟩ := hrel
                    have Hall3 := hide hall3; clear hall3
                    by_cases hlt3 : j < (ss[q]'(by have := ha.len; omega)).size
                    · have hc3 := hcell3 j hlt3
                      clear hcell3
                      have hne : ss.length = m := ha.len
                      have Hno := hide (fun (h : ¬ ((32 ≤ (((ss[q]'(by have := ha.len; omega))[j]'hlt3).toNat : Int) ∧ (((ss[q]'(by have := ha.len; omega))[j]'hlt3).toNat : Int) ≤ 126) ∨ (((ss[q]'(by have := ha.len; omega))[j]'hlt3).toNat : Int) = 10 ∨ (((ss[q]'(by have := ha.len; omega))[j]'hlt3).toNat : Int) = 9)) =>
                        not_allS (l := ss) (p := argFits) (k := q) (by have := ha.len; omega) (by simp [argFits, not_all hlt3 (p := argB) (by simpa [argB] using h)]))
                      have Hyes := hide (fun (h : ((32 ≤ (((ss[q]'(by have := ha.len; omega))[j]'hlt3).toNat : Int) ∧ (((ss[q]'(by have := ha.len; omega))[j]'hlt3).toNat : Int) ≤ 126) ∨ (((ss[q]'(by have := ha.len; omega))[j]'hlt3).toNat : Int) = 10 ∨ (((ss[q]'(by have := ha.len; omega))[j]'hlt3).toNat : Int) = 9)) => step_all (p := argB) hlt3 Hall3.out (by simpa [argB] using h))
                      clear hne
                      go_wp2
                      all_goals first
                        | refine ⟨⟨j + 1, by omega, by go_num, Hyes.out ?_⟩, by simp [intOf]; omega⟩
                        | (go_ret; refine ⟨ret_bool (fits_no_arg (Hno.out ?_)).symm, hb3⟩)
                      all_goals go_light
                      all_goals first | omega | (simp at *; omega)
                    · have := end_all hlt3 Hall3.out
                      have Hw := hide (take_allS (l := ss) (p := argFits) (k := q) (by have := ha.len; omega) Hall2.out (by simp [argFits, this]; omega))
                      clear this Hall3 hcell3 h4'
                      go_wp2
                      exact ⟨⟨q + 1, by omega, by go_num, Hw.out, hb3⟩, by simp [intOf]; omega⟩
              · have := end_allS (l := ss) (k := q) (by have := ha.len; omega) Hall2.out
                have Hw := hide (show fits ⟨s, ss⟩ = true by
                  have := ha.len; have := hw.out
                  simp [fits] at *; simp_all; omega)
                clear this Hall2 hw
                go_wp2
                go_ret
                exact ⟨ret_bool Hw.out.symm, hbr⟩

end Go.Proofs.YtpmegcgmbhhfaaaDoor
