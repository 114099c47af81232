/-
  Walks: strings.IndexAny at a blank and a tab, whatever the string; TrimLeft at the same; the token of a line.
-/
import Derived.Test.YtpmegcgmbhhfaaaDoorWd
import Derived.Deep.LoopGhost
import Derived.Lib.QuoteLoop
import Derived.Lib.RuneCountTail
import Derived.Lib.OthersKept
namespace Go.Proofs.YtpmegcgmbhhfaaaDoor
open Go.RowKit

theorem decode_bytes (s : ByteArray) (pos : Nat) (h : pos < s.size) (ha : 128 ≤ (s[pos]'h).toNat) : ∀ j, j < (Utf8.decode s pos).2 → pos + j < s.size ∧ 128 ≤ (s.get! (pos + j)).toNat := by
  intro j hj
  have h0 : (s.get! (pos + 0)).toNat = (s[pos]'h).toNat := by rw [get_at s pos h]
  simp only [Utf8.decode] at hj
  split at hj
  · omega
  · split at hj
    · rename_i h1
      simp only [Bool.and_eq_true, decide_eq_true_eq, beq_iff_eq] at h1
      split at hj
      · have : j = 0 ∨ j = 1 := by simp at hj; omega
        rcases this with rfl | rfl
        · exact ⟨h, by omega⟩
        · exact ⟨h1.2.1, by omega⟩
      · have : j = 0 := by simp at hj; omega
        subst this; exact ⟨h, by omega⟩
    · split at hj
      · rename_i h1
        simp only [Bool.and_eq_true, decide_eq_true_eq, beq_iff_eq] at h1
        split at hj
        · have : j = 0 ∨ j = 1 ∨ j = 2 := by simp at hj; omega
          rcases this with rfl | rfl | rfl
          · exact ⟨h, by omega⟩
          · exact ⟨h1.1.2.1, by omega⟩
          · exact ⟨h1.2.1, by omega⟩
        · have : j = 0 := by simp at hj; omega
          subst this; exact ⟨h, by omega⟩
      · split at hj
        · rename_i h1
          simp only [Bool.and_eq_true, decide_eq_true_eq, beq_iff_eq] at h1
          split at hj
          · have : j = 0 ∨ j = 1 ∨ j = 2 ∨ j = 3 := by simp at hj; omega
            rcases this with rfl | rfl | rfl | rfl
            · exact ⟨h, by omega⟩
            · exact ⟨h1.1.1.2.1, by omega⟩
            · exact ⟨h1.1.2.1, by omega⟩
            · exact ⟨h1.2.1, by omega⟩
          · have : j = 0 := by simp at hj; omega
            subst this; exact ⟨h, by omega⟩
        · have : j = 0 := by simp at hj; omega
          subst this; exact ⟨h, by omega⟩

theorem get_eq {s : ByteArray} {i : Nat} (h : i < s.size) : s.data.toList[i]? = some (s.get! i) := by
  show _ = some s.data[i]!
  rw [getElem!_pos s.data i h]
  simp [h]
theorem no_blank_hi (b : UInt8) (h : 128 ≤ b.toNat) : bt.data.toList.contains b = false := by
  have e1 : b ≠ 32 := by rintro rfl; simp at h
  have e2 : b ≠ 9 := by rintro rfl; simp at h
  simp [bt, e1, e2]

/-- Over a rune of several bytes nothing is met. -/
theorem noAny_hi {s : ByteArray} {i : Nat} (h : i < s.size) (ha : 128 ≤ (s[i]'h).toNat) (hno : Lib.NoAny s.data.toList bt.data.toList i) :
    Lib.NoAny s.data.toList bt.data.toList (i + (Utf8.decode s i).2) := by
  intro j b hj hb
  by_cases hji : j < i
  · exact hno j b hji hb
  · obtain ⟨h1, h2⟩ := decode_bytes s i h ha (j - i) (by omega)
    have e : i + (j - i) = j := by omega
    rw [e] at h1 h2
    rw [get_eq h1] at hb
    obtain rfl : s.get! j = b := by simpa using hb
    exact no_blank_hi _ h2

theorem decode_end (s : ByteArray) (i : Nat) (h : i < s.size) (ha : 128 ≤ (s[i]'h).toNat) : i + (Utf8.decode s i).2 ≤ s.size := by
  have h1 := (decode_high s i h ha).2
  have := (decode_bytes s i h ha ((Utf8.decode s i).2 - 1) (by omega)).1
  omega

theorem decode_valid (s : ByteArray) (i : Nat) : Utf8.valid ((Utf8.decode s i).1 : Int) = true := by
  have h := Lib.rune_valid (s.extract i s.size)
  rw [Lib.tail_decode] at h
  rw [validRune_eq]
  exact h
theorem valid_le {r : Int} (h : Utf8.valid r = true) : r ≤ 1114111 := by
  simp [Utf8.valid] at h; omega

set_option maxRecDepth 100000 in
set_option maxHeartbeats 2000000 in
theorem indexAny_short (s : ByteArray) (w : World) (h8 : s.size ≤ 8) :
    Calls Tryd.prog 65 #[.string s, .string bt] w fun e w' => e = .returned (.int .i64 (Lib.indexAny s.data.toList bt.data.toList)) ∧ Below w.heap.size w w' := by
  have hemp : bt.toList.isEmpty = false := by rw [toList_data]; rfl
  have hbt : bt.size = 2 := rfl
  have h8z : decide ((8 : Int) < (s.size : Int)) = false := decide_eq_false (by omega)
  go_enter Tryd.func65, Tryd.ntmps65
  go_wp2_with (go_at_call 76; refine (Tryd.strings_shouldUseASCIISet _ _).mono ?_; rintro e w' ⟨rfl, hw⟩; rw [hw, h8z])
  go_loopg [9, 10] s.size (fun g _ _ wx => ∃ i : Nat, i + g = s.size ∧ wx.heap[w.heap.size]? = some (.stringIter s i) ∧ w.heap.size < wx.heap.size ∧ Below w.heap.size w wx ∧ Lib.NoAny s.data.toList bt.data.toList i)
  case atStart => exact ⟨0, by omega, heap_alloc_new w _, by simp [World.iter], (Below.refl _ _).alloc (Nat.le_refl _) _, Lib.NoAny.zero _ _⟩
  case round =>
    obtain ⟨i, hig, hit, hsz, hb, hno⟩ := hrel
    have HN : Aside (Lib.NoAny s.data.toList bt.data.toList i ∧ i + gk = s.size) := ⟨hno, hig⟩
    clear hno hig
    by_cases hi : i < s.size
    · by_cases hlo : (s[i]'hi).toNat < 128
      · have hnx := fun ty => Lib.run_next_ascii_at (P := Tryd.prog) wr _ s i ty hit hi hlo
        have hit2 : Aside ((wr.iterAt w.heap.size s (i + 1)).heap[w.heap.size]? = some (.stringIter s (i + 1))) := Lib.iterAt_heap wr _ s i (i + 1) hit
        have hb2 : Below w.heap.size w (wr.iterAt w.heap.size s (i + 1)) := Lib.below_iterAt hb (Nat.le_refl _) s (i + 1)
        have hsz2 : w.heap.size < (wr.iterAt w.heap.size s (i + 1)).heap.size := by rw [Lib.iterAt_size]; exact hsz
        have hxl : Aside (s.data.toList[i]? = some (s[i]'hi)) := Lib.data_getElem? s i hi
        have hcon := Lib.contains_iff_indexByte bt.data.toList (s[i]'hi)
        have hback : (((s[i]'hi).toNat : Int)).toNat.toUInt8 = (s[i]'hi) := by simp
        generalize hx : s[i]'hi = x at *
        clear hx hit
        generalize wr.iterAt w.heap.size s (i + 1) = W2 at *
        cases hin : bt.data.toList.contains x
        · rw [hin] at hcon
          have hlt : ¬ ((0 : Int) ≤ Lib.indexByte bt.data.toList x) := of_decide_eq_false hcon.symm
          clear hcon
          go_wp2_with (go_at_call 75; refine (Tryd.strings_IndexRune_ascii _ _ _ (by omega) (by omega)).mono ?_; rintro e w' ⟨rfl, hw⟩; rw [hw, hback])
          go_roundg (gk - 1)
          case measure => have := HN.out.2; omega
          case rel => exact ⟨i + 1, by have := HN.out.2; omega, hit2.out, hsz2, hb2, HN.out.1.succ hxl.out hin⟩
        · rw [hin] at hcon
          have hge : (0 : Int) ≤ Lib.indexByte bt.data.toList x := of_decide_eq_true hcon.symm
          clear hcon
          go_wp2_with (go_at_call 75; refine (Tryd.strings_IndexRune_ascii _ _ _ (by omega) (by omega)).mono ?_; rintro e w' ⟨rfl, hw⟩; rw [hw, hback])
          go_ret
          exact ⟨by rw [Lib.indexAny_hit HN.out.1 hxl.out hin]; rfl, hb2⟩
      · have hhi : 128 ≤ (s[i]'hi).toNat := by omega
        have hnx := fun ty => Lib.run_next_any_at (P := Tryd.prog) wr _ s i ty hit hi
        have hd1 : (128 : Int) ≤ ((Utf8.decode s i).1 : Int) := by have := (decode_high s i hi hhi).1; omega
        have hd2 := decode_valid s i
        have hd3 := valid_le hd2
        have hd4 : Aside (1 ≤ (Utf8.decode s i).2 ∧ i + (Utf8.decode s i).2 ≤ s.size) := ⟨(decode_high s i hi hhi).2, decode_end s i hi hhi⟩
        have hn2 : Aside (Lib.NoAny s.data.toList bt.data.toList (i + (Utf8.decode s i).2)) := noAny_hi hi hhi HN.out.1
        have hit2 : Aside ((wr.iterAt w.heap.size s (i + (Utf8.decode s i).2)).heap[w.heap.size]? = some (.stringIter s (i + (Utf8.decode s i).2))) := Lib.iterAt_heap wr _ s i _ hit
        have hb2 : Below w.heap.size w (wr.iterAt w.heap.size s (i + (Utf8.decode s i).2)) := Lib.below_iterAt hb (Nat.le_refl _) s _
        have hsz2 : w.heap.size < (wr.iterAt w.heap.size s (i + (Utf8.decode s i).2)).heap.size := by rw [Lib.iterAt_size]; exact hsz
        clear hit
        generalize (Utf8.decode s i).1 = r at *
        generalize (Utf8.decode s i).2 = wd at *
        generalize wr.iterAt w.heap.size s (i + wd) = W2 at *
        go_wp2_with (go_at_call 75; refine (indexRune_hi _ _ hd1 hd2 hd3).mono ?_; rintro e w' ⟨rfl, hbw⟩)
        go_roundg (s.size - (i + wd))
        case measure => have := HN.out.2; have := hd4.out; omega
        case rel => exact ⟨i + wd, by have := hd4.out; omega, (hbw.block _ hsz2).trans hit2.out, by have := hbw.size; omega, hb2.trans (hbw.mono (by omega)), hn2.out⟩
    · have hnx := fun ty => Lib.run_next_end_at (P := Tryd.prog) wr _ s i ty hit hi
      have hi' : Aside (i = s.size) := by show i = s.size; have := HN.out.2; omega
      go_wp2
      go_ret
      refine ⟨?_, hb⟩
      have h1 := HN.out.1
      rw [hi'.out, Lib.size_eq] at h1
      rw [Lib.indexAny_none h1]; rfl

/-- strings.IndexAny at a blank and a tab, whatever the string. -/
theorem indexAny_any (s : ByteArray) (w : World) (hs : s.size < 4294967281) :
    Calls Tryd.prog 65 #[.string s, .string bt] w fun e w' => e = .returned (.int .i64 (Lib.indexAny s.data.toList bt.data.toList)) ∧ Below w.heap.size w w' := by
  by_cases h8 : s.size ≤ 8
  · exact indexAny_short s w h8
  · refine (Tryd.strings_IndexAny_long (zero_of_info (show (Tryd.prog.info? 87).map (fun i => (i.zero, i.size)) = some (some (.agg (Array.replicate 256 (.bool false))), 256) by kernel_rfl)).1 s bt w (by decide) (by omega) hs (by decide) (ascii_of_all (by decide))).mono ?_
    rintro e w' ⟨he, rfl⟩
    exact ⟨he, ((Below.refl _ _).alloc (Nat.le_refl _) _).alloc (by simp) _⟩

/-- strings.TrimLeft at a blank and a tab. -/
theorem trimLeft_any (s : ByteArray) (w : World) :
    Calls Tryd.prog 51 #[.string s, .string bt] w fun e w' => e = .returned (.string ⟨(Lib.trimLeftS s.data.toList bt.data.toList).toArray⟩) ∧ Below w.heap.size w w' :=
  Any.strings_TrimLeft_laid Tryd.lays161 (by kernel_rfl) s bt w (by decide) (ascii_of_all (by decide))

end Go.Proofs.YtpmegcgmbhhfaaaDoor
