/-
  Walks: write and Format.
-/
import Derived.Test.YtpmegcgmbhhfaaaDoorWc
import Derived.Test.YtpmegcgmbhhfaaaDoorWi
import Derived.Test.YtpmegcgmbhhfaaaDoorShC
namespace Go.Proofs.YtpmegcgmbhhfaaaDoor
open Go.RowKit

theorem arg_bare {a : ByteArray} (h1 : bareL a.data.toList = true) (h0 : 0 < a.size) (h2 : ¬ ((a[0]'h0).toNat : Int) = 35) : Sp.arg a.data.toList = a.data.toList := by
  have hhd : a.data.toList.head? = some (a[0]'h0) := by rw [List.head?_eq_getElem?]; exact Lib.data_getElem? a 0 h0
  unfold Sp.arg
  rw [← bareL_eq, h1, hhd]
  have : (some (a[0]'h0) != some (35 : UInt8)) = true := by
    show (!(a[0]'h0 == UInt8.ofNat 35)) = true
    rw [byte_ne (by decide) h2]; rfl
  rw [this]; rfl
theorem arg_quoted {a : ByteArray} (h : bareL a.data.toList = false ∨ ∃ h0 : 0 < a.size, ((a[0]'h0).toNat : Int) = 35) : Sp.arg a.data.toList = 34 :: (a.data.toList.flatMap Sp.esc ++ [34]) := by
  unfold Sp.arg
  rcases h with h | ⟨h0, h⟩
  · rw [← bareL_eq, h]; rfl
  · have hhd : a.data.toList.head? = some (a[0]'h0) := by rw [List.head?_eq_getElem?]; exact Lib.data_getElem? a 0 h0
    rw [hhd, show a[0]'h0 = 35 from byte_of (by decide) h]
    simp
theorem esc_len (b : UInt8) : (Sp.esc b).length ≤ 2 := by
  unfold Sp.esc
  split
  · simp
  · split
    · simp
    · split <;> simp
theorem flat_len : ∀ l : List UInt8, (l.flatMap Sp.esc).length ≤ 2 * l.length
  | [] => by simp
  | b :: l => by
    have := flat_len l
    have := esc_len b
    rw [List.flatMap_cons, List.length_append]; simp only [List.length_cons]; omega
theorem take_flat {s : ByteArray} {k : Nat} (hk : k < s.size) : (s.data.toList.take (k + 1)).flatMap Sp.esc = (s.data.toList.take k).flatMap Sp.esc ++ Sp.esc s[k] := by
  rw [List.take_succ_eq_append_getElem (by simpa using hk), List.flatMap_append]
  simp
  rfl
theorem esc_plain {c : UInt8} (h1 : ¬ (c.toNat : Int) = 10) (h2 : ¬ (c.toNat : Int) = 9) (h3 : ¬ (c.toNat : Int) = 34) (h4 : ¬ (c.toNat : Int) = 92) : Sp.esc c = [c] := by
  have e1 : (c == 10) = false := byte_ne (k := 10) (by decide) h1
  have e2 : (c == 9) = false := byte_ne (k := 9) (by decide) h2
  have e3 : (c == 34) = false := byte_ne (k := 34) (by decide) h3
  have e4 : (c == 92) = false := byte_ne (k := 92) (by decide) h4
  unfold Sp.esc; rw [e1, e2, e3, e4]; rfl

theorem writeByte_k (B b : Nat) (l : List UInt8) (c : UInt8) (k : Int) (hk : (c.toNat : Int) = k) (w : World) (h : IsB B b l w) (hlen : l.length + 1 ≤ 140737488355328) (hBw : B ≤ w.heap.size) :
    Calls Tryd.prog 29 #[.pointer (some ⟨b, 0, none⟩), .int .u8 k] w fun e w' => e = .returned .nilIface ∧ IsB B b (l ++ [c]) w' ∧ Below B w w' ∧ KeptM b w w' := by
  subst hk; exact writeByte_m B b l c w h hlen hBw
theorem marked_bytes (s : ByteArray) (w v : World) : Marked (w.alloc (byteRow s v)).drew w.heap.size := by
  refine ⟨_, heap_alloc_new w _, fun c fr h => ?_⟩
  unfold byteRow at h
  injection h with h1 _ h3
  subst h1 h3
  show (bytesRow s _).size < (bytesRow s _).size + 1
  omega
theorem bytes_at {s : ByteArray} {w v wx : World} (h : wx.heap[w.heap.size]? = (w.alloc (byteRow s v)).drew.heap[w.heap.size]?) : ∀ k (hk : k < s.size), wx.cell? ⟨w.heap.size, k, none⟩ = some (.int .u8 (s[k].toNat : Int)) := by
  intro k hk
  rw [World.cell?_of_block (w := (w.alloc (byteRow s v)).drew) h]
  exact bytes_world s w v k hk

set_option maxRecDepth 100000 in
set_option maxHeartbeats 4000000 in
theorem write_any (B b : Nat) (l : List UInt8) (a : ByteArray) (w : World) (hB : IsB B b l w) (hBw : B ≤ w.heap.size) (hlen : l.length + 2 * a.size + 2 ≤ 140737488355328) :
    Calls Tryd.prog 30 #[.pointer (some ⟨b, 0, none⟩), .string a] w fun e w' => e = .returned (.tuple #[]) ∧ IsB B b (l ++ Sp.arg a.data.toList) w' ∧ Below B w w' ∧ KeptM b w w' := by
  have HB := hide hB
  clear hB
  have kc := run_bytes
  have Hbl := hide (isB_lt HB.out)
  have Hfl := hide (flat_len a.data.toList)
  go_enter Tryd.func30, Tryd.ntmps30
  go_wp2_with fail
  refine (bare_any a _ (by unfold maxLen; omega)).mono ?_
  rintro e w1 ⟨rfl, hb1⟩
  have HB1 := hide (isB_more HB.out hb1)
  by_cases hba : bareL a.data.toList = true
  · have h0 : 0 < a.size := by
      rcases Nat.eq_zero_or_pos a.size with h | h
      · rw [Lib.size_eq] at h
        rw [List.eq_nil_of_length_eq_zero h] at hba
        simp [bareL] at hba
      · exact h
    have hi0 : (0 : Int) < (a.size : Int) := by omega
    by_cases h35 : ((a[0]'h0).toNat : Int) = 35
    · have HA := hide (arg_quoted (Or.inr ⟨h0, h35⟩))
      have h35' : (((a[0]'h0).toNat : Int) != 35) = false := by simpa using h35
      clear h35
      go_wp2_with (go_at_call 29; (with_reducible refine (writeByte_k B b l 34 34 rfl _ HB1.out (by omega) (by have := hb1.size; omega)).mono ?_); rintro e w2 ⟨rfl, hB2, hb2, hk2⟩)
      have hbw2 : Below B w w2 := (hb1.mono hBw).trans hb2
      go_wp2
      have HB3 := hide (show IsB B b (l ++ [34]) (w2.alloc (byteRow a w2)).drew from isB_more hB2 (((Below.refl _ _).alloc (Nat.le_refl _) _).drew))
      have hbw3 : Below B w (w2.alloc (byteRow a w2)).drew := ((hbw2.alloc (by have := hbw2.size; omega) _).drew)
      have HM := hide (marked_bytes a w2 w2)
      have Hq := hide (show b < w2.heap.size from by have := isB_lt hB2; exact this)
      have hkw3 : KeptM b w (w2.alloc (byteRow a w2)).drew := (((KeptM.below hb1).trans hk2).alloc _)
      clear kc hB2
      go_loopg [21] a.size (fun g i wx => ∃ k : Nat, k + g = a.size ∧ i = .int .i64 k ∧ IsB B b (l ++ 34 :: (a.data.toList.take k).flatMap Sp.esc) wx ∧ Below B w wx ∧ KeptM b w wx ∧ wx.heap[w2.heap.size]? = (w2.alloc (byteRow a w2)).drew.heap[w2.heap.size]?)
      case atStart => exact ⟨0, by omega, rfl, by simpa using HB3.out, hbw3, hkw3, rfl⟩
      case round =>
        obtain ⟨k, hkg, rfl, hB4, hb4, hkm, hrow⟩ := hrel
        have HB4 := hide hB4
        have Hrow := hide hrow
        have HG := hide hkg
        clear hB4 hrow
        have hks : k ≤ a.size := by omega
        clear hkg
        have HLl := hide (show (l ++ 34 :: (a.data.toList.take k).flatMap Sp.esc).length ≤ l.length + 1 + 2 * k by
          have := flat_len (a.data.toList.take k)
          have := List.length_take_le k a.data.toList
          simp only [List.length_append, List.length_cons]; omega)
        by_cases hlt : k < a.size
        · have hc := bytes_at Hrow.out k hlt
          have HT := hide (take_flat hlt)
          have Hm2 := hide (show ∀ wy, KeptM b wr wy → wy.heap[w2.heap.size]? = (w2.alloc (byteRow a w2)).drew.heap[w2.heap.size]? from fun wy hk => by
            rw [hk _ (by have := Hq.out; omega) (HM.out.keep Hrow.out)]; exact Hrow.out)
          by_cases c10 : ((a[k]'hlt).toNat : Int) = 10
          · have HE := hide (show Sp.esc (a[k]'hlt) = [92, 110] by rw [show a[k]'hlt = 10 from byte_of (by decide) c10]; rfl)
            go_wp2_with (go_at_call 28; (with_reducible refine (writeString_m B b _ ⟨#[92, 110]⟩ _ HB4.out (by have := HLl.out; have : (⟨#[92, 110]⟩ : ByteArray).size = 2 := rfl; omega) (by have := hb4.size; omega)).mono ?_); rintro e wy ⟨rfl, hB5, hb5, hk5⟩)
            go_roundg (gk - 1)
            case measure => have := HG.out; omega
            case rel => exact ⟨k + 1, by have := HG.out; omega, by go_num, by rw [HT.out, HE.out]; simpa using hB5, hb4.trans hb5, hkm.trans hk5, Hm2.out _ hk5⟩
          · by_cases c9 : ((a[k]'hlt).toNat : Int) = 9
            · have HE := hide (show Sp.esc (a[k]'hlt) = [92, 116] by rw [show a[k]'hlt = 9 from byte_of (by decide) c9]; rfl)
              go_wp2_with (go_at_call 28; (with_reducible refine (writeString_m B b _ ⟨#[92, 116]⟩ _ HB4.out (by have := HLl.out; have : (⟨#[92, 116]⟩ : ByteArray).size = 2 := rfl; omega) (by have := hb4.size; omega)).mono ?_); rintro e wy ⟨rfl, hB5, hb5, hk5⟩)
              go_roundg (gk - 1)
              case measure => have := HG.out; omega
              case rel => exact ⟨k + 1, by have := HG.out; omega, by go_num, by rw [HT.out, HE.out]; simpa using hB5, hb4.trans hb5, hkm.trans hk5, Hm2.out _ hk5⟩
            · by_cases c34 : ((a[k]'hlt).toNat : Int) = 34
              · have HE := hide (show Sp.esc (a[k]'hlt) = [92, 34] by rw [show a[k]'hlt = 34 from byte_of (by decide) c34]; rfl)
                go_wp2_with fail
                refine (writeByte_k B b _ 92 92 rfl _ HB4.out (by have := HLl.out; omega) (by have := hb4.size; omega)).mono ?_
                rintro e wy ⟨rfl, hB5, hb5, hk5⟩
                go_wp2_with fail
                refine (writeByte_k B b _ 34 34 rfl _ hB5 (by have := HLl.out; simp at this ⊢; omega) (by have := hb4.size; have := hb5.size; omega)).mono ?_
                rintro e wz ⟨rfl, hB6, hb6, hk6⟩
                have hk7 := hk5.trans hk6
                have hb7 := hb4.trans (hb5.trans hb6)
                clear hB5 hk5 hk6
                go_wp2
                go_roundg (gk - 1)
                case measure => have := HG.out; omega
                case rel => exact ⟨k + 1, by have := HG.out; omega, by go_num, by rw [HT.out, HE.out]; simpa using hB6, hb7, hkm.trans hk7, Hm2.out _ hk7⟩
              · by_cases c92 : ((a[k]'hlt).toNat : Int) = 92
                · have HE := hide (show Sp.esc (a[k]'hlt) = [92, 92] by rw [show a[k]'hlt = 92 from byte_of (by decide) c92]; rfl)
                  go_wp2_with fail
                  refine (writeByte_k B b _ 92 92 rfl _ HB4.out (by have := HLl.out; omega) (by have := hb4.size; omega)).mono ?_
                  rintro e wy ⟨rfl, hB5, hb5, hk5⟩
                  go_wp2_with fail
                  refine (writeByte_k B b _ 92 92 rfl _ hB5 (by have := HLl.out; simp at this ⊢; omega) (by have := hb4.size; have := hb5.size; omega)).mono ?_
                  rintro e wz ⟨rfl, hB6, hb6, hk6⟩
                  have hk7 := hk5.trans hk6
                  have hb7 := hb4.trans (hb5.trans hb6)
                  clear hB5 hk5 hk6
                  go_wp2
                  go_roundg (gk - 1)
                  case measure => have := HG.out; omega
                  case rel => exact ⟨k + 1, by have := HG.out; omega, by go_num, by rw [HT.out, HE.out]; simpa using hB6, hb7, hkm.trans hk7, Hm2.out _ hk7⟩
                · have HE := hide (esc_plain c10 c9 c34 c92)
                  have d10 : (((a[k]'hlt).toNat : Int) == 10) = false := by simpa using c10
                  have d9 : (((a[k]'hlt).toNat : Int) == 9) = false := by simpa using c9
                  have d34 : (((a[k]'hlt).toNat : Int) == 34) = false := by simpa using c34
                  have d92 : (((a[k]'hlt).toNat : Int) == 92) = false := by simpa using c92
                  clear c10 c9 c34 c92
                  go_wp2_with (go_at_call 29; (with_reducible refine (writeByte_m B b _ (a[k]'hlt) _ HB4.out (by have := HLl.out; omega) (by have := hb4.size; omega)).mono ?_); rintro e wy ⟨rfl, hB5, hb5, hk5⟩)
                  go_roundg (gk - 1)
                  case measure => have := HG.out; omega
                  case rel => exact ⟨k + 1, by have := HG.out; omega, by go_num, by rw [HT.out, HE.out]; simpa using hB5, hb4.trans hb5, hkm.trans hk5, Hm2.out _ hk5⟩
        · have HE := hide (show (a.data.toList.take k) = a.data.toList from List.take_of_length_le (by rw [← Lib.size_eq]; omega))
          go_wp2_with (go_at_call 29; (with_reducible refine (writeByte_k B b _ 34 34 rfl _ HB4.out (by have := HLl.out; omega) (by have := hb4.size; omega)).mono ?_); rintro e wy ⟨rfl, hB5, hb5, hk5⟩)
          go_end0
          refine ⟨rfl, ?_, hb4.trans hb5, hkm.trans hk5⟩
          rw [HA.out]
          rw [HE.out] at hB5
          simpa using hB5
    · have h35' : (((a[0]'h0).toNat : Int) != 35) = true := by simpa using h35
      have HA := hide (arg_bare hba h0 h35)
      clear h35
      go_wp2_with (go_at_call 28; (with_reducible refine (writeString_m B b l a _ HB1.out (by omega) (by have := hb1.size; omega)).mono ?_); rintro e w2 ⟨rfl, hB2, hb2, hk2⟩)
      refine bodyPost_ret (results_none rfl _ _ _) rfl ⟨rfl, ?_, (hb1.mono hBw).trans hb2, (KeptM.below hb1).trans hk2⟩
      rw [HA.out]; exact hB2
  · have hba' : bareL a.data.toList = false := by simpa using hba
    have HA := hide (arg_quoted (Or.inl hba'))
    clear hba
    go_wp2_with (go_at_call 29; (with_reducible refine (writeByte_k B b l 34 34 rfl _ HB1.out (by omega) (by have := hb1.size; omega)).mono ?_); rintro e w2 ⟨rfl, hB2, hb2, hk2⟩)
    have hbw2 : Below B w w2 := (hb1.mono hBw).trans hb2
    go_wp2
    have HB3 := hide (show IsB B b (l ++ [34]) (w2.alloc (byteRow a w2)).drew from isB_more hB2 (((Below.refl _ _).alloc (Nat.le_refl _) _).drew))
    have hbw3 : Below B w (w2.alloc (byteRow a w2)).drew := ((hbw2.alloc (by have := hbw2.size; omega) _).drew)
    have HM := hide (marked_bytes a w2 w2)
    have Hq := hide (show b < w2.heap.size from by have := isB_lt hB2; exact this)
    have hkw3 : KeptM b w (w2.alloc (byteRow a w2)).drew := (((KeptM.below hb1).trans hk2).alloc _)
    clear kc hB2
    go_loopg [21] a.size (fun g i wx => ∃ k : Nat, k + g = a.size ∧ i = .int .i64 k ∧ IsB B b (l ++ 34 :: (a.data.toList.take k).flatMap Sp.esc) wx ∧ Below B w wx ∧ KeptM b w wx ∧ wx.heap[w2.heap.size]? = (w2.alloc (byteRow a w2)).drew.heap[w2.heap.size]?)
    case atStart => exact ⟨0, by omega, rfl, by simpa using HB3.out, hbw3, hkw3, rfl⟩
    case round =>
      obtain ⟨k, hkg, rfl, hB4, hb4, hkm, hrow⟩ := hrel
      have HB4 := hide hB4
      have Hrow := hide hrow
      have HG := hide hkg
      clear hB4 hrow
      have hks : k ≤ a.size := by omega
      clear hkg
      have HLl := hide (show (l ++ 34 :: (a.data.toList.take k).flatMap Sp.esc).length ≤ l.length + 1 + 2 * k by
        have := flat_len (a.data.toList.take k)
        have := List.length_take_le k a.data.toList
        simp only [List.length_append, List.length_cons]; omega)
      by_cases hlt : k < a.size
      · have hc := bytes_at Hrow.out k hlt
        have HT := hide (take_flat hlt)
        have Hm2 := hide (show ∀ wy, KeptM b wr wy → wy.heap[w2.heap.size]? = (w2.alloc (byteRow a w2)).drew.heap[w2.heap.size]? from fun wy hk => by
          rw [hk _ (by have := Hq.out; omega) (HM.out.keep Hrow.out)]; exact Hrow.out)
        by_cases c10 : ((a[k]'hlt).toNat : Int) = 10
        · have HE := hide (show Sp.esc (a[k]'hlt) = [92, 110] by rw [show a[k]'hlt = 10 from byte_of (by decide) c10]; rfl)
          go_wp2_with (go_at_call 28; (with_reducible refine (writeString_m B b _ ⟨#[92, 110]⟩ _ HB4.out (by have := HLl.out; have : (⟨#[92, 110]⟩ : ByteArray).size = 2 := rfl; omega) (by have := hb4.size; omega)).mono ?_); rintro e wy ⟨rfl, hB5, hb5, hk5⟩)
          go_roundg (gk - 1)
          case measure => have := HG.out; omega
          case rel => exact ⟨k + 1, by have := HG.out; omega, by go_num, by rw [HT.out, HE.out]; simpa using hB5, hb4.trans hb5, hkm.trans hk5, Hm2.out _ hk5⟩
        · by_cases c9 : ((a[k]'hlt).toNat : Int) = 9
          · have HE := hide (show Sp.esc (a[k]'hlt) = [92, 116] by rw [show a[k]'hlt = 9 from byte_of (by decide) c9]; rfl)
            go_wp2_with (go_at_call 28; (with_reducible refine (writeString_m B b _ ⟨#[92, 116]⟩ _ HB4.out (by have := HLl.out; have : (⟨#[92, 116]⟩ : ByteArray).size = 2 := rfl; omega) (by have := hb4.size; omega)).mono ?_); rintro e wy ⟨rfl, hB5, hb5, hk5⟩)
            go_roundg (gk - 1)
            case measure => have := HG.out; omega
            case rel => exact ⟨k + 1, by have := HG.out; omega, by go_num, by rw [HT.out, HE.out]; simpa using hB5, hb4.trans hb5, hkm.trans hk5, Hm2.out _ hk5⟩
          · by_cases c34 : ((a[k]'hlt).toNat : Int) = 34
            · have HE := hide (show Sp.esc (a[k]'hlt) = [92, 34] by rw [show a[k]'hlt = 34 from byte_of (by decide) c34]; rfl)
              go_wp2_with fail
              refine (writeByte_k B b _ 92 92 rfl _ HB4.out (by have := HLl.out; omega) (by have := hb4.size; omega)).mono ?_
              rintro e wy ⟨rfl, hB5, hb5, hk5⟩
              go_wp2_with fail
              refine (writeByte_k B b _ 34 34 rfl _ hB5 (by have := HLl.out; simp at this ⊢; omega) (by have := hb4.size; have := hb5.size; omega)).mono ?_
              rintro e wz ⟨rfl, hB6, hb6, hk6⟩
              have hk7 := hk5.trans hk6
              have hb7 := hb4.trans (hb5.trans hb6)
              clear hB5 hk5 hk6
              go_wp2
              go_roundg (gk - 1)
              case measure => have := HG.out; omega
              case rel => exact ⟨k + 1, by have := HG.out; omega, by go_num, by rw [HT.out, HE.out]; simpa using hB6, hb7, hkm.trans hk7, Hm2.out _ hk7⟩
            · by_cases c92 : ((a[k]'hlt).toNat : Int) = 92
              · have HE := hide (show Sp.esc (a[k]'hlt) = [92, 92] by rw [show a[k]'hlt = 92 from byte_of (by decide) c92]; rfl)
                go_wp2_with fail
                refine (writeByte_k B b _ 92 92 rfl _ HB4.out (by have := HLl.out; omega) (by have := hb4.size; omega)).mono ?_
                rintro e wy ⟨rfl, hB5, hb5, hk5⟩
                go_wp2_with fail
                refine (writeByte_k B b _ 92 92 rfl _ hB5 (by have := HLl.out; simp at this ⊢; omega) (by have := hb4.size; have := hb5.size; omega)).mono ?_
                rintro e wz ⟨rfl, hB6, hb6, hk6⟩
                have hk7 := hk5.trans hk6
                have hb7 := hb4.trans (hb5.trans hb6)
                clear hB5 hk5 hk6
                go_wp2
                go_roundg (gk - 1)
                case measure => have := HG.out; omega
                case rel => exact ⟨k + 1, by have := HG.out; omega, by go_num, by rw [HT.out, HE.out]; simpa using hB6, hb7, hkm.trans hk7, Hm2.out _ hk7⟩
              · have HE := hide (esc_plain c10 c9 c34 c92)
                have d10 : (((a[k]'hlt).toNat : Int) == 10) = false := by simpa using c10
                have d9 : (((a[k]'hlt).toNat : Int) == 9) = false := by simpa using c9
                have d34 : (((a[k]'hlt).toNat : Int) == 34) = false := by simpa using c34
                have d92 : (((a[k]'hlt).toNat : Int) == 92) = false := by simpa using c92
                clear c10 c9 c34 c92
                go_wp2_with (go_at_call 29; (with_reducible refine (writeByte_m B b _ (a[k]'hlt) _ HB4.out (by have := HLl.out; omega) (by have := hb4.size; omega)).mono ?_); rintro e wy ⟨rfl, hB5, hb5, hk5⟩)
                go_roundg (gk - 1)
                case measure => have := HG.out; omega
                case rel => exact ⟨k + 1, by have := HG.out; omega, by go_num, by rw [HT.out, HE.out]; simpa using hB5, hb4.trans hb5, hkm.trans hk5, Hm2.out _ hk5⟩
      · have HE := hide (show (a.data.toList.take k) = a.data.toList from List.take_of_length_le (by rw [← Lib.size_eq]; omega))
        go_wp2_with (go_at_call 29; (with_reducible refine (writeByte_k B b _ 34 34 rfl _ HB4.out (by have := HLl.out; omega) (by have := hb4.size; omega)).mono ?_); rintro e wy ⟨rfl, hB5, hb5, hk5⟩)
        go_end0
        refine ⟨rfl, ?_, hb4.trans hb5, hkm.trans hk5⟩
        rw [HA.out]
        rw [HE.out] at hB5
        simpa using hB5
end Go.Proofs.YtpmegcgmbhhfaaaDoor
