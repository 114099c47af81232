/-
  Walks: the statement ScriptLines.
-/
import Derived.Test.YtpmegcgmbhhfaaaDoorWn
import Derived.Test.YtpmegcgmbhhfaaaDoorSpecD
namespace Go.Proofs.YtpmegcgmbhhfaaaDoor
open Go.RowKit

theorem nl_data : (⟨#[10]⟩ : ByteArray).data.toList = [10] := rfl
theorem split_data (s : ByteArray) (j : Nat) (x : ByteArray) (h : (Lib.splitB ⟨#[10]⟩ 0 (Lib.countB s ⟨#[10]⟩) s)[j]? = some x) : (Sp.pieces s.data.toList)[j]? = some x.data.toList := by
  rw [← Sp.splitB_pieces, List.getElem?_map, h]; rfl
theorem split_take (s : ByteArray) (q : Nat) : ((Lib.splitB ⟨#[10]⟩ 0 (Lib.countB s ⟨#[10]⟩) s).take q).map (·.data.toList) = (Sp.pieces s.data.toList).take q := by
  rw [List.map_take, Sp.splitB_pieces]
theorem split_len (s : ByteArray) : (Lib.splitB ⟨#[10]⟩ 0 (Lib.countB s ⟨#[10]⟩) s).length = Lib.countB s ⟨#[10]⟩ + 1 := Lib.splitB_all _ (by decide) 0 _ s rfl
theorem split_cells (L : List ByteArray) (w : World) (j : Nat) (x : ByteArray) (h : L[j]? = some x) : (w.alloc (.cells (L.map Value.string).toArray 9)).cell? ⟨w.heap.size, j, none⟩ = some (.string x) := by
  rw [Lib.cell_of_heap (heap_alloc_new w _)]
  simp [h]

/-- strings.Join of the first rows of a split. -/
theorem join_take (L : List ByteArray) (b q c : Nat) (w : World) (hcell : ∀ (j : Nat) x, L[j]? = some x → w.cell? ⟨b, j, none⟩ = some (.string x)) (hb : b < w.heap.size) (hq : q ≤ L.length) (hc : q ≤ c) (hl : L.length ≤ 5000) (hlen : (Sp.joinL ((L.take q).map (·.data.toList))).length ≤ 2001) :
    Calls Tryd.prog 18 #[.slice (some ⟨b, 0, none⟩) q c, .string ⟨#[10]⟩] w fun e w' => e = .returned (.string ⟨(Sp.joinL ((L.take q).map (·.data.toList))).toArray⟩) ∧ Below w.heap.size w w' := by
  rcases Nat.eq_zero_or_pos q with h0 | h0
  · subst h0
    refine (Tryd.strings_Join_none (some ⟨b, 0, none⟩) c ⟨#[10]⟩ w).mono ?_
    rintro e w' ⟨rfl, rfl⟩
    exact ⟨rfl, Below.refl _ _⟩
  · have hxl : (L.take q).length = q := by rw [List.length_take]; omega
    have h := Tryd.strings_Join b 0 c (L.take q) ⟨#[10]⟩ w (fun j x hx => by
      rw [Nat.zero_add]
      refine hcell j x ?_
      rw [List.getElem?_take] at hx
      split at hx
      · exact hx
      · cases hx) hb (by rw [hxl]; omega) (by rw [hxl]; exact hc) (by rw [nl_data, Sp.lib_join]; omega)
    rw [hxl, nl_data, Sp.lib_join] at h
    exact h

set_option maxRecDepth 100000 in
set_option maxHeartbeats 4000000 in
theorem scriptLines_walk (s more : ByteArray) (m : Int) (w : World) (hs : s.size ≤ maxLen) (hmo : more.size ≤ maxLen) (hm : w.cell? ⟨0, 0, none⟩ = some (.int .i64 m)) :
    Calls Tryd.prog 6 #[.string s, .string more] w fun e w' => e = .returned (.bool true) ∧ Below w.heap.size w w' := by
  unfold maxLen at hs hmo
  go_enter Tryd.func6, Tryd.ntmps6
  go_wp2_with fail
  refine (awake_any m _ hm).mono ?_
  rintro e w1 ⟨rfl, hb1⟩
  by_cases hbig : 2000 < s.size
  · go_wp2
    go_ret
    exact ⟨rfl, hb1⟩
  · by_cases hbig2 : 2000 < more.size
    · have h1 : decide (2000 < (s.size : Int)) = false := by simp; omega
      go_wp2
      go_ret
      exact ⟨rfl, hb1⟩
    · have h1 : decide (2000 < (s.size : Int)) = false := by simp; omega
      have h2 : decide (2000 < (more.size : Int)) = false := by simp; omega
      go_wp2_with fail
      refine (parse_any s m _ (by unfold maxLen; omega) (cell_below hm hb1)).mono ?_
      rintro e w2 ⟨hres, hb2⟩
      have hbw : Below w.heap.size w w2 := hb1.trans (hb2.mono hb1.size)
      clear hb1 hb2 h1 h2
      cases hp : Sp.parse s.data.toList with
      | ok cs =>
        rw [hp] at hres
        obtain ⟨A, cp, rfl, hcm⟩ := hres
        clear hcm hp
        go_wp2
        go_ret
        exact ⟨rfl, hbw⟩
      | error ke =>
        obtain ⟨k, er⟩ := ke
        rw [hp] at hres
        have hsz : s.data.toList.length ≤ 2000 := by rw [← Lib.size_eq]; omega
        obtain ⟨rfl, hlen, hk1, hk2, ⟨ml, hq1⟩, hq2, hq3⟩ := Sp.parse_error hp hsz
        obtain ⟨k, rfl⟩ : ∃ j, k = j + 1 := ⟨k - 1, by omega⟩
        rw [Nat.add_sub_cancel] at hq1 hq3
        obtain rfl : e = .returned (.tuple #[.slice none 0 0, .int .i64 ((k + 1 : Nat) : Int), .int .i64 3]) := hres
        have HL := hide (split_len s)
        have HPl := hide (show (Sp.pieces s.data.toList).length = Lib.countB s ⟨#[10]⟩ + 1 by rw [← Sp.splitB_pieces, List.length_map, split_len])
        have hcl : Lib.countB s ⟨#[10]⟩ ≤ 2000 := by have := Lib.countB_le ⟨#[10]⟩ (by decide) s.size s (Nat.le_refl _); omega
        have HK := hide (show k ≤ Lib.countB s ⟨#[10]⟩ by have := HPl.out; omega)
        have HS := hide hlen
        have HQ1 := hide hq1
        have HQ2 := hide hq2
        have HQ3 := hide hq3
        clear hq1 hq2 hq3 hlen hp hk1 hk2
        go_wp2_with fail
        refine (Tryd.strings_Split s ⟨#[10]⟩ m _ (by omega) (cell_below hm hbw) (by decide)).mono ?_
        rintro e w3 ⟨rfl, rfl⟩
        have HC := hide (split_cells (Lib.splitB ⟨#[10]⟩ 0 (Lib.countB s ⟨#[10]⟩) s) w2)
        have hb3 : Below w.heap.size w (w2.alloc (.cells ((Lib.splitB ⟨#[10]⟩ 0 (Lib.countB s ⟨#[10]⟩) s).map Value.string).toArray 9)) := hbw.alloc hbw.size _
        have hlt : w2.heap.size < (w2.alloc (.cells ((Lib.splitB ⟨#[10]⟩ 0 (Lib.countB s ⟨#[10]⟩) s).map Value.string).toArray 9)).heap.size := by simp
        generalize (w2.alloc (.cells ((Lib.splitB ⟨#[10]⟩ 0 (Lib.countB s ⟨#[10]⟩) s).map Value.string).toArray 9)) = W3 at hb3 hlt HC ⊢
        have HT := hide (fun q => split_take s q)
        generalize Lib.splitB ⟨#[10]⟩ 0 (Lib.countB s ⟨#[10]⟩) s = L at HC HL HT
        generalize Lib.countB s ⟨#[10]⟩ = N at HL HPl hcl HK ⊢
        have hkN : k ≤ N := HK.out
        go_wp2_with fail
        refine (join_take L w2.heap.size k (N + 1) W3 HC.out hlt (by have := HL.out; omega) (by omega) (by have := HL.out; omega) (by rw [HT.out]; exact HS.out k)).mono ?_
        rintro e w4 ⟨rfl, hb4⟩
        rw [HT.out]
        have hb4w := hb3.trans (hb4.mono hb3.size)
        go_wp2_with fail
        refine (parse_any ⟨(Sp.joinL ((Sp.pieces s.data.toList).take k)).toArray⟩ m _ (by have := HS.out k; rw [mk_size]; unfold maxLen; omega) (cell_below hm hb4w)).mono ?_
        rintro e w5 ⟨hres5, hb5⟩
        rw [show (⟨(Sp.joinL ((Sp.pieces s.data.toList).take k)).toArray⟩ : ByteArray).data.toList = Sp.joinL ((Sp.pieces s.data.toList).take k) from rfl, HQ1.out] at hres5
        obtain ⟨A5, cp5, rfl, _⟩ := hres5
        have hb5k := hb4.trans (hb5.mono hb4.size)
        have hb5w := hb4w.trans (hb5.mono hb4w.size)
        clear hb4 hb5 hb4w
        go_wp2_with fail
        refine (join_take L w2.heap.size (k + 1) (N + 1) w5 (fun j x hx => cell_below (HC.out j x hx) hb5k) (by have := hb5k.size; omega) (by have := HL.out; omega) (by omega) (by have := HL.out; omega) (by rw [HT.out]; exact HS.out (k + 1))).mono ?_
        rintro e w6 ⟨rfl, hb6⟩
        rw [HT.out]
        have hb6k := hb5k.trans (hb6.mono hb5k.size)
        have hb6w := hb5w.trans (hb6.mono hb5w.size)
        clear hb6 hb5k hb5w
        have HJ := hide (show (⟨(Sp.joinL ((Sp.pieces s.data.toList).take (k + 1))).toArray⟩ : ByteArray).size ≤ 2001 by rw [mk_size]; exact HS.out (k + 1))
        have HD := hide (show (⟨(Sp.joinL ((Sp.pieces s.data.toList).take (k + 1))).toArray⟩ : ByteArray).data.toList = Sp.joinL ((Sp.pieces s.data.toList).take (k + 1)) from rfl)
        generalize (⟨(Sp.joinL ((Sp.pieces s.data.toList).take (k + 1))).toArray⟩ : ByteArray) = J at HJ HD ⊢
        have hadd1 := run_string_add_sum (P := Tryd.prog) w6 J ⟨#[10]⟩ (by have := HJ.out; have : (⟨#[10]⟩ : ByteArray).size = 1 := rfl; omega)
        have hadd2 := run_string_add_sum (P := Tryd.prog) w6 (J ++ ⟨#[10]⟩) more (by have := HJ.out; have : (⟨#[10]⟩ : ByteArray).size = 1 := rfl; rw [size_add]; omega)
        go_wp2_with fail
        have hsz7 : ((J ++ ⟨#[10]⟩) ++ more).size ≤ 5000 := by
          have h1 := HJ.out
          have h2 : (⟨#[10]⟩ : ByteArray).size = 1 := rfl
          have h3 := size_add J ⟨#[10]⟩
          have h4 := size_add (J ++ ⟨#[10]⟩) more
          omega
        have HQ7 := hide (show Sp.parse ((J ++ ⟨#[10]⟩) ++ more).data.toList = .error (k + 1, 3) by
          rw [data_add, data_add, HD.out]
          have := HQ2.out more.data.toList (by rw [← Lib.size_eq]; omega)
          simpa using this)
        clear hadd1 hadd2
        generalize ((J ++ ⟨#[10]⟩) ++ more) = JJ at hsz7 HQ7 ⊢
        refine (parse_any JJ m _ (by unfold maxLen; omega) (cell_below hm hb6w)).mono ?_
        rintro e w7 ⟨hres7, hb7⟩
        rw [HQ7.out] at hres7
        obtain rfl : _ = Ending.returned (.tuple #[.slice none 0 0, .int .i64 ((k + 1 : Nat) : Int), .int .i64 3]) := hres7
        have hb7k := hb6k.trans (hb7.mono hb6k.size)
        have hb7w := hb6w.trans (hb7.mono hb6w.size)
        clear hb7 hb6k hb6w
        have hkL : k < L.length := by have := HL.out; omega
        have hcx := cell_below (HC.out k _ (List.getElem?_eq_getElem hkL)) hb7k
        have HX := hide (show (Sp.pieces s.data.toList)[k]? = some (L[k]'hkL).data.toList by
          have h1 := HT.out (k + 1)
          have h2 : ((L.take (k + 1)).map (·.data.toList))[k]? = some (L[k]'hkL).data.toList := by
            rw [List.getElem?_map, List.getElem?_take_of_lt (by omega), List.getElem?_eq_getElem hkL]; rfl
          rw [h1, List.getElem?_take_of_lt (by omega)] at h2
          exact h2)
        have HZ := hide (show (L[k]'hkL).size ≤ 5000 by
          have h1 := Sp.pieces_sum s.data.toList []
          have h2 := Sp.sum_take_le _ _ _ HX.out
          have h3 := Lib.size_eq (L[k]'hkL)
          simp only [List.length_nil] at h1
          unfold Sp.pieces at h2
          omega)
        generalize (L[k]'hkL) = X at hcx HX HZ
        go_wp2_with fail
        refine (parse_any X m _ (by have := HZ.out; unfold maxLen; omega) (cell_below hm hb7w)).mono ?_
        rintro e w8 ⟨hres8, hb8⟩
        rw [HQ3.out _ HX.out] at hres8
        obtain rfl : _ = Ending.returned (.tuple #[.slice none 0 0, .int .i64 ((1 : Nat) : Int), .int .i64 3]) := hres8
        have hb8w := hb7w.trans (hb8.mono hb7w.size)
        clear hb8 hb7w hb7k hcx
        go_wp2
        go_ret
        exact ⟨rfl, hb8w⟩
end Go.Proofs.YtpmegcgmbhhfaaaDoor
