/-
  Walks: the statement ScriptQuotes.
-/
import Derived.Test.YtpmegcgmbhhfaaaDoorWr
import Derived.Test.YtpmegcgmbhhfaaaDoorSpecE
import Derived.Shelf.Strings.MapGrows
namespace Go.Proofs.YtpmegcgmbhhfaaaDoor
open Go.RowKit

/-- The mapping that drops what no argument may hold. -/
theorem keep_any (x : Nat) (hx : x ≤ 1114111) (w : World) :
    Calls Tryd.prog 21 #[.int .i32 (x : Int)] w fun e w' => e = .returned (.int .i32 (Sp.cleanF x)) ∧ w = w' := by
  go_enter Tryd.func21, Tryd.ntmps21
  go_wp2
  all_goals
    go_ret
    refine ⟨ret_int ?_, rfl⟩
    unfold Sp.cleanF
    try simp only [beq_iff_eq, beq_eq_false_iff_ne, ne_eq] at *
    first | decide | (split <;> omega)

/-- 'clean' of the statement. -/
theorem clean_any (s : ByteArray) (w : World) (hs : s.size ≤ 200) (hT : Lib.Utf8Tabs 1 2 w) :
    Calls Tryd.prog 19 #[.string s] w fun e w' => e = .returned (.string ⟨(Lib.mapD Sp.cleanF s.data.toList).toArray⟩) ∧ Below w.heap.size w w' := by
  go_enter Tryd.func19, Tryd.ntmps19
  go_wp2_with fail
  refine (Any.strings_Map_grows Tryd.lays230 Tryd.Builder_Extra_230 21 #[] (enters_of Tryd.func21 (by kernel_rfl) rfl) Sp.cleanF s _ (by omega) ?_ ?_ hT).mono ?_
  · intro W x hx hb
    exact (keep_any x hx W).mono fun e w' ⟨h1, h2⟩ => ⟨h1, h2 ▸ Below.refl _ _⟩
  · intro x hx
    unfold Sp.cleanF
    split <;> omega
  rintro e w1 ⟨rfl, hb⟩
  go_wp2
  go_ret
  exact ⟨rfl, hb⟩

def xw : ByteArray := ⟨#[120]⟩
theorem quote_list {a b : ByteArray} (ha : a.data.toList.all Sp.arg1 = true) (hb : b.data.toList.all Sp.arg1 = true) (h1 : a.size ≤ 200) (h2 : b.size ≤ 200) :
    okL [⟨xw, [a, b, a]⟩] = true ∧ great [⟨xw, [a, b, a]⟩] = false ∧ Sp.fits (ofCmd ⟨xw, [a, b, a]⟩) = true := by
  have g : ∀ c : ByteArray, c.data.toList.all Sp.arg1 = true → c.size ≤ 200 → argFits c = true := fun c hc h => by
    unfold argFits
    have e : argB = Sp.arg1 := by
      funext b
      rw [Bool.eq_iff_iff]; simp [argB, Sp.arg1]; omega
    rw [e, hc]; simp; omega
  have gf : fits ⟨xw, [a, b, a]⟩ = true := by
    unfold fits
    simp only [List.all_cons, List.all_nil, g a ha h1, g b hb h2]
    rfl
  refine ⟨by unfold okL; simp [gf], ?_, by rw [fits_ofCmd]; exact gf⟩
  unfold great okCmd greatArg
  have : xw.size = 1 := rfl
  simp [this]; omega
/-- One line. -/
theorem quote_count {a b : ByteArray} (h : Sp.fits (ofCmd ⟨xw, [a, b, a]⟩) = true) : (fmtL [⟨xw, [a, b, a]⟩]).count 10 = 1 := by
  have := Sp.count_line h
  rw [line_ofCmd] at this
  have e : fmtL [⟨xw, [a, b, a]⟩] = lineB ⟨xw, [a, b, a]⟩ := by simp [fmtL]
  rw [e]; exact this

set_option maxRecDepth 100000 in
set_option maxHeartbeats 4000000 in
theorem scriptQuotes_walk (s t : ByteArray) (m : Int) (w : World) (hs : s.size ≤ maxLen) (ht : t.size ≤ maxLen) (hm : w.cell? ⟨0, 0, none⟩ = some (.int .i64 m)) (hT : Lib.Utf8Tabs 1 2 w) :
    Calls Tryd.prog 7 #[.string s, .string t] w fun e w' => e = .returned (.bool true) ∧ Below w.heap.size w w' := by
  unfold maxLen at hs ht
  have HT := hide hT
  clear hT
  go_enter Tryd.func7, Tryd.ntmps7
  go_wp2_with fail
  refine (awake_any m _ hm).mono ?_
  rintro e w1 ⟨rfl, hb1⟩
  by_cases hbig : 200 < s.size
  · go_wp2
    go_ret
    exact ⟨rfl, hb1⟩
  · by_cases hbig2 : 200 < t.size
    · have h1 : decide (200 < (s.size : Int)) = false := by simp; omega
      go_wp2
      go_ret
      exact ⟨rfl, hb1⟩
    · have h1 : decide (200 < (s.size : Int)) = false := by simp; omega
      have h2 : decide (200 < (t.size : Int)) = false := by simp; omega
      have hss : s.size ≤ 200 := by omega
      have hts : t.size ≤ 200 := by omega
      clear hbig hbig2
      go_wp2_with fail
      refine (clean_any s _ hss (Utf8Tabs_below HT.out hb1)).mono ?_
      rintro e w2 ⟨rfl, hb2⟩
      have hbw2 : Below w.heap.size w w2 := hb1.trans (hb2.mono hb1.size)
      obtain ⟨a, ha⟩ : ∃ a : ByteArray, a = ⟨(Lib.mapD Sp.cleanF s.data.toList).toArray⟩ := ⟨_, rfl⟩
      have A1 := hide (show a.data.toList.all Sp.arg1 = true by rw [ha]; exact (Sp.clean_all _).1)
      have A2 := hide (show a.size ≤ 200 by
        rw [ha, mk_size]
        have := (Sp.clean_all s.data.toList).2
        rw [← Lib.size_eq] at this; omega)
      rw [← ha]
      clear ha hb2 hb1 h1 h2
      go_wp2_with fail
      refine (clean_any t _ hts (Utf8Tabs_below HT.out hbw2)).mono ?_
      rintro e w3 ⟨rfl, hb3⟩
      have hbw3 : Below w.heap.size w w3 := hbw2.trans (hb3.mono hbw2.size)
      obtain ⟨b, hb⟩ : ∃ a : ByteArray, a = ⟨(Lib.mapD Sp.cleanF t.data.toList).toArray⟩ := ⟨_, rfl⟩
      have B1 := hide (show b.data.toList.all Sp.arg1 = true by rw [hb]; exact (Sp.clean_all _).1)
      have B2 := hide (show b.size ≤ 200 by
        rw [hb, mk_size]
        have := (Sp.clean_all t.data.toList).2
        rw [← Lib.size_eq] at this; omega)
      rw [← hb]
      clear hb hb3 hbw2
      obtain ⟨q1, q2, q3⟩ := quote_list A1.out B1.out A2.out B2.out
      obtain ⟨p1, p2⟩ := parse_fmt q2 q1
      have Q1 := hide q1
      have QC := hide (quote_count q3)
      have P2 := hide p2
      have as_ := A2.out
      have bs_ := B2.out
      clear q1 q2 q3 p2
      go_wp2_with fail
      have hb4 : Below w3.heap.size w3 ((w3.alloc (.cells #[.string a, .string b, .string a] 9)).alloc (.cells #[.string ⟨#[120]⟩, .slice (some ⟨w3.heap.size, 0, none⟩) 3 3] 31)) := ((Below.refl _ _).alloc (Nat.le_refl _) _).alloc (by simp) _
      refine (format_yes [⟨xw, [a, b, a]⟩] _ _ _ _ ?_ (by unfold maxLen; decide) ?_ Q1.out).mono ?_
      · intro c hc
        simp at hc; subst hc
        refine ⟨show xw.size ≤ maxLen by unfold maxLen; decide, fun x hx => ?_⟩
        simp at hx
        rcases hx with rfl | rfl | rfl <;> (unfold maxLen; omega)
      · refine ⟨rfl, fun _ => ⟨_, _, rfl, fun j c hj => ?_⟩⟩
        match j, hj with
        | 0, hj =>
          simp at hj; subst hj
          refine ⟨by go_simp; rfl, some ⟨w3.heap.size, 0, none⟩, 3, 3, by go_simp, by unfold maxLen; decide, ⟨rfl, fun _ => ⟨_, _, rfl, fun i u hu => ?_⟩⟩⟩
          match i, hu with
          | 0, hu => simp at hu; subst hu; go_simp
          | 1, hu => simp at hu; subst hu; go_simp
          | 2, hu => simp at hu; subst hu; go_simp
      rintro e w4 ⟨rfl, hb5⟩
      have hbw4 : Below w.heap.size w w4 := hbw3.trans ((hb4.trans (hb5.mono hb4.size)).mono hbw3.size)
      clear hb4 hb5 hbw3
      have HD := hide (show (⟨(fmtL [⟨xw, [a, b, a]⟩]).toArray⟩ : ByteArray).data.toList = fmtL [⟨xw, [a, b, a]⟩] from rfl)
      have HZ := hide (mk_size (fmtL [⟨xw, [a, b, a]⟩]))
      generalize (⟨(fmtL [⟨xw, [a, b, a]⟩]).toArray⟩ : ByteArray) = F at HD HZ ⊢
      go_wp2_with fail
      refine (parse_any F m _ (by have := HZ.out; unfold maxLen; omega) (cell_below hm hbw4)).mono ?_
      rintro e w5 ⟨hres, hb6⟩
      have hbw5 : Below w.heap.size w w5 := hbw4.trans (hb6.mono hbw4.size)
      rw [HD.out, P2.out] at hres
      obtain ⟨A', cp, rfl, hcm⟩ := hres
      rw [toCmds_ofCmds] at hcm
      clear hb6 hbw4
      obtain ⟨ab, ao, B, n, cp', rfl, c1, c2, hn, hs'⟩ := hcm.at_ (k := 0) (by simp)
      have hsx : StrsAt w5 B n [a, b, a] := hs'
      obtain rfl : n = 3 := hsx.len.symm
      have c2' : w5.cell? ⟨ab, ao + 1, none⟩ = some (.slice B 3 cp') := c2
      have Hs := hide hsx
      clear c1 c2 hs' hsx hcm
      simp only [List.map_cons, List.map_nil, List.length_cons, List.length_nil]
      go_wp2_with fail
      have hb7 : Below w5.heap.size w5 (w5.alloc (.cells #[.string a, .string b, .string a] 9)) := (Below.refl _ _).alloc (Nat.le_refl _) _
      have hb8 : Below w.heap.size w (w5.alloc (.cells #[.string a, .string b, .string a] 9)) := hbw5.alloc hbw5.size _
      refine (equal_any [a, b, a] [a, b, a] _ _ 3 cp' 3 3 _ (Hs.out.keep hb7) ?_ (by decide) (by decide)).mono ?_
      · refine ⟨rfl, fun _ => ⟨_, _, rfl, fun i u hu => ?_⟩⟩
        match i, hu with
        | 0, hu => simp at hu; subst hu; go_simp
        | 1, hu => simp at hu; subst hu; go_simp
        | 2, hu => simp at hu; subst hu; go_simp
      rintro e w6 ⟨rfl, nd, rfl⟩
      have hb9 := below_drewN hb8 nd
      clear hb7 hb8
      have HCT := hide (show Lib.countByte F.data.toList 10 = 1 by rw [HD.out]; exact QC.out)
      go_wp2_with fail
      refine (Tryd.strings_Count_one F 10 _).mono ?_
      rintro e w7 ⟨rfl, rfl⟩
      rw [HCT.out]
      go_wp2
      go_ret
      exact ⟨ret_bool (by simp), hb9⟩
end Go.Proofs.YtpmegcgmbhhfaaaDoor
