/-
  Walks: the token and the command of a line.
-/
import Derived.Test.YtpmegcgmbhhfaaaDoorWf
namespace Go.Proofs.YtpmegcgmbhhfaaaDoor
open Go.RowKit

/-- The index of the first blank or tab splits a line as 'takeWhile' does. -/
theorem indexAny_split (l : List UInt8) : l.takeWhile (fun b => !Sp.blank b) = l.take (if Lib.indexAny l [32, 9] < 0 then l.length else (Lib.indexAny l [32, 9]).toNat) ∧
    l.dropWhile (fun b => !Sp.blank b) = l.drop (if Lib.indexAny l [32, 9] < 0 then l.length else (Lib.indexAny l [32, 9]).toNat) := by
  induction l with
  | nil => simp
  | cons b l ih =>
    have hb : [32, 9].contains b = Sp.blank b := by simp only [List.contains_cons, List.contains_nil, Bool.or_false]; rfl
    by_cases h : Sp.blank b = true
    · rw [Lib.indexAny, hb, h]
      simp [h]
    · have h' : Sp.blank b = false := by simpa using h
      have hge := Lib.indexAny_ge [32, 9] l
      rw [Lib.indexAny, hb, h']
      simp only [Bool.false_eq_true, if_false]
      by_cases hm : Lib.indexAny l [32, 9] = -1
      · rw [hm] at ih ⊢
        simp [h'] at ih ⊢
        exact ih
      · have h0 : 0 ≤ Lib.indexAny l [32, 9] := by omega
        have e1 : (Lib.indexAny l [32, 9] == -1) = false := by simpa using hm
        rw [if_neg (by omega)] at ih
        rw [e1]
        simp only [Bool.false_eq_true, if_false]
        rw [if_neg (by omega), show (Lib.indexAny l [32, 9] + 1).toNat = (Lib.indexAny l [32, 9]).toNat + 1 from by omega]
        simp [h', ih]

theorem indexAny_le (l : List UInt8) : Lib.indexAny l [32, 9] ≤ l.length := by
  induction l with
  | nil => simp [Lib.indexAny]
  | cons b l ih =>
    rw [Lib.indexAny]
    split
    · simp; omega
    · split
      · simp; omega
      · simp; omega
theorem bareL_eq (l : List UInt8) : bareL l = Sp.bare l := by
  have h : bareB = Sp.bare1 := by
    funext b
    rw [Bool.eq_iff_iff, bareB_iff]; simp [Sp.bare1]; omega
  unfold bareL Sp.bare; rw [h]
theorem ba_of {x : ByteArray} {l : List UInt8} (h : x.data.toList = l) : x = ⟨l.toArray⟩ := by subst h; simp
theorem tok_close {x y : ByteArray} {tw dw : List UInt8} {b : Bool} (h1 : x.data.toList = tw) (h2 : y.data.toList = dw) (hb : b = Sp.bare tw) :
    TokRes (if Sp.bare tw then some (tw, dw) else none) (.returned (.tuple #[.string x, .string y, .bool b])) := by
  subst hb
  rw [ba_of h1, ba_of h2]
  by_cases h : Sp.bare tw = true
  · rw [if_pos h, h]; exact rfl
  · rw [if_neg h]
    have : Sp.bare tw = false := by simpa using h
    rw [this]; exact ⟨_, _, rfl⟩
theorem empty_data : (ByteArray.empty).data.toList = [] := rfl

set_option maxRecDepth 100000 in
set_option maxHeartbeats 2000000 in
theorem token_any (s : ByteArray) (w : World) (hs : s.size ≤ 1000000) (h0 : 0 < s.size) :
    Calls Tryd.prog 52 #[.string s] w fun e w' => TokRes (Sp.token s.data.toList) e ∧ Below w.heap.size w w' := by
  have hhd : s.data.toList.head? = some (s[0]'h0) := by rw [List.head?_eq_getElem?]; exact Lib.data_getElem? s 0 h0
  have hi0 : (0 : Int) < (s.size : Int) := by omega
  by_cases hq : ((s[0]'h0).toNat : Int) = 34
  · have HT := hide (show Sp.token s.data.toList = Sp.quoted [] s.data.toList.tail by
      unfold Sp.token; rw [hhd, show s[0]'h0 = 34 from byte_of (by decide) hq]; rfl)
    clear hhd
    go_enter Tryd.func52, Tryd.ntmps52
    go_wp2_with fail
    refine (quoted_any s _ hs h0).mono ?_
    rintro e w' ⟨he, hb⟩
    rw [← HT.out] at he
    cases hr : Sp.token s.data.toList with
    | some p =>
      obtain ⟨t, r⟩ := p
      rw [hr] at he
      obtain rfl : e = .returned (.tuple #[.string ⟨t.toArray⟩, .string ⟨r.toArray⟩, .bool true]) := he
      have Hr := hide hr
      clear hr HT
      go_wp2
      refine bodyPost_ret (results_tmp3 rfl _ _ _) rfl ⟨?_, hb⟩
      rw [Hr.out]
      exact rfl
    | none =>
      rw [hr] at he
      obtain ⟨t, r, rfl⟩ := he
      have Hr := hide hr
      clear hr HT
      go_wp2
      refine bodyPost_ret (results_tmp3 rfl _ _ _) rfl ⟨?_, hb⟩
      rw [Hr.out]
      exact ⟨_, _, rfl⟩
  · have hq' : (((s[0]'h0).toNat : Int) == 34) = false := by simpa using hq
    have HT := hide (show Sp.token s.data.toList = if Sp.bare (s.data.toList.takeWhile (fun b => !Sp.blank b)) then some (s.data.toList.takeWhile (fun b => !Sp.blank b), s.data.toList.dropWhile (fun b => !Sp.blank b)) else none by
      have e : (some (s[0]'h0) == some 34) = false := by
        rw [show (some (s[0]'h0) == some (34 : UInt8)) = (s[0]'h0 == UInt8.ofNat 34) from rfl, byte_ne (by decide) hq]
      unfold Sp.token; rw [hhd, e]; rfl)
    obtain ⟨hsp1, hsp2⟩ := indexAny_split s.data.toList
    have hge := Lib.indexAny_ge [32, 9] s.data.toList
    have hle := indexAny_le s.data.toList
    have hn : bt.data.toList = [32, 9] := rfl
    generalize hgn : Lib.indexAny s.data.toList [32, 9] = n at hsp1 hsp2 hge hle
    have Hgn := hide (show Lib.indexAny s.data.toList bt.data.toList = n by rw [hn]; exact hgn)
    obtain ⟨E, hE, hEs⟩ : ∃ E : Nat, E = (if n < 0 then s.data.toList.length else n.toNat) ∧ E ≤ s.size := ⟨_, rfl, by rw [← Lib.size_eq]; rw [← Lib.size_eq] at hle; split <;> omega⟩
    rw [← hE] at hsp1 hsp2
    have Hx1 := hide (show (s.extract 0 E).data.toList = s.data.toList.takeWhile (fun b => !Sp.blank b) by rw [hsp1, ByteArray.data_extract, Array.toList_extract]; simp)
    have Hx2 := hide (show (s.extract E s.size).data.toList = s.data.toList.dropWhile (fun b => !Sp.blank b) by rw [hsp2, Lib.extract_to_end])
    have hx3 : (s.extract 0 E).size ≤ maxLen := by simp [maxLen]; omega
    have HE := hide hE
    clear hhd hsp1 hsp2 hn hgn hE
    go_enter Tryd.func52, Tryd.ntmps52
    go_wp2_with fail
    refine (indexAny_any s _ (by omega)).mono ?_
    rintro e w1 ⟨rfl, hb⟩
    rw [Hgn.out]
    have Hb := hide (show bareL (s.extract 0 E).data.toList = Sp.bare (s.extract 0 E).data.toList by rw [bareL_eq])
    by_cases hneg : n < 0
    · have hEn : E = s.size := by have := HE.out; rw [if_pos hneg, ← Lib.size_eq] at this; exact this
      subst hEn
      go_wp2
      have HS := hide (fun (p : Cls (fun w' => Below w.heap.size w w')) => calls_cls (C := fun w' => Below w.heap.size w w') (bare_any s p.w (by unfold maxLen; omega)) (fun e w' ⟨he, h1⟩ => ⟨he, p.ok.trans (h1.mono p.ok.size)⟩))
      refine wp_region_cls (fun w' => Below w.heap.size w w') (by kernel_rfl) (by kernel_rfl) hb.drew (fun hne => ?_)
      repeat (quiet_step ((go_at_call 49; with_reducible exact HS.out _)))
      refine wpQuiet_nil ?_
      rintro _ ⟨p, rfl⟩
      have hbp := p.ok
      clear HS
      go_wp2
      refine bodyPost_ret (results_tmp3 rfl _ _ _) rfl ⟨?_, hbp⟩
      rw [HT.out]
      refine tok_close (show s.data.toList = _ by rw [← Hx1.out]; simp) (show ByteArray.empty.data.toList = _ by rw [← Hx2.out]; simp) ?_
      rw [bareL_eq, ← Hx1.out]; simp
    · have hEn : n = (E : Int) := by have := HE.out; rw [if_neg hneg] at this; omega
      subst hEn
      go_wp2
      have HS := hide (fun (p : Cls (fun w' => Below w.heap.size w w')) => calls_cls (C := fun w' => Below w.heap.size w w') (bare_any (s.extract 0 E) p.w hx3) (fun e w' ⟨he, h1⟩ => ⟨he, p.ok.trans (h1.mono p.ok.size)⟩))
      refine wp_region_cls (fun w' => Below w.heap.size w w') (by kernel_rfl) (by kernel_rfl) hb.drew (fun hne => ?_)
      repeat (quiet_step ((go_at_call 49; with_reducible exact HS.out _)))
      refine wpQuiet_nil ?_
      rintro _ ⟨p, rfl⟩
      have hbp := p.ok
      clear HS
      go_wp2
      refine bodyPost_ret (results_tmp3 rfl _ _ _) rfl ⟨?_, hbp⟩
      rw [HT.out]
      refine tok_close Hx1.out Hx2.out ?_
      rw [bareL_eq, ← Hx1.out]; simp
end Go.Proofs.YtpmegcgmbhhfaaaDoor
