/-
  The texts Ny in one.
-/
import Derived.Test.YtlffopdoeobgaaaGreatDoorT13
set_option linter.unusedVariables false
set_option linter.unusedSimpArgs false

section
namespace Go.Proofs.YtlffopdoeobgaaaGreatDoor
open Go Go.RowKit
attribute [local go_sem ↓] Go.wp_at_zero Go.wp_at_succ
theorem first_bad : ∀ ms : List Mv, (∀ m, m ∈ ms → lnB m = true) ∨ ∃ (i : Nat) (z : Mv), ms[i]? = some z ∧ lnB z = false ∧ ∀ (j : Nat) (y : Mv), j < i → ms[j]? = some y → lnB y = true
  | [] => .inl fun m h => by cases h
  | m :: ms => by
    cases hm : lnB m with
    | false => exact .inr ⟨0, m, rfl, hm, fun j y h => absurd h (Nat.not_lt_zero j)⟩
    | true =>
      rcases first_bad ms with h | ⟨i, z, h1, h2, h3⟩
      · exact .inl fun y hy => by
          rw [List.mem_cons] at hy
          rcases hy with rfl | hy
          · exact hm
          · exact h y hy
      · refine .inr ⟨i + 1, z, by simpa using h1, h2, fun j y hj hy => ?_⟩
        cases j with
        | zero =>
          obtain rfl : m = y := by simpa using hy
          exact hm
        | succ j => exact h3 j y (by omega) (by simpa using hy)
theorem pva_all {ms : List Mv} (h : ∀ m, m ∈ ms → lnB m = true) (hi : ∀ m, m ∈ ms → MvIn m) : Pl.pvA rdT (Pl.fmA lnF ms) 1 [] = .inr ms := by
  have := Pl.pvA_fmt (rd := rdT) (ln := lnF) ms [] 1 [] (fun m hm => ⟨rd_line (h m hm) (hi m hm), lnF_nl m⟩)
  rw [List.append_nil, Pl.pvA_nil, List.nil_append] at this
  exact this
theorem fmA_app (la bs : List Mv) : Pl.fmA lnF (la ++ bs) = Pl.fmA lnF la ++ Pl.fmA lnF bs := by simp [Pl.fmA]
theorem pva_bad {ms : List Mv} {i : Nat} {z : Mv} (hz : ms[i]? = some z) (hb : lnB z = false) (h : ∀ (j : Nat) (y : Mv), j < i → ms[j]? = some y → lnB y = true) (hi : ∀ m, m ∈ ms → MvIn m) : Pl.pvA rdT (Pl.fmA lnF ms) 1 [] = .inl (i + 1, false) := by
  have hil := (List.getElem?_eq_some_iff.1 hz).1
  have e : ms = ms.take i ++ z :: ms.drop (i + 1) := by
    have e1 := List.drop_eq_getElem_cons hil
    rw [(List.getElem?_eq_some_iff.1 hz).2] at e1
    rw [← e1, List.take_append_drop]
  have e2 : Pl.fmA lnF ms = Pl.fmA lnF (ms.take i) ++ ([63] ++ 10 :: Pl.fmA lnF (ms.drop (i + 1))) := by
    conv => lhs; rw [e]
    rw [fmA_app, Pl.fmA_cons, lnF_bad.2 hb]
    simp
  rw [e2, Pl.pvA_fmt (rd := rdT) (ln := lnF) (ms.take i) _ 1 [] (fun m hm => by
    obtain ⟨j, hj, ej⟩ := List.getElem_of_mem hm
    rw [List.length_take] at hj
    rw [List.getElem_take] at ej
    have hmm : m ∈ ms := List.mem_of_mem_take hm
    exact ⟨rd_line (h j m (by omega) (by rw [List.getElem?_eq_getElem (by omega), ej])) (hi m hmm), lnF_nl m⟩)]
  rw [Pl.pvA_bad (by simp) (by rw [(Pl.ln1_app (t := [63]) (by decide)).1]; exact rd_qm), List.length_take, Nat.min_eq_left (Nat.le_of_lt hil), Nat.add_comm 1]
set_option maxRecDepth 100000 in
set_option maxHeartbeats 8000000 in
theorem movieTexts_walk (A : Option Addr) (n c : Nat) (ms : List Mv) (w : World) (hx : MvsA w A n ms) (hcc : n ≤ c) (hcm : c ≤ maxLen) (hin : ∀ m, m ∈ ms → MvIn m) (hg : GV w) :
    Calls Tryz.prog 8 #[.slice A n c] w fun e w' => e = .returned (.bool true) ∧ Below w.heap.size w w' := by
  have HX := hide hx
  have HIN := hide hin
  have HL := hide (show ms.length = n from hx.1.symm)
  have G0 := hide hg
  unfold maxLen at hcm
  clear hx hin hg
  go_enter Tryz.func8, Tryz.ntmps8
  go_wp2_with fail
  refine (awake09 _ G0.out).mono ?_
  rintro e w1 ⟨rfl, hb1⟩
  have B1 := hide hb1
  have G1 := hide (G0.out.below hb1)
  clear hb1 G0
  by_cases h100 : 100 < n
  · have hi : (100 : Int) < (n : Int) := by omega
    go_wp2
    go_ret
    exact ⟨rfl, B1.out⟩
  have hi : ¬ ((100 : Int) < (n : Int)) := by omega
  go_wp2_with fail
  refine (large_any ms A n c _ (HX.out.keep B1.out) (by omega)).mono ?_
  rintro e w2 ⟨rfl, hb2⟩
  have B2 := hide (B1.out.trans (hb2.mono B1.out.size))
  have G2 := hide (G1.out.below hb2)
  clear hb2 B1 G1
  obtain ⟨b, hbv⟩ : ∃ b, b = Pl.vb (∃ m, m ∈ ms ∧ Big m) := ⟨_, rfl⟩
  rw [← hbv]
  cases b with
  | true =>
    clear hbv
    go_wp2
    go_ret
    exact ⟨rfl, B2.out⟩
  | false =>
    have HSM := hide (show ∀ m, m ∈ ms → ¬ Big m from fun m hm hb => by
      rw [Pl.vb_true ⟨m, hm, hb⟩] at hbv
      cases hbv)
    clear hbv
    have HF := hide (fun (W : World) (hA : MvsA W A n ms) (hg : GV W) => mformat_any ms A n c W hA (by omega) HIN.out hg)
    have HR := hide (fun (W : World) (hA : MvsA W A n ms) => rformat_any ms A n c W hA (by omega) HSM.out HIN.out)
    have hfl := fmA_len ms HIN.out
    rw [HL.out] at hfl
    obtain ⟨F, hF⟩ : ∃ F : ByteArray, F = ⟨(Pl.fmA lnF ms).toArray⟩ := ⟨_, rfl⟩
    have hFs : F.size ≤ 65536 := by rw [hF, sz_mk]; omega
    have HFD := hide (show F.data.toList = Pl.fmA lnF ms by rw [hF])
    rw [← hF] at HF HR
    clear hF hfl
    go_wp2_with fail
    refine (HF.out _ (HX.out.keep B2.out) G2.out).mono ?_
    rintro e w3 ⟨rfl, hb3⟩
    have B3 := hide (B2.out.trans (hb3.mono B2.out.size))
    have G3 := hide (G2.out.below hb3)
    clear hb3 B2 G2
    go_wp2_with fail
    refine (HR.out _ (HX.out.keep B3.out)).mono ?_
    rintro e w4 ⟨rfl, hb4⟩
    have B4 := hide (B3.out.trans (hb4.mono B3.out.size))
    have G4 := hide (G3.out.below hb4)
    clear hb4 B3 G3 HF HR
    rcases first_bad ms with hall | ⟨i, z, hz, hzb, hbef⟩
    · have HALL := hide hall
      have HPA := hide (show Pl.pvA rdT F.data.toList 1 [] = .inr ms by rw [HFD.out]; exact pva_all hall HIN.out)
      clear hall
      go_wp2_with fail
      refine (mparse_inr F hFs _ G4.out HPA.out).mono ?_
      rintro e w5 ⟨A5, c5, rfl, hms5, hb5⟩
      have B5 := hide (B4.out.trans (hb5.mono B4.out.size))
      rw [HL.out] at hms5 ⊢
      have M5 := hide hms5
      clear hms5 hb5 B4 G4 HPA
      go_wp2_with fail
      go_loopg [7, 8, 33] n (fun g s7 s8 s33 wx => ∃ k : Nat, k + g = n ∧ s33 = .int .i64 (k : Int) ∧ Below w5.heap.size w5 wx)
      case atStart => exact ⟨0, by omega, rfl, Below.refl _ _⟩
      case round =>
        obtain ⟨k, hkg, rfl, hb⟩ := hrel
        have HKG := hide hkg
        have HB := hide hb
        have B6 := hide (B5.out.trans (hb.mono B5.out.size))
        clear hb
        by_cases hk : k < n
        · have hki : (k : Int) < (n : Int) := by omega
          have k0 : (0 : Int) ≤ (k : Int) := by omega
          obtain ⟨bb, oo, zk, zx, zy, zs, zo, rfl, hz, x0, x1, x2, x3, x4⟩ := (HX.out.keep B6.out).at_ hk
          have HSZ := hide (HSM.out _ (List.mem_of_getElem? hz))
          have HLB := hide (HALL.out _ (List.mem_of_getElem? hz))
          clear hz hkg
          have B7 := hide (HB.out.alloc HB.out.size (.cells #[.int .i64 zk, .int .i64 zx, .int .i64 zy, .int .i64 zs, .bool zo] 36))
          have X1 := hide (row_at (W := wr) (g := wr.heap.size) (t := 36) (vs := [.int .i64 zk, .int .i64 zx, .int .i64 zy, .int .i64 zs, .bool zo]) rfl)
          obtain ⟨e0, e1, e2, e3, e4, e5⟩ := box5 X1.out
          go_wp2_with fail
          refine (rline_any ⟨zk, zx, zy, zs, zo⟩ HSZ.out _).mono ?_
          rintro e w7 ⟨rfl, hb7⟩
          have B8 := hide (B7.out.trans (hb7.mono B7.out.size))
          obtain ⟨ln, hln⟩ : ∃ b : ByteArray, b = ⟨(lnF ⟨zk, zx, zy, zs, zo⟩).toArray⟩ := ⟨_, rfl⟩
          have hne : ¬ ln.toList = [63] := by
            rw [ByteArray.toList_eq, hln]
            intro h
            have h2 := lnF_bad.1 (show lnF ⟨zk, zx, zy, zs, zo⟩ = [63] by simpa using h)
            rw [HLB.out] at h2
            cases h2
          have hne2 : (ln.toList == [63]) = false := by rw [beq_eq_false_iff_ne]; exact hne
          rw [← hln]
          clear hb7 hln e0 e1 e2 e3 e4 e5 X1 x0 x1 x2 x3 x4
          go_wp2
          go_roundg (gk - 1)
          case measure => have := HKG.out; omega
          case rel => exact ⟨k + 1, by have := HKG.out; omega, by go_num, B8.out⟩
        · have hki : ¬ ((k : Int) < (n : Int)) := by omega
          clear hkg
          go_wp2_with fail
          go_loopg [9, 70] n (fun g s9 s70 wx => ∃ k : Nat, k + g = n ∧ s70 = .int .i64 (k : Int) ∧ Below w5.heap.size w5 wx)
          case atStart => exact ⟨0, by omega, rfl, HB.out⟩
          case round =>
            obtain ⟨q, hqg, rfl, hb⟩ := hrel
            have HQG := hide hqg
            have HBQ := hide hb
            clear hb hki hk B6 HB
            by_cases hq : q < n
            · have hqi : (q : Int) < (n : Int) := by omega
              have q0 : (0 : Int) ≤ (q : Int) := by omega
              obtain ⟨ba, oa, k, x, y, s, o, rfl, hz, a0, a1, a2, a3, a4⟩ := (M5.out.keep HBQ.out).at_ hq
              obtain ⟨bb, ob, k', x', y', s', o', rfl, hz', b0, b1, b2, b3, b4⟩ := (HX.out.keep (B5.out.trans (HBQ.out.mono B5.out.size))).at_ hq
              rw [hz] at hz'
              obtain ⟨rfl, rfl, rfl, rfl, rfl⟩ : k = k' ∧ x = x' ∧ y = y' ∧ s = s' ∧ o = o' := by simpa using hz'
              clear hz hz' hqg
              go_upto_region 20 with fail
              go_quiet (fail)
              go_wp2
              go_roundg (gk - 1)
              case measure => have := HQG.out; omega
              case rel => exact ⟨q + 1, by have := HQG.out; omega, by go_num, below_drewN HBQ.out _⟩
            · have hqi : ¬ ((q : Int) < (n : Int)) := by omega
              clear hqg
              go_wp2
              go_ret
              exact ⟨rfl, B5.out.trans (HBQ.out.mono B5.out.size)⟩
    · have HBE := hide hbef
      have HZ := hide (And.intro hz hzb)
      have hin' : i < n := by rw [← HL.out]; exact (List.getElem?_eq_some_iff.1 hz).1
      have HPA := hide (show Pl.pvA rdT F.data.toList 1 [] = .inl (i + 1, false) by rw [HFD.out]; exact pva_bad hz hzb hbef HIN.out)
      clear hz hzb hbef
      go_wp2_with fail
      refine (mparse_inl F hFs _ G4.out HPA.out).mono ?_
      rintro e w5 ⟨rfl, hb5⟩
      simp only [if_false, Bool.false_eq_true]
      obtain ⟨I, hI⟩ : ∃ v : Int, v = ((i + 1 : Nat) : Int) := ⟨_, rfl⟩
      rw [← hI]
      have hI2 : (i : Int) + 1 = I := by omega
      have HI := hide hI2
      have B5 := hide (B4.out.trans (hb5.mono B4.out.size))
      clear hb5 B4 G4 HPA hI hI2
      go_wp2_with fail
      go_loopg [7, 8, 33] n (fun g s7 s8 s33 wx => ∃ k : Nat, k + g = n ∧ k ≤ i ∧ s33 = .int .i64 (k : Int) ∧ Below w5.heap.size w5 wx)
      case atStart => exact ⟨0, by omega, Nat.zero_le _, rfl, Below.refl _ _⟩
      case round =>
        obtain ⟨k, hkg, hki', rfl, hb⟩ := hrel
        have HKG := hide hkg
        have HB := hide hb
        have B6 := hide (B5.out.trans (hb.mono B5.out.size))
        clear hb
        have hk : k < n := by omega
        have hki : (k : Int) < (n : Int) := by omega
        have k0 : (0 : Int) ≤ (k : Int) := by omega
        obtain ⟨bb, oo, zk, zx, zy, zs, zo, rfl, hz, x0, x1, x2, x3, x4⟩ := (HX.out.keep B6.out).at_ hk
        have HSZ := hide (HSM.out _ (List.mem_of_getElem? hz))
        have B7 := hide (HB.out.alloc HB.out.size (.cells #[.int .i64 zk, .int .i64 zx, .int .i64 zy, .int .i64 zs, .bool zo] 36))
        have X1 := hide (row_at (W := wr) (g := wr.heap.size) (t := 36) (vs := [.int .i64 zk, .int .i64 zx, .int .i64 zy, .int .i64 zs, .bool zo]) rfl)
        obtain ⟨e0, e1, e2, e3, e4, e5⟩ := box5 X1.out
        have HZK := hide hz
        clear hz hkg
        go_wp2_with fail
        refine (rline_any ⟨zk, zx, zy, zs, zo⟩ HSZ.out _).mono ?_
        rintro e w7 ⟨rfl, hb7⟩
        have B8 := hide (B7.out.trans (hb7.mono B7.out.size))
        clear hb7 e0 e1 e2 e3 e4 e5 X1 x0 x1 x2 x3 x4
        by_cases hki2 : k < i
        · obtain ⟨ln, hln⟩ : ∃ b : ByteArray, b = ⟨(lnF ⟨zk, zx, zy, zs, zo⟩).toArray⟩ := ⟨_, rfl⟩
          have hne : ¬ ln.toList = [63] := by
            rw [ByteArray.toList_eq, hln]
            intro h
            have h2 := lnF_bad.1 (show lnF ⟨zk, zx, zy, zs, zo⟩ = [63] by simpa using h)
            rw [HBE.out k _ hki2 HZK.out] at h2
            cases h2
          have hne2 : (ln.toList == [63]) = false := by rw [beq_eq_false_iff_ne]; exact hne
          rw [← hln]
          clear hln
          go_wp2
          go_roundg (gk - 1)
          case measure => have := HKG.out; omega
          case rel => exact ⟨k + 1, by have := HKG.out; omega, by omega, by go_num, B8.out⟩
        · obtain rfl : k = i := by omega
          have hlf : lnF ⟨zk, zx, zy, zs, zo⟩ = [63] := lnF_bad.2 (by
            have h1 := HZ.out.1
            rw [HZK.out] at h1
            injection h1 with h1
            rw [h1]; exact HZ.out.2)
          have hI2 := HI.out
          rw [hlf]
          clear hlf
          go_wp2
          go_ret
          exact ⟨rfl, B5.out.trans (B8.out.mono B5.out.size)⟩
end Go.Proofs.YtlffopdoeobgaaaGreatDoor
end
