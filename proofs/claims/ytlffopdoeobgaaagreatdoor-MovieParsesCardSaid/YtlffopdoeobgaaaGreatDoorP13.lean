/-
  The texts Np, Nu in one.
-/
import Derived.Test.YtlffopdoeobgaaaGreatDoorP10
import Derived.Test.YtlffopdoeobgaaaGreatDoorP07
import Derived.Test.YtlffopdoeobgaaaGreatDoorP02
import Derived.ChangeSlices
import Derived.Deep.Strs
import Derived.Test.YtlffopdoeobgaaaGreatDoorRows
import Derived.Deep.Slices
import Derived.Deep.Fields
import Derived.ChangeSame
import Derived.Stop.LaidErr
import Derived.Lib.LaidTab
import Derived.Test.YtlffopdoeobgaaaGreatDoorP12
import Derived.Laws.Strings2
set_option linter.unusedVariables false
set_option linter.unusedSimpArgs false

section
namespace Go.Proofs.YtlffopdoeobgaaaGreatDoor
open Go Go.ChangeShapes Go.WideShapes Go.ChangeAt Go.RowKit Go.Deep
theorem star_err : "*" ++ "errors.errorString" = "*errors.errorString" := by decide
theorem row_err (u : TypeId) (h : Tryz.prog.typeName? 3 u = some "*errors.errorString") : u = 196 :=
  typeName_ptr_named (nm := "errors.errorString") (by rw [star_err]; kernel_rfl) (by kernel_rfl) (by decide) u (by rw [star_err]; exact h)
theorem gv_of7 {W : World} {t1 t2 t3 t4 : String × DataW Unit} (hm : ∃ m, W.cell? ⟨0, 0, none⟩ = some (.int .i64 m))
    (hL : laidMet Tryz.prog [t1, t2, ("internal/strconv.uint64pow10", Rows.laid_internal_strconv_uint64pow10), t3, ("strconv.ErrRange", Rows.laid_strconv_ErrRange), ("strconv.ErrSyntax", Rows.laid_strconv_ErrSyntax), t4] W) : GV W := by
  have h3 := hL.tail.tail
  have h4 := h3.tail.tail
  have h5 := h4.tail
  refine ⟨hm, ?_, ?_, ?_⟩
  · exact Lib.tabIs_of_head (g := 3) (t := 200) (e := 182) (n := 20) (by kernel_rfl) (by kernel_rfl) (by kernel_rfl) (by kernel_rfl) (by kernel_rfl) (by kernel_rfl) (rest := _) h3
  · obtain ⟨a1, s1, hv1, -, -, -⟩ := laid_sentinel h5 (g := 1) (ti := 83) (tp := 196) (te := 198) (ts := 9) (by kernel_rfl) (by kernel_rfl) Tryz.underlying83 row_err Tryz.underlying196 Tryz.underlying198 rfl rfl Tryz.underlying9 (by kernel_rfl) (by kernel_rfl)
    exact ⟨_, (by have h0 := World.var?_cell (P := Tryz.prog) (g := 1) (by kernel_rfl) hv1 0; simpa using h0), .inr ⟨_, _, rfl⟩⟩
  · obtain ⟨a1, s1, hv1, -, -, -⟩ := laid_sentinel h4 (g := 2) (ti := 83) (tp := 196) (te := 198) (ts := 9) (by kernel_rfl) (by kernel_rfl) Tryz.underlying83 row_err Tryz.underlying196 Tryz.underlying198 rfl rfl Tryz.underlying9 (by kernel_rfl) (by kernel_rfl)
    exact ⟨_, (by have h0 := World.var?_cell (P := Tryz.prog) (g := 2) (by kernel_rfl) hv1 0; simpa using h0), .inr ⟨_, _, rfl⟩⟩
section
variable {H : Type} {enc : TypeId × Value → H} {P : Program} {w : World} {base : Nat} {spare : Nat → Bool} {held : Bool}
end
end Go.Proofs.YtlffopdoeobgaaaGreatDoor
end

section
namespace Go.Proofs.YtlffopdoeobgaaaGreatDoor
open Go Go.RowKit
attribute [local go_sem ↓] Go.wp_at_zero Go.wp_at_succ
theorem lnB_rd {ws : List ByteArray} (h : rdK ws = true) : lnB (rdM ws) = true := by
  unfold rdK at h
  unfold rdM
  by_cases h1 : wd ws 0 = ⟨#[99, 117, 114, 108]⟩
  · rw [if_pos h1]; simp [lnB]
  · rw [if_neg h1] at h ⊢
    by_cases h2 : wd ws 0 = ⟨#[117, 110, 99, 117, 114, 108]⟩
    · rw [if_pos h2]; simp [lnB]
    · rw [if_neg h2] at h ⊢
      by_cases h3 : wd ws 0 = ⟨#[112, 111, 107, 101]⟩
      · rw [if_pos h3]; simp [lnB]
      · rw [if_neg h3] at h ⊢
        by_cases h4 : wd ws 0 = ⟨#[117, 110, 112, 111, 107, 101]⟩
        · rw [if_pos h4]; simp [lnB]
        · rw [if_neg h4] at h ⊢
          by_cases h5 : wd ws 0 = ⟨#[115, 108, 105, 100, 101]⟩
          · rw [if_pos h5]; simp [lnB]
          · rw [if_neg h5] at h; cases h
theorem mvin_rd (ws : List ByteArray) : MvIn (rdM ws) := by
  have z : (-9223372036854775808 : Int) ≤ 0 ∧ (0 : Int) ≤ 9223372036854775807 := ⟨by decide, by decide⟩
  have b : ∀ j, -9223372036854775808 ≤ nv ws j ∧ nv ws j ≤ 9223372036854775807 := fun j => numV_bounds _
  unfold rdM
  split
  · exact ⟨b 1, z, b 2⟩
  · split
    · exact ⟨b 1, z, z⟩
    · split
      · exact ⟨b 1, b 2, b 3⟩
      · split
        · exact ⟨b 1, b 2, z⟩
        · split
          · exact ⟨b 1, z, z⟩
          · exact ⟨z, z, z⟩
theorem rdT_mv {t : List UInt8} {m : Mv} (h : rdT t = some m) : lnF m = t ∧ MvIn m := by
  unfold rdT at h
  split at h
  · rename_i hb
    injection h with h
    subst h
    unfold rdB at hb
    rw [Bool.and_eq_true, decide_eq_true_eq] at hb
    refine ⟨?_, mvin_rd _⟩
    unfold lnF
    rw [if_pos (lnB_rd hb.1), hb.2]
  · cases h
theorem fmA_many (ms : List Mv) : ms.length ≤ (Pl.fmA lnF ms).length := by
  induction ms with
  | nil => exact Nat.le_refl _
  | cons m ms ih =>
    rw [Pl.fmA_cons, List.length_append, List.length_append, List.length_cons, List.length_cons, List.length_nil]
    omega
theorem idx_at (s : ByteArray) {i : Nat} {c : UInt8} (h : s.data.toList[i]? = some c) (W : World) : (Instr.index 9 (.string s) (.int .i64 (i : Int))).run Tryz.prog W = .ok (.int .u8 (c.toNat : Int)) W := by
  have hi : i < s.data.toList.length := (List.getElem?_eq_some_iff.1 h).1
  have hi2 : i < s.size := by simpa using hi
  rw [run_index_string W 9 s .i64 (i : Int) Tryz.underlying9, dif_pos ⟨by omega, by omega⟩]
  have e : s[(i : Int).toNat]'(by omega) = c := by
    have h2 := (List.getElem?_eq_some_iff.1 h).2
    rw [← h2]
    simp [ByteArray.getElem_eq_getElem_data]
  rw [e]
theorem ba_ext {a b : ByteArray} (h : a.data.toList = b.data.toList) : a = b := by
  cases a; cases b
  simp only [ByteArray.mk.injEq]
  exact Array.toList_inj.1 h
theorem extract_toL (s : ByteArray) (i j : Nat) : (s.extract i j).data.toList = (s.data.toList.drop i).take (j - i) := by
  rw [ByteArray.data_extract]; simp
theorem mparse_inr (s : ByteArray) (hs : s.size ≤ 65536) (w : World) (hg : GV w) {ms : List Mv} (h : Pl.pvA rdT s.data.toList 1 [] = .inr ms) :
    Calls Tryz.prog 21 #[.string s] w fun e w' => ∃ (A : Option Addr) (c : Nat), e = .returned (.tuple #[.slice A ms.length c, .int .i64 0, .int .i64 0]) ∧ MvsA w' A ms.length ms ∧ Below w.heap.size w w' := by
  refine (mparse_any s hs w hg).mono ?_
  rintro e w' ⟨_, hp, hb⟩
  obtain ⟨v, he, ho⟩ := hp _ h
  obtain ⟨A, c, rfl⟩ := owns_slice ho
  exact ⟨A, c, he, (movesV_own ho rfl).a, hb⟩
theorem mparse_inl (s : ByteArray) (hs : s.size ≤ 65536) (w : World) (hg : GV w) {i : Nat} {b : Bool} (h : Pl.pvA rdT s.data.toList 1 [] = .inl (i, b)) :
    Calls Tryz.prog 21 #[.string s] w fun e w' => e = .returned (.tuple #[.slice none 0 0, .int .i64 (i : Int), .int .i64 (if b = true then 4 else 3)]) ∧ Below w.heap.size w w' := by
  refine (mparse_any s hs w hg).mono ?_
  rintro e w' ⟨hp, _, hb⟩
  exact ⟨hp _ _ h, hb⟩
set_option maxRecDepth 100000 in
set_option maxHeartbeats 4000000 in
theorem parses_all (s : ByteArray) (w : World) (hs : s.size ≤ maxLen) (hg : GV w) {ms : List Mv} (h : Pl.pvA rdT s.data.toList 1 [] = .inr ms) :
    Calls Tryz.prog 9 #[.string s] w fun e w' => e = .returned (.bool true) ∧ Below w.heap.size w w' := by
  have H := hide h
  have HG := hide hg
  have HSZ := hide hs
  clear h hg
  unfold maxLen at hs
  go_enter Tryz.func9, Tryz.ntmps9
  go_wp2_with fail
  refine (awake09 _ HG.out).mono ?_
  rintro e w1 ⟨rfl, hb1⟩
  have B1 := hide hb1
  have G1 := hide (HG.out.below hb1)
  clear hb1 HG
  by_cases h3 : s.size ≤ 3000
  · have h3i : ¬ ((3000 : Int) < (s.size : Int)) := by omega
    go_wp2_with fail
    refine (mparse_inr s (by omega) _ G1.out H.out).mono ?_
    rintro e w2 ⟨A, c, rfl, hms, hb2⟩
    have B2 := hide (B1.out.trans (hb2.mono B1.out.size))
    have M2 := hide hms
    have G2 := hide (G1.out.below hb2)
    have FT : Pl.fmA lnF ms = s.data.toList := by
      have := Pl.pvA_text (rd := rdT) (ln := lnF) (fun t m h => (rdT_mv h).1) _ _ _ _ _ rfl H.out
      simpa [Pl.fmA] using this
    have HFT := hide (show (⟨(Pl.fmA lnF ms).toArray⟩ : ByteArray) = s from ba_ext (by rw [FT]))
    have hml : ms.length ≤ 1000000 := by
      have h1 := fmA_many ms
      rw [FT] at h1
      have h2 : s.data.toList.length = s.size := by rw [Array.length_toList]; rfl
      omega
    have HMI := hide (show ∀ m, m ∈ ms → MvIn m from fun m hm => by
      rcases Pl.pvA_mem _ _ _ _ _ rfl H.out m hm with h | ⟨t, h⟩
      · cases h
      · exact (rdT_mv h).2)
    clear hms hb2 G1 B1 FT
    obtain ⟨nm, hnm⟩ : ∃ n, n = ms.length := ⟨_, rfl⟩
    rw [← hnm] at hml M2 ⊢
    clear hnm
    go_wp2_with fail
    refine (mformat_any ms A nm c _ M2.out hml HMI.out G2.out).mono ?_
    rintro e w3 ⟨rfl, hb3⟩
    rw [HFT.out]
    have B3 := hide (B2.out.trans (hb3.mono B2.out.size))
    clear hb3 M2
    go_wp2
    go_ret
    exact ⟨by simp, B3.out⟩
  · have h3i : (3000 : Int) < (s.size : Int) := by omega
    go_wp2
    go_ret
    exact ⟨rfl, B1.out⟩
set_option maxRecDepth 100000 in
set_option maxHeartbeats 8000000 in
theorem parses_err (s : ByteArray) (w : World) (hs : s.size ≤ maxLen) (hg : GV w) {K : Nat} {b : Bool} (h : Pl.pvA rdT s.data.toList 1 [] = .inl (K, b)) :
    Calls Tryz.prog 9 #[.string s] w fun e w' => e = .returned (.bool true) ∧ Below w.heap.size w w' := by
  have H := hide h
  have HG := hide hg
  have HSZ := hide hs
  obtain ⟨kf, pre, t, suf, hK, hF⟩ := Pl.pvA_err h
  have HF := hide hF
  have hls : s.data.toList.length = s.size := by rw [Array.length_toList]; rfl
  obtain ⟨l, hl⟩ : ∃ l, l = s.data.toList := ⟨_, rfl⟩
  rw [← hl] at HF hls
  have HL := hide hl
  have hPl := HF.out.lt
  have hEl := HF.out.le
  obtain ⟨P, hP⟩ : ∃ P, P = pre.length := ⟨_, rfl⟩
  obtain ⟨E, hE⟩ : ∃ E, E = pre.length + t.length := ⟨_, rfl⟩
  have hPE : P ≤ E := by omega
  have hPs : P < s.size := by omega
  have hEs : E ≤ s.size := by omega
  have HP := hide hP
  have HE := hide hE
  have HK := hide hK
  clear h hg hF hl hPl hEl hP hE hK hls
  unfold maxLen at hs
  go_enter Tryz.func9, Tryz.ntmps9
  go_wp2_with fail
  refine (awake09 _ HG.out).mono ?_
  rintro e w1 ⟨rfl, hb1⟩
  have B1 := hide hb1
  have G1 := hide (HG.out.below hb1)
  clear hb1 HG
  by_cases h3 : s.size ≤ 3000
  · have h3i : ¬ ((3000 : Int) < (s.size : Int)) := by omega
    have HX := hide (mparse_inl s (by omega) w1 G1.out H.out)
    have HEX := hide (show ∀ W : World, (Instr.slice 9 (.string s) none (some (.int .i64 (P : Int))) none).run Tryz.prog W = .ok (.string ⟨pre.toArray⟩) W from fun W => by
      rw [run_slice_string_h W 9 s Tryz.underlying9 .i64 (P : Int) (by omega) (by omega)]
      have e : s.extract 0 (P : Int).toNat = ⟨pre.toArray⟩ := ba_ext (by
        rw [extract_toL, ← HL.out, List.drop_zero, Int.toNat_natCast, Nat.sub_zero, HP.out]
        exact HF.out.pre_eq)
      rw [e])
    have HEY := hide (show ∀ W : World, (Instr.slice 9 (.string s) (some (.int .i64 (P : Int))) (some (.int .i64 (E : Int))) none).run Tryz.prog W = .ok (.string ⟨t.toArray⟩) W from fun W => by
      rw [run_slice_string W 9 s .i64 .i64 (P : Int) (E : Int) Tryz.underlying9 (by omega) (by omega) (by omega)]
      have e : s.extract (P : Int).toNat (E : Int).toNat = ⟨t.toArray⟩ := ba_ext (by
        rw [extract_toL, ← HL.out, Int.toNat_natCast, Int.toNat_natCast, HE.out, HP.out, Nat.add_sub_cancel_left]
        exact HF.out.t_eq)
      rw [e])
    have htl : t.length ≤ 3000 := by have := HE.out; omega
    have HEZ := hide (show ∀ W : World, (Op.stringOp .add (⟨t.toArray⟩ : ByteArray) ⟨#[10]⟩).run Tryz.prog W = .ok (.string ⟨(t ++ [10]).toArray⟩) W from fun W => by
      rw [run_string_add_sum (P := Tryz.prog) W ⟨t.toArray⟩ ⟨#[10]⟩ (by
        have e1 : (⟨#[10]⟩ : ByteArray).size = 1 := rfl
        have e2 : (⟨t.toArray⟩ : ByteArray).size = t.length := by simp [ByteArray.size]
        omega)]
      have e : (⟨t.toArray⟩ : ByteArray) ++ ⟨#[10]⟩ = ⟨(t ++ [10]).toArray⟩ := ba_ext (by rw [ByteArray.data_append]; simp)
      rw [e])
    obtain ⟨pb, hpb⟩ : ∃ x : ByteArray, x = ⟨pre.toArray⟩ := ⟨_, rfl⟩
    obtain ⟨tb, htb⟩ : ∃ x : ByteArray, x = ⟨t.toArray⟩ := ⟨_, rfl⟩
    obtain ⟨tn, htn⟩ : ∃ x : ByteArray, x = ⟨(t ++ [10]).toArray⟩ := ⟨_, rfl⟩
    rw [← hpb] at HEX
    rw [← htb] at HEY HEZ
    rw [← htn] at HEZ
    have HPB := hide (show pb.data.toList = pre ∧ pb.size ≤ 65536 by
      rw [hpb]
      refine ⟨rfl, ?_⟩
      have : (⟨pre.toArray⟩ : ByteArray).size = pre.length := by simp [ByteArray.size]
      rw [this, ← HP.out]; omega)
    have HTN := hide (show tn.data.toList = t ++ [10] ∧ tn.size ≤ 65536 by
      rw [htn]
      refine ⟨rfl, ?_⟩
      have : (⟨(t ++ [10]).toArray⟩ : ByteArray).size = t.length + 1 := by simp [ByteArray.size]
      rw [this]; omega)
    clear hpb htb htn
    have HPR := hide (fun (W : World) (hG : GV W) => show Calls Tryz.prog 21 #[.string pb] W fun e w' => ∃ (A : Option Addr) (n c : Nat), e = .returned (.tuple #[.slice A n c, .int .i64 0, .int .i64 0]) ∧ Below W.heap.size W w' by
      obtain ⟨ms, hms⟩ := HF.out.ok
      rw [← HPB.out.1] at hms
      refine (mparse_inr pb HPB.out.2 W hG hms).mono ?_
      rintro e w' ⟨A, c, rfl, _, hb⟩
      exact ⟨A, _, c, rfl, hb⟩)
    have HLR := hide (fun (W : World) (hG : GV W) => show Calls Tryz.prog 21 #[.string tn] W fun e w' => ∃ (A : Option Addr) (n c : Nat) (a : Int), e = .returned (.tuple #[.slice A n c, .int .i64 a, .int .i64 (if b = true then 0 else 3)]) ∧ Below W.heap.size W w' by
      clear HX H
      cases b with
      | true =>
        obtain ⟨ms, hms⟩ := HF.out.line.1 rfl
        rw [← HTN.out.1] at hms
        refine (mparse_inr tn HTN.out.2 W hG hms).mono ?_
        rintro e w' ⟨A, c, rfl, _, hb⟩
        exact ⟨A, _, c, 0, rfl, hb⟩
      | false =>
        have hms := HF.out.line.2 rfl
        rw [← HTN.out.1] at hms
        refine (mparse_inl tn HTN.out.2 W hG hms).mono ?_
        rintro e w' ⟨rfl, hb⟩
        exact ⟨none, 0, 0, 1, rfl, hb⟩)
    have HEN := hide (show b = true → E = s.size from fun h => by
      subst h
      have h1 := HF.out.ends
      have h2 : s.data.toList.length = s.size := by rw [Array.length_toList]; rfl
      rw [← HE.out, HL.out, h2] at h1
      exact h1)
    have hK1 : ¬ ((K : Int) < 1) := by have := HK.out; omega
    cases b
    all_goals (
      go_wp2_with fail
      refine HX.out.mono ?_
      rintro e w2 ⟨rfl, hb2⟩
      simp only [if_true, if_false, Bool.false_eq_true]
      have B2 := hide (B1.out.trans (hb2.mono B1.out.size))
      have G2 := hide (G1.out.below hb2)
      clear hb2 G1 B1 HX
      go_wp2_with fail
      go_loopg [6, 7, 8] P (fun g s6 s7 s8 wx => ∃ (i st c : Nat), i + g = P ∧ s8 = .int .i64 (i : Int) ∧ s7 = .int .i64 (c : Int) ∧ c = (l.take i).count 10 + 1 ∧ s6 = .int .i64 (st : Int) ∧ (i = P → st = P) ∧ wx = w2)
      case atStart => exact ⟨0, 0, 1, by omega, rfl, rfl, by simp, rfl, fun h => h, rfl⟩
      case round =>
        obtain ⟨i, st, c, hig, rfl, rfl, hc, rfl, hst, rfl⟩ := hrel
        have HIG := hide hig
        have HC := hide hc
        have HST := hide hst
        have hcb : c ≤ 3001 := by
          have h1 : (l.take i).count 10 ≤ (l.take i).length := List.count_le_length
          rw [List.length_take] at h1
          omega
        clear hc hst
        by_cases hi : i < P
        · have hil : (i : Int) < (s.size : Int) := by omega
          have i0 : (0 : Int) ≤ (i : Int) := by omega
          have hcK : (c : Int) < (K : Int) := by
            have h1 := HF.out.before (i := i) (by rw [← HP.out]; exact hi)
            have h2 := HC.out
            have h3 := HK.out
            omega
          clear hig
          obtain ⟨ch, hch⟩ : ∃ ch, l[i]? = some ch := ⟨_, List.getElem?_eq_getElem (by
            have h1 := HL.out
            have h2 : s.data.toList.length = s.size := by rw [Array.length_toList]; rfl
            rw [h1, h2]; omega)⟩
          have hidx := fun W => idx_at s (by rw [← HL.out]; exact hch) W
          by_cases h10 : ch = 10
          · have HCH := hide hch
            subst h10
            clear hch
            rw [show (((10 : UInt8).toNat : Nat) : Int) = 10 from rfl] at hidx
            go_wp2_with fail
            go_roundg (gk - 1)
            case measure => have := HIG.out; omega
            case rel =>
              refine ⟨i + 1, i + 1, c + 1, by have := HIG.out; omega, by go_num, by go_num, ?_, by go_num, fun h => h, rfl⟩
              rw [Pl.count_succ HCH.out, HC.out, if_pos rfl]
          · have HCH := hide hch
            have hnl : i + 1 ≠ P := fun h => by
              have := HF.out.last (i := i) (by rw [← HP.out]; exact h)
              rw [hch] at this
              injection this with this
              exact h10 this
            have hv : ¬ ((ch.toNat : Int) = 10) := fun h => h10 (by
              have : ch.toNat = (10 : UInt8).toNat := by have e9 : (10 : UInt8).toNat = 10 := rfl; omega
              exact UInt8.toNat_inj.1 this)
            have hv2 : ((ch.toNat : Int) == 10) = false := by rw [beq_eq_false_iff_ne]; exact hv
            clear hch
            obtain ⟨cv, hcv⟩ : ∃ v : Int, v = (ch.toNat : Int) := ⟨_, rfl⟩
            rw [← hcv] at hidx hv hv2
            clear hcv
            go_wp2_with fail
            go_roundg (gk - 1)
            case measure => have := HIG.out; omega
            case rel =>
              refine ⟨i + 1, st, c, by have := HIG.out; omega, by go_num, rfl, ?_, rfl, fun h => absurd h hnl, rfl⟩
              rw [Pl.count_succ HCH.out, HC.out, if_neg h10]
        · have hiP : i = P := by omega
          have hst' := HST.out hiP
          have hcK : c = K := by
            have h1 := HF.out.done
            rw [← HP.out, ← hiP] at h1
            have h2 := HC.out
            have h3 := HK.out
            omega
          subst hst'
          subst hiP
          clear hig HST HC HIG hi
          subst hcK
          have hil : (i : Int) < (s.size : Int) := by omega
          have hgt : ¬ ((s.size : Int) ≤ (i : Int)) := by omega
          have hcc : ¬ ((c : Int) < (c : Int)) := by omega
          go_wp2_with fail
          go_loopg [9] (E - i) (fun g s9 wx => ∃ e : Nat, i ≤ e ∧ e + g = E ∧ s9 = .int .i64 (e : Int) ∧ wx = wr)
          case atStart => exact ⟨i, Nat.le_refl _, by omega, rfl, rfl⟩
          case round =>
            obtain ⟨q, hiq, hqg, rfl, rfl⟩ := hrel
            have HQG := hide hqg
            by_cases hq : q < E
            · have hql : (q : Int) < (s.size : Int) := by omega
              have q0 : (0 : Int) ≤ (q : Int) := by omega
              clear hqg
              obtain ⟨ch, hch, h10⟩ := HF.out.inT (i := q) (by rw [← HP.out]; exact hiq) (by rw [← HE.out]; exact hq)
              have hidx := fun W => idx_at s (by rw [← HL.out]; exact hch) W
              have hv : ¬ ((ch.toNat : Int) = 10) := fun h => h10 (by
                have : ch.toNat = (10 : UInt8).toNat := by have e9 : (10 : UInt8).toNat = 10 := rfl; omega
                exact UInt8.toNat_inj.1 this)
              have hv2 : ((ch.toNat : Int) == 10) = false := by rw [beq_eq_false_iff_ne]; exact hv
              clear hch h10
              obtain ⟨cv, hcv⟩ : ∃ v : Int, v = (ch.toNat : Int) := ⟨_, rfl⟩
              rw [← hcv] at hidx hv hv2
              clear hcv
              go_wp2_with fail
              go_roundg (gk - 1)
              case measure => have := HQG.out; omega
              case rel => exact ⟨q + 1, by omega, by have := HQG.out; omega, by go_num, rfl⟩
            · have hqE : q = E := by omega
              subst hqE
              clear hqg HQG hq
              have hidx : q < s.size → ∀ W : World, (Instr.index 9 (.string s) (.int .i64 (q : Int))).run Tryz.prog W = .ok (.int .u8 10) W := fun hq W => by
                have h1 := HF.out.stop (by
                  rw [← HE.out, HL.out]
                  have h2 : s.data.toList.length = s.size := by rw [Array.length_toList]; rfl
                  rw [h2]; exact hq)
                rw [← HE.out, HL.out] at h1
                exact idx_at s h1 W
              have hex := HEX.out
              have hey := HEY.out
              have hez := HEZ.out
              by_cases hql : q < s.size
              all_goals (
                first
                  | (have hqi : (q : Int) < (s.size : Int) := by omega
                     have hidx := hidx hql)
                  | (have hqi : ¬ ((q : Int) < (s.size : Int)) := by omega
                     clear hidx)
                first
                  | (exfalso
                     have := HEN.out (by trivial)
                     omega)
                  | (go_wp2_with fail
                     refine (HPR.out _ G2.out).mono ?_
                     rintro e w4 ⟨A4, n4, c4, rfl, hb4⟩
                     have B4 := hide (B2.out.trans (hb4.mono B2.out.size))
                     have G4 := hide (G2.out.below hb4)
                     clear hb4 G2 B2
                     go_wp2_with fail
                     refine (HLR.out _ G4.out).mono ?_
                     rintro e w5 ⟨A5, n5, c5, a5, rfl, hb5⟩
                     simp only [if_true, if_false, Bool.false_eq_true]
                     have B5 := hide (B4.out.trans (hb5.mono B4.out.size))
                     clear hb5 G4 B4 hey hex hez
                     first
                       | (have hqs : (q : Int) = (s.size : Int) := by
                            have := HEN.out (by trivial)
                            omega)
                       | skip
                     go_wp2
                     go_ret
                     refine ⟨?_, B5.out⟩
                     first
                       | rfl
                       | (have h9 : ((q : Int) == (s.size : Int)) = true := by rw [beq_iff_eq]; exact hqs
                          show Ending.returned (.bool ((q : Int) == (s.size : Int))) = _
                          rw [h9]))))
  · have h3i : (3000 : Int) < (s.size : Int) := by omega
    go_wp2
    go_ret
    exact ⟨rfl, B1.out⟩
theorem movieParses_walk (s : ByteArray) (w : World) (hs : s.size ≤ maxLen) (hg : GV w) :
    Calls Tryz.prog 9 #[.string s] w fun e w' => e = .returned (.bool true) ∧ Below w.heap.size w w' := by
  cases h : Pl.pvA rdT s.data.toList 1 [] with
  | inl p => exact parses_err s w hs hg (K := p.1) (b := p.2) h
  | inr ms => exact parses_all s w hs hg h
end Go.Proofs.YtlffopdoeobgaaaGreatDoor
end
