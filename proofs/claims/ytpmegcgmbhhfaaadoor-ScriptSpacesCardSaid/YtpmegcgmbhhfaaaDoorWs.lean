/-
  Walks: the statement ScriptSpaces.
-/
import Derived.Test.YtpmegcgmbhhfaaaDoorWr
import Derived.Test.YtpmegcgmbhhfaaaDoorWp
import Derived.Test.YtpmegcgmbhhfaaaDoorSpecE
import Derived.OpenShut
namespace Go.Proofs.YtpmegcgmbhhfaaaDoor
open Go.RowKit

/-- The lines of the text of a list that is not great. -/
theorem pieces_small {cs : List Cmd} (hg : great cs = false) (hok : okL cs = true) :
    (Sp.pieces (Sp.joinL ((cs.map ofCmd).map Sp.body))).length ≤ 21 ∧ (∀ x ∈ Sp.pieces (Sp.joinL ((cs.map ofCmd).map Sp.body)), x.length ≤ 8081) ∧ (∀ c ∈ cs.map ofCmd, Sp.fits c = true) ∧ (cs.map ofCmd).length ≤ 1000 := by
  obtain ⟨h1, h2⟩ := small_parts hg hok
  have h3 : ∀ c ∈ cs.map ofCmd, Sp.fits c = true := fun c hc => by
    obtain ⟨c', hc', rfl⟩ := List.mem_map.1 hc
    rw [fits_ofCmd]; exact (h2 c' hc').1
  rw [Sp.pieces_trim h3]
  refine ⟨?_, ?_, h3, by rw [List.length_map]; omega⟩
  · split
    · simp
    · rw [List.length_map, List.length_map]; omega
  · split
    · intro x hx
      rw [List.mem_singleton] at hx; subst hx; simp
    · intro x hx
      obtain ⟨c, hc, rfl⟩ := List.mem_map.1 hx
      obtain ⟨c', hc', rfl⟩ := List.mem_map.1 hc
      have := line_small (h2 c' hc').1 (h2 c' hc').2
      rw [← line_ofCmd, Sp.line_body, List.length_append] at this
      omega
theorem take_data {L : List ByteArray} {k : Nat} (hk : k < L.length) : (L.take (k + 1)).map (·.data.toList) = (L.take k).map (·.data.toList) ++ [(L[k]'hk).data.toList] := by
  rw [List.take_succ_eq_append_getElem hk, List.map_append]; rfl
theorem out_take {L : List ByteArray} {k q : Nat} (hk : k < L.length) : Sp.outGo q ((L.take (k + 1)).map (·.data.toList)) = Sp.outGo q ((L.take k).map (·.data.toList)) ++ Sp.spaced (q + k) (L[k]'hk).data.toList := by
  rw [take_data hk, Sp.outGo_snoc, List.length_map, List.length_take, Nat.min_eq_left (by omega)]
theorem out_small {L : List ByteArray} (h1 : L.length ≤ 21) (h2 : ∀ x ∈ L, x.data.toList.length ≤ 8081) (k q : Nat) : (Sp.outGo q ((L.take k).map (·.data.toList))).length ≤ 200000 := by
  have h := Sp.out_len ((L.take k).map (·.data.toList)) q 8081 (fun x hx => by
    obtain ⟨y, hy, rfl⟩ := List.mem_map.1 hx
    exact h2 y (List.mem_of_mem_take hy))
  rw [List.length_map, List.length_take] at h
  have : min k L.length ≤ 21 := by omega
  have := Nat.mul_le_mul_right (8081 + 10) this
  omega

set_option maxRecDepth 100000 in
set_option maxHeartbeats 4000000 in
theorem scriptSpaces_walk (cs : List Cmd) (A : Option Addr) (n cp q : Nat) (m : Int) (w : World) (hf : CmdsFit cs) (hn : n ≤ maxLen) (hc : CmdsAt w A n cs) (hq : q < 256) (hm : w.cell? ⟨0, 0, none⟩ = some (.int .i64 m)) :
    Calls Tryd.prog 8 #[.slice A n cp, .int .u8 (q : Int)] w fun e w' => e = .returned (.bool true) ∧ Below w.heap.size w w' := by
  obtain rfl := hc.len
  go_enter Tryd.func8, Tryd.ntmps8
  go_wp2_with fail
  refine (awake_any m _ hm).mono ?_
  rintro e w1 ⟨rfl, hb1⟩
  go_wp2_with fail
  refine (great_any cs A cs.length cp _ hf hn (hc.keep hb1)).mono ?_
  rintro e w2 ⟨rfl, hb2⟩
  have hbw : Below w.heap.size w w2 := hb1.trans (hb2.mono hb1.size)
  clear hb1 hb2
  cases hg : great cs with
  | true =>
    clear hg
    go_wp2
    go_ret
    exact ⟨rfl, hbw⟩
  | false =>
    have HG := hide hg
    clear hg
    cases hok : okL cs with
    | false =>
      go_wp2_with fail
      refine (format_no cs A cs.length cp _ hf hn (hc.keep hbw) hok).mono ?_
      rintro e w3 ⟨rfl, hb3⟩
      have hbw3 : Below w.heap.size w w3 := hbw.trans (hb3.mono hbw.size)
      clear hb3 hbw hok
      go_wp2
      go_ret
      exact ⟨rfl, hbw3⟩
    | true =>
      obtain ⟨p1, p2⟩ := parse_fmt HG.out hok
      obtain ⟨s1, s2, s3, s4⟩ := pieces_small HG.out hok
      have S2 := hide s2
      have S3 := hide s3
      clear p2 s2 s3
      go_wp2_with fail
      refine (format_yes cs A cs.length cp _ hf hn (hc.keep hbw) hok).mono ?_
      rintro e w3 ⟨rfl, hb3⟩
      have hbwa : Below w.heap.size w w3 := hbw.trans (hb3.mono hbw.size)
      clear hb3 hbw hok
      have HD := hide (show (⟨(fmtL cs).toArray⟩ : ByteArray).data.toList = Sp.format (cs.map ofCmd) by rw [fmt_ofCmds])
      have HZ := hide (mk_size (fmtL cs))
      generalize (⟨(fmtL cs).toArray⟩ : ByteArray) = F at HD HZ ⊢
      go_wp2_with fail
      refine (Tryd.strings_TrimSuffix F ⟨#[10]⟩ _ (by have := HZ.out; omega)).mono ?_
      rintro e w4 ⟨rfl, rfl⟩
      have HJ := hide (show (⟨(Lib.trimSuffix F.data.toList (⟨#[10]⟩ : ByteArray).data.toList).toArray⟩ : ByteArray).data.toList = Sp.joinL ((cs.map ofCmd).map Sp.body) by
        rw [HD.out, nl_data, Sp.trim_format])
      have HJZ := hide (show (⟨(Lib.trimSuffix F.data.toList (⟨#[10]⟩ : ByteArray).data.toList).toArray⟩ : ByteArray).size ≤ 200000 by
        rw [mk_size]
        have h1 := HZ.out
        rw [Lib.size_eq] at h1
        unfold Lib.trimSuffix
        split
        · rw [List.length_take]; omega
        · omega)
      generalize (⟨(Lib.trimSuffix F.data.toList (⟨#[10]⟩ : ByteArray).data.toList).toArray⟩ : ByteArray) = J at HJ HJZ ⊢
      go_wp2_with fail
      refine (Tryd.strings_Split J ⟨#[10]⟩ m _ (by have := HJZ.out; omega) (cell_below hm hbwa) (by decide)).mono ?_
      rintro e w5 ⟨rfl, rfl⟩
      have HC := hide (split_cells (Lib.splitB ⟨#[10]⟩ 0 (Lib.countB J ⟨#[10]⟩) J) w4)
      have hb3 : Below w.heap.size w (w4.alloc (.cells ((Lib.splitB ⟨#[10]⟩ 0 (Lib.countB J ⟨#[10]⟩) J).map Value.string).toArray 9)) := hbwa.alloc hbwa.size _
      have hlt : w4.heap.size < (w4.alloc (.cells ((Lib.splitB ⟨#[10]⟩ 0 (Lib.countB J ⟨#[10]⟩) J).map Value.string).toArray 9)).heap.size := by simp
      have HL := hide (split_len J)
      have HP := hide (show (Lib.splitB ⟨#[10]⟩ 0 (Lib.countB J ⟨#[10]⟩) J).map (·.data.toList) = Sp.pieces (Sp.joinL ((cs.map ofCmd).map Sp.body)) by rw [Sp.splitB_pieces, HJ.out])
      generalize (w4.alloc (.cells ((Lib.splitB ⟨#[10]⟩ 0 (Lib.countB J ⟨#[10]⟩) J).map Value.string).toArray 9)) = W3 at hb3 hlt HC ⊢
      generalize Lib.splitB ⟨#[10]⟩ 0 (Lib.countB J ⟨#[10]⟩) J = L at HC HL HP
      generalize Lib.countB J ⟨#[10]⟩ = N at HL ⊢
      have hL21 : L.length ≤ 21 := by
        have := congrArg List.length HP.out
        rw [List.length_map] at this; omega
      have HLL := hide (fun (k q : Nat) => out_small hL21 (fun x hx => S2.out _ (by rw [← HP.out]; exact List.mem_map_of_mem hx)) k q)
      have HLI := hide (fun (k : Nat) (hk : k < L.length) => show (L[k]'hk).size ≤ 8081 by
        rw [Lib.size_eq]
        exact S2.out _ (by rw [← HP.out]; exact List.mem_map_of_mem (List.getElem_mem hk)))
      have HN := hide (show N + 1 = L.length from HL.out.symm)
      have hN : N ≤ 20 := by have := HN.out; omega
      clear hL21 s1
      go_wp2
      go_loopg [7, 28] (N + 1) (fun g r i wx => ∃ (k : Nat) (x : ByteArray), k + g = N + 1 ∧ i = .int .i64 k ∧ r = .string x ∧ x.data.toList = Sp.outGo q ((L.take k).map (·.data.toList)) ∧ Below W3.heap.size W3 wx)
      case atStart => exact ⟨0, ByteArray.empty, by omega, rfl, rfl, rfl, Below.refl _ _⟩
      case round =>
        obtain ⟨k, x, hkg, rfl, rfl, hx, hb⟩ := hrel
        have HGK := hide hkg
        have HX := hide hx
        have hks : k ≤ N + 1 := by omega
        clear hkg hx
        have hxs : x.size ≤ 200000 := by rw [Lib.size_eq, HX.out]; exact HLL.out k q
        by_cases hlt2 : k < N + 1
        · have hkL : k < L.length := by have := HN.out; omega
          have hcx := cell_below (HC.out k _ (List.getElem?_eq_getElem hkL)) hb
          have hli := HLI.out k hkL
          have HT := hide (out_take (q := q) hkL)
          generalize (L[k]'hkL) = l at hcx hli HT
          have HTB := hide (show Lib.countB l ⟨#[32]⟩ ≤ l.size from Lib.countB_le ⟨#[32]⟩ (by decide) l.size l (Nat.le_refl _))
          obtain ⟨R, hR⟩ : ∃ R : ByteArray, R = ⟨(Lib.replace l.data.toList (⟨#[32]⟩ : ByteArray).data.toList (⟨#[32, 9, 32]⟩ : ByteArray).data.toList 1).toArray⟩ := ⟨_, rfl⟩
          have HRD := hide (show R.data.toList = Lib.replace l.data.toList [32] [32, 9, 32] 1 by rw [hR])
          have HRZ := hide (show R.size ≤ 8083 by
            have := Sp.replace_len l.data.toList
            have := Lib.size_eq l
            rw [hR, mk_size]
            show (Lib.replace l.data.toList [32] [32, 9, 32] 1).length ≤ 8083
            omega)
          have HR := hide hR
          clear hR
          have hbk : Below w.heap.size w wr := hb3.trans (hb.mono hb3.size)
          have hcm : wr.cell? ⟨0, 0, none⟩ = some (.int .i64 m) := cell_below hm hbk
          have HCM := hide hcm
          clear hcm
          go_wp2_with fail
          · have t : (((k : Int) + (q : Int)) % 5 == 0) = true := by assumption
            have t1 : (q + k) % 5 = 0 := by have := beq_iff_eq.1 t; omega
            go_roundg (gk - 1)
            case measure => have := HGK.out; omega
            case rel => exact ⟨k + 1, _, by have := HGK.out; omega, by go_num, rfl, by rw [data_add, data_add, data_add, HX.out, HT.out]; unfold Sp.spaced; rw [if_pos t1], hb⟩
          · have t : (((k : Int) + (q : Int)) % 5 == 1) = true := by assumption
            have t1 : (q + k) % 5 = 1 := by have := beq_iff_eq.1 t; omega
            go_roundg (gk - 1)
            case measure => have := HGK.out; omega
            case rel => exact ⟨k + 1, _, by have := HGK.out; omega, by go_num, rfl, by rw [data_add, data_add, HX.out, HT.out]; unfold Sp.spaced; rw [if_neg (by omega), if_pos t1], hb⟩
          · have t : (((k : Int) + (q : Int)) % 5 == 2) = true := by assumption
            have t1 : (q + k) % 5 = 2 := by have := beq_iff_eq.1 t; omega
            go_roundg (gk - 1)
            case measure => have := HGK.out; omega
            case rel => exact ⟨k + 1, _, by have := HGK.out; omega, by go_num, rfl, by rw [data_add, data_add, data_add, HX.out, HT.out]; unfold Sp.spaced; rw [if_neg (by omega), if_neg (by omega), if_pos t1], hb⟩
          · have t : (((k : Int) + (q : Int)) % 5 == 3) = true := by assumption
            have t1 : (q + k) % 5 = 3 := by have := beq_iff_eq.1 t; omega
            go_roundg (gk - 1)
            case measure => have := HGK.out; omega
            case rel => exact ⟨k + 1, _, by have := HGK.out; omega, by go_num, rfl, by rw [data_add, data_add, data_add, HX.out, HT.out]; unfold Sp.spaced; rw [if_neg (by omega), if_neg (by omega), if_neg (by omega), if_pos t1], hb⟩
          · have t0 : (((k : Int) + (q : Int)) % 5 == 0) = false := by assumption
            have t1 : (((k : Int) + (q : Int)) % 5 == 1) = false := by assumption
            have t2 : (((k : Int) + (q : Int)) % 5 == 2) = false := by assumption
            have t3 : (((k : Int) + (q : Int)) % 5 == 3) = false := by assumption
            have HT0 := hide (beq_eq_false_iff_ne.1 t0)
            have HT1 := hide (beq_eq_false_iff_ne.1 t1)
            have HT2 := hide (beq_eq_false_iff_ne.1 t2)
            have HT3 := hide (beq_eq_false_iff_ne.1 t3)
            clear t0 t1 t2 t3
            refine (Tryd.strings_Replace l ⟨#[32]⟩ ⟨#[32, 9, 32]⟩ 1 m _ (by omega) HCM.out (by decide) (by
              have h1 := HTB.out
              have h2 : (⟨#[32, 9, 32]⟩ : ByteArray).size = 3 := rfl
              rw [h2]; omega)).mono ?_
            rintro e w6 ⟨rfl, hb6⟩
            have hb7 : Below W3.heap.size W3 w6 := hb.trans (hb6.mono hb.size)
            rw [← HR.out]
            have hrz := HRZ.out
            clear hb6
            go_wp2
            go_roundg (gk - 1)
            case measure => have := HGK.out; omega
            case rel => exact ⟨k + 1, _, by have := HGK.out; omega, by go_num, rfl, by
              have h0 := HT0.out; have h1 := HT1.out; have h2 := HT2.out; have h3 := HT3.out
              rw [data_add, data_add, HX.out, HT.out, HRD.out]; unfold Sp.spaced; rw [if_neg (by omega), if_neg (by omega), if_neg (by omega), if_neg (by omega)], hb7⟩
        · have hkL : ¬ k < L.length := by have := HN.out; omega
          have HQ := hide (show Sp.parse x.data.toList = .ok (cs.map ofCmd) by
            have e : x.data.toList = Sp.outGo q (Sp.pieces (Sp.joinL ((cs.map ofCmd).map Sp.body))) := by
              rw [HX.out, List.take_of_length_le (by omega), HP.out]
            rw [e]
            exact Sp.parse_out S3.out s4 q (by rw [← e, ← Lib.size_eq]; omega))
          have hbk : Below w.heap.size w wr := hb3.trans (hb.mono hb3.size)
          clear hkL
          go_wp2_with fail
          refine (parse_any x m _ (by unfold maxLen; omega) (cell_below hm hbk)).mono ?_
          rintro e w6 ⟨hres, hb6⟩
          have hbw6 : Below w.heap.size w w6 := hbk.trans (hb6.mono hbk.size)
          rw [HQ.out] at hres
          obtain ⟨A2, cp2, rfl, hcm⟩ := hres
          rw [toCmds_ofCmds, List.length_map] at hcm
          rw [List.length_map]
          clear hb6 hbk hb
          go_wp2_with fail
          refine (same_any cs A A2 cs.length cp cp2 _ hn (hc.keep hbw6) hcm).mono ?_
          rintro e w7 ⟨rfl, hb7⟩
          have hbw7 : Below w.heap.size w w7 := hbw6.trans (hb7.mono hbw6.size)
          go_wp2
          go_ret
          exact ⟨rfl, hbw7⟩
theorem scriptSpaces_int (cs : List Cmd) (A : Option Addr) (n cp : Nat) (z : Int) (m : Int) (w : World) (hf : CmdsFit cs) (hn : n ≤ maxLen) (hc : CmdsAt w A n cs) (hz : (Lit.int .u8 z).wf = true) (hm : w.cell? ⟨0, 0, none⟩ = some (.int .i64 m)) :
    Calls Tryd.prog 8 #[.slice A n cp, .int .u8 z] w fun e w' => e = .returned (.bool true) ∧ Below w.heap.size w w' := by
  have h1 := bounds_u8 hz
  obtain ⟨q, rfl⟩ := Int.eq_ofNat_of_zero_le h1.1
  exact scriptSpaces_walk cs A n cp q m w hf hn hc (by omega) hm
end Go.Proofs.YtpmegcgmbhhfaaaDoor
