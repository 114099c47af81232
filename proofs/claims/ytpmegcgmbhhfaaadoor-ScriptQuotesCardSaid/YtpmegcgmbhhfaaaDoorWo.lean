/-
  Walks: the statement ScriptFormats.
-/
import Derived.Test.YtpmegcgmbhhfaaaDoorWn
namespace Go.Proofs.YtpmegcgmbhhfaaaDoor
open Go.RowKit

theorem okL_parts {cs : List Cmd} (h : okL cs = true) : cs.length ≤ 1000 ∧ cs.all fits = true := by
  unfold okL at h
  simpa only [Bool.and_eq_true, decide_eq_true_eq] using h

set_option maxRecDepth 100000 in
set_option maxHeartbeats 4000000 in
theorem scriptFormats_walk (cs : List Cmd) (A : Option Addr) (n cp : Nat) (m : Int) (w : World) (hf : CmdsFit cs) (hn : n ≤ maxLen) (hc : CmdsAt w A n cs) (hm : w.cell? ⟨0, 0, none⟩ = some (.int .i64 m)) :
    Calls Tryd.prog 4 #[.slice A n cp] w fun e w' => e = .returned (.bool true) ∧ Below w.heap.size w w' := by
  go_enter Tryd.func4, Tryd.ntmps4
  go_wp2_with fail
  refine (awake_any m _ hm).mono ?_
  rintro e w1 ⟨rfl, hb1⟩
  go_wp2_with fail
  refine (great_any cs A n cp _ hf hn (hc.keep hb1)).mono ?_
  rintro e w2 ⟨rfl, hb2⟩
  have hbw : Below w.heap.size w w2 := hb1.trans (hb2.mono hb1.size)
  clear hb1 hb2
  cases hg : great cs with
  | true =>
    go_wp2
    go_ret
    exact ⟨rfl, hbw⟩
  | false =>
    clear hg
    cases hok : okL cs with
    | false =>
      go_wp2_with fail
      refine (format_no cs A n cp _ hf hn (hc.keep hbw) hok).mono ?_
      rintro e w3 ⟨rfl, hb3⟩
      have hbw3 : Below w.heap.size w w3 := hbw.trans (hb3.mono hbw.size)
      clear hb3
      go_wp2_with fail
      refine (lawValid_any cs A n cp _ hf hn (hc.keep hbw3)).mono ?_
      rintro e w4 ⟨rfl, hb4⟩
      have hbw4 : Below w.heap.size w w4 := hbw3.trans (hb4.mono hbw3.size)
      rw [show (decide (cs.length ≤ 1000) && cs.all fits) = false from hok]
      clear hb4
      go_wp2
      go_ret
      exact ⟨rfl, hbw4⟩
    | true =>
      have Hok := hide (okL_parts hok).2
      have Hl := hide hc.len
      have hn2 : n ≤ 1000 := by rw [← hc.len]; exact (okL_parts hok).1
      go_wp2_with fail
      refine (format_yes cs A n cp _ hf hn (hc.keep hbw) hok).mono ?_
      rintro e w3 ⟨rfl, hb3⟩
      have hbw3 : Below w.heap.size w w3 := hbw.trans (hb3.mono hbw.size)
      clear hb3
      go_wp2_with fail
      refine (lawValid_any cs A n cp _ hf hn (hc.keep hbw3)).mono ?_
      rintro e w4 ⟨rfl, hb4⟩
      have hbw4 : Below w.heap.size w w4 := hbw3.trans (hb4.mono hbw3.size)
      rw [show (decide (cs.length ≤ 1000) && cs.all fits) = true from hok]
      clear hb4 hbw3 hbw hok
      go_wp2
      go_loopg [5, 28] n (fun g r i wx => ∃ (k : Nat) (x : ByteArray), k + g = n ∧ i = .int .i64 k ∧ r = .string x ∧ x.data.toList = fmtL (cs.take k) ∧ Below w.heap.size w wx)
      case atStart => exact ⟨0, ByteArray.empty, by omega, rfl, rfl, rfl, hbw4⟩
      case round =>
        obtain ⟨k, x, hkg, rfl, rfl, hx, hb⟩ := hrel
        have HG := hide hkg
        have HX := hide hx
        have hks : k ≤ n := by omega
        clear hkg hx
        by_cases hlt : k < n
        · obtain ⟨ab, ao, Bs, q, cp', rfl, c1w, c2w, hq, hs⟩ := hc.at_ hlt
          have c1 := cell_below c1w hb
          have c2 := cell_below c2w hb
          clear c1w c2w
          have hks' : k < cs.length := by have := Hl.out; omega
          have hfk := all_at Hok.out hks'
          have HFL := hide (fmtL_len (cs.take k) (all_take Hok.out k))
          have HTL := hide (List.length_take_le k cs)
          have HT := hide (fmtL_take hks')
          have HLL := hide (lineB_len hfk)
          have hb2 : Below w.heap.size w (wr.alloc (.cells #[.string (cs[k]'hks').word, .slice Bs q cp'] 31)) := hb.alloc hb.size _
          go_wp2_with (go_at_call 14; (with_reducible refine (line_any (cs[k]'hks') Bs q cp' _ hfk ?_).mono ?_))
          · exact hs.keep hb2
          rintro e w6 ⟨rfl, hb6⟩
          have hb7 : Below w.heap.size w w6 := hb2.trans (hb6.mono hb2.size)
          have hadd := run_string_add_sum (P := Tryd.prog) w6 x ⟨(lineB (cs[k]'hks')).toArray⟩ (by
            have h1 := Lib.size_eq x
            have h2 := mk_size (lineB (cs[k]'hks'))
            have h3 := HFL.out
            have h4 := HTL.out
            have h5 := HLL.out
            rw [HX.out] at h1
            omega)
          clear hb2 hb6
          go_wp2
          go_roundg (gk - 1)
          case measure => have := HG.out; omega
          case rel => exact ⟨k + 1, _, by have := HG.out; omega, by go_num, rfl, by rw [data_add, HX.out, HT.out], hb7⟩
        · have HE := hide (show x = ⟨(fmtL cs).toArray⟩ by
            apply data_ext
            rw [HX.out, List.take_of_length_le (by have := Hl.out; omega)])
          obtain rfl := HE.out
          go_wp2
          go_ret
          exact ⟨ret_bool (by simp), hb⟩
end Go.Proofs.YtpmegcgmbhhfaaaDoor
