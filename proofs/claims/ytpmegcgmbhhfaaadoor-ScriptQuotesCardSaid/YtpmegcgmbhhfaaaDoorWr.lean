/-
  Walks: the statement ScriptReturns.
-/
import Derived.Test.YtpmegcgmbhhfaaaDoorWo
import Derived.Test.YtpmegcgmbhhfaaaDoorWq
import Derived.Test.YtpmegcgmbhhfaaaDoorSpecD
namespace Go.Proofs.YtpmegcgmbhhfaaaDoor
open Go.RowKit

def ofCmd (c : Cmd) : Sp.C := ⟨c.word.data.toList, c.args.map (·.data.toList)⟩
theorem ba_eta (x : ByteArray) : (⟨x.data.toList.toArray⟩ : ByteArray) = x := data_ext (by simp)
theorem toCmd_ofCmd (c : Cmd) : toCmd (ofCmd c) = c := by
  obtain ⟨w, al⟩ := c
  simp only [toCmd, ofCmd, ba_eta, List.map_map, Cmd.mk.injEq, true_and]
  exact (List.map_congr_left (fun a _ => ba_eta a)).trans (List.map_id al)
theorem toCmds_ofCmds (cs : List Cmd) : (cs.map ofCmd).map toCmd = cs := by
  rw [List.map_map]
  exact (List.map_congr_left (fun a _ => toCmd_ofCmd a)).trans (List.map_id cs)
theorem fits_ofCmd (c : Cmd) : Sp.fits (ofCmd c) = fits c := by rw [← fits_toCmd, toCmd_ofCmd]
theorem line_ofCmd (c : Cmd) : Sp.line (ofCmd c) = lineB c := by
  unfold Sp.line lineB ofCmd argsT
  rw [List.flatMap_map]
theorem fmt_ofCmds (cs : List Cmd) : Sp.format (cs.map ofCmd) = fmtL cs := by
  unfold Sp.format fmtL
  rw [List.flatMap_map]
  congr 1
  funext c
  exact line_ofCmd c
theorem fmt_toCmds (cs : List Sp.C) : fmtL (cs.map toCmd) = Sp.format cs := by
  rw [← fmt_ofCmds, List.map_map]
  congr 1
  refine (List.map_congr_left (fun c _ => ?_)).trans (List.map_id cs)
  obtain ⟨w, al⟩ := c
  simp [toCmd, ofCmd, Function.comp_def]

/-- What is not great is short. -/
theorem small_parts {cs : List Cmd} (hg : great cs = false) (hok : okL cs = true) : cs.length ≤ 20 ∧ ∀ c ∈ cs, fits c = true ∧ ∀ a ∈ c.args, a.size ≤ 200 := by
  obtain ⟨h1, h2⟩ := okL_parts hok
  unfold great at hg
  rw [Bool.or_eq_false_iff, Bool.not_eq_false', decide_eq_false_iff_not, List.all_eq_true] at hg
  rw [List.all_eq_true] at h2
  refine ⟨by omega, fun c hc => ⟨h2 c hc, fun a ha => ?_⟩⟩
  have g1 := hg.1 c hc
  have g2 := h2 c hc
  unfold okCmd at g1
  rw [Bool.and_eq_true, List.all_eq_true] at g1
  have g3 := g1.2 a ha
  unfold fits at g2
  rw [Bool.and_eq_true, List.all_eq_true] at g2
  have g4 := g2.2 a ha
  unfold argFits at g4
  unfold greatArg at g3
  simp only [Bool.and_eq_true, decide_eq_true_eq] at g4
  rw [Bool.not_eq_true', decide_eq_false_iff_not] at g3
  omega
theorem args_small : ∀ (al : List ByteArray), (∀ a ∈ al, a.size ≤ 200) → (argsT al).length ≤ al.length * 403
  | [], _ => by simp [argsT]
  | a :: al, h => by
    have h1 := args_small al (fun x hx => h x (by simp [hx]))
    have h2 := arg_len a.data.toList
    have h3 := h a (by simp)
    rw [Lib.size_eq] at h3
    have e : argsT (a :: al) = (32 :: Sp.arg a.data.toList) ++ argsT al := by simp [argsT]
    rw [e, List.length_append, List.length_cons, List.length_cons]
    omega
theorem line_small {c : Cmd} (h : fits c = true) (ha : ∀ a ∈ c.args, a.size ≤ 200) : (lineB c).length ≤ 8081 := by
  have h1 := args_small c.args ha
  unfold fits at h
  simp only [Bool.and_eq_true, decide_eq_true_eq] at h
  have h2 := h.1.1.1.2
  rw [Lib.size_eq] at h2
  unfold lineB
  simp only [List.length_append, List.length_cons, List.length_nil]
  omega
theorem fmt_small : ∀ (cs : List Cmd), (∀ c ∈ cs, fits c = true ∧ ∀ a ∈ c.args, a.size ≤ 200) → (fmtL cs).length ≤ cs.length * 8081
  | [], _ => by simp [fmtL]
  | c :: cs, h => by
    have h1 := fmt_small cs (fun x hx => h x (by simp [hx]))
    have h2 := line_small (h c (by simp)).1 (h c (by simp)).2
    have e : fmtL (c :: cs) = lineB c ++ fmtL cs := by simp [fmtL]
    rw [e, List.length_append, List.length_cons]
    omega
/-- The text of a list that is not great is parsed as the list. -/
theorem parse_fmt {cs : List Cmd} (hg : great cs = false) (hok : okL cs = true) : (fmtL cs).length ≤ 200000 ∧ Sp.parse (fmtL cs) = .ok (cs.map ofCmd) := by
  obtain ⟨h1, h2⟩ := small_parts hg hok
  have h3 := fmt_small cs h2
  refine ⟨by omega, ?_⟩
  have h4 := Sp.parse_format (cs := cs.map ofCmd) (fun c hc => by
    obtain ⟨c', hc', rfl⟩ := List.mem_map.1 hc
    rw [fits_ofCmd]; exact (h2 c' hc').1) (by rw [List.length_map]; omega) (by rw [fmt_ofCmds]; omega)
  rwa [fmt_ofCmds] at h4
/-- What a source is parsed as: a script, with a text that is parsed as the same. -/
theorem parse_src {s : ByteArray} {m : List Sp.C} (h : Sp.parse s.data.toList = .ok m) (hs : s.size ≤ 5000) : okL (m.map toCmd) = true ∧ CmdsFit (m.map toCmd) ∧ m.length ≤ 1000 ∧ (fmtL (m.map toCmd)).length ≤ 1000000000 ∧ Sp.parse (fmtL (m.map toCmd)) = .ok m := by
  obtain ⟨h1, h2, h3⟩ := Sp.parse_ok h (by rw [← Lib.size_eq]; omega)
  have hall : (m.map toCmd).all fits = true := by
    rw [List.all_eq_true]
    intro c hc
    obtain ⟨c', hc', rfl⟩ := List.mem_map.1 hc
    rw [fits_toCmd]; exact h1 c' hc'
  refine ⟨?_, fun c hc => ?_, h2, ?_, by rw [fmt_toCmds]; exact h3⟩
  · unfold okL; rw [hall, List.length_map]; simpa using h2
  · rw [List.all_eq_true] at hall
    have h4 := hall c hc
    unfold fits at h4
    simp only [Bool.and_eq_true, decide_eq_true_eq, List.all_eq_true] at h4
    refine ⟨by have := h4.1.1.1.2; unfold maxLen; omega, fun a ha => ?_⟩
    have := arg_bound (h4.2 a ha)
    unfold maxLen; omega
  · have := fmtL_len _ hall
    rw [List.length_map] at this
    omega

theorem step_code {acc : List Sp.C} {l : Sp.Bytes} {e : Nat} (h : Sp.stepLine acc l = .error e) : 3 ≤ e := by
  unfold Sp.stepLine at h
  split at h
  · injection h with h; omega
  · cases h
  · split at h
    · injection h with h; omega
    · split at h
      · injection h with h; omega
      · cases h
theorem parse_code {l : Sp.Bytes} {k e : Nat} (h : Sp.parse l = .error (k, e)) : 3 ≤ e := by
  unfold Sp.parse at h
  split at h
  · injection h with h; injection h with _ h; omega
  · obtain ⟨_, _, _, _, _, _, h4⟩ := Sp.goLines_error _ _ _ _ _ h
    exact step_code h4

set_option maxRecDepth 100000 in
set_option maxHeartbeats 4000000 in
/-- The second half of the statement: what is parsed. -/
theorem scriptReturns_walk (cs : List Cmd) (A : Option Addr) (n cp : Nat) (s : ByteArray) (m : Int) (w : World) (hf : CmdsFit cs) (hn : n ≤ maxLen) (hc : CmdsAt w A n cs) (hs : s.size ≤ maxLen) (hm : w.cell? ⟨0, 0, none⟩ = some (.int .i64 m)) :
    Calls Tryd.prog 5 #[.slice A n cp, .string s] w fun e w' => e = .returned (.bool true) ∧ Below w.heap.size w w' := by
  unfold maxLen at hs
  obtain rfl := hc.len
  go_enter Tryd.func5, Tryd.ntmps5
  go_wp2_with fail
  refine (awake_any m _ hm).mono ?_
  rintro e w1 ⟨rfl, hb1⟩
  go_wp2_with fail
  refine (great_any cs A cs.length cp _ hf hn (hc.keep hb1)).mono ?_
  rintro e w2 ⟨rfl, hb2⟩
  have hbw : Below w.heap.size w w2 := hb1.trans (hb2.mono hb1.size)
  clear hb1 hb2
  cases hg : great cs with
  | true =>
    clear hg
    go_wp2
    go_ret
    exact ⟨rfl, hbw⟩
  | false =>
    have HG := hide hg
    clear hg
    by_cases hbig : 5000 < s.size
    · have h1 : decide (5000 < (s.size : Int)) = true := by simp; omega
      go_wp2
      go_ret
      exact ⟨rfl, hbw⟩
    · have h1 : decide (5000 < (s.size : Int)) = false := by simp; omega
      have hs5 : s.size ≤ 5000 := by omega
      cases hok : okL cs
      case' false =>
        go_wp2_with fail
        refine (format_no cs A cs.length cp _ hf hn (hc.keep hbw) hok).mono ?_
        rintro e w3 ⟨rfl, hb3⟩
        have hbw3 : Below w.heap.size w w3 := hbw.trans (hb3.mono hbw.size)
        clear hb3 hbw h1 hok
        go_wp2_with fail
      case' true =>
        obtain ⟨p1, p2⟩ := parse_fmt HG.out hok
        have P2 := hide p2
        clear p2
        go_wp2_with fail
        refine (format_yes cs A cs.length cp _ hf hn (hc.keep hbw) hok).mono ?_
        rintro e w3 ⟨rfl, hb3⟩
        have hbwa : Below w.heap.size w w3 := hbw.trans (hb3.mono hbw.size)
        clear hb3 hbw h1 hok
        have HD := hide (show (⟨(fmtL cs).toArray⟩ : ByteArray).data.toList = fmtL cs from rfl)
        have HZ := hide (mk_size (fmtL cs))
        generalize (⟨(fmtL cs).toArray⟩ : ByteArray) = F at HD HZ ⊢
        go_wp2_with fail
        refine (parse_any F m _ (by have := HZ.out; unfold maxLen; omega) (cell_below hm hbwa)).mono ?_
        rintro e w4 ⟨hres, hb4⟩
        have hbwb : Below w.heap.size w w4 := hbwa.trans (hb4.mono hbwa.size)
        rw [HD.out, P2.out] at hres
        obtain ⟨A2, cp2, rfl, hcm⟩ := hres
        rw [toCmds_ofCmds, List.length_map] at hcm
        rw [List.length_map]
        clear hb4 hbwa
        go_wp2_with fail
        refine (same_any cs A A2 cs.length cp cp2 _ hn (hc.keep hbwb) hcm).mono ?_
        rintro e w5 ⟨rfl, hb5⟩
        have hbw3 : Below w.heap.size w w5 := hbwb.trans (hb5.mono hbwb.size)
        clear hb5 hbwb hcm
        go_wp2_with fail
      all_goals
        refine (parse_any s m _ (by unfold maxLen; omega) (cell_below hm hbw3)).mono ?_
        rintro e w6 ⟨hres6, hb6⟩
        have hbw6 : Below w.heap.size w w6 := hbw3.trans (hb6.mono hbw3.size)
        clear hb6 hbw3
        cases hp : Sp.parse s.data.toList with
        | error ke =>
          obtain ⟨k, er⟩ := ke
          rw [hp] at hres6
          obtain rfl := hres6
          have her := parse_code hp
          have h2 : (((er : Nat) : Int) != 0) = true := by rw [bne_iff_ne]; omega
          clear hp
          go_wp2
          go_ret
          exact ⟨rfl, hbw6⟩
        | ok ms =>
          rw [hp] at hres6
          obtain ⟨A3, cp3, rfl, hcm3⟩ := hres6
          obtain ⟨q1, q2, q3, q4, q5⟩ := parse_src hp hs5
          have Q1 := hide q1
          have Q5 := hide q5
          clear hp q5
          have hml : ms.length ≤ maxLen := by unfold maxLen; omega
          go_wp2_with fail
          refine (format_yes (ms.map toCmd) A3 ms.length cp3 _ q2 hml hcm3 q1).mono ?_
          clear q1
          rintro e w7 ⟨rfl, hb7⟩
          have hbw7 : Below w.heap.size w w7 := hbw6.trans (hb7.mono hbw6.size)
          have hcm4 := hcm3.keep hb7
          clear hb7 hbw6 hcm3
          have HD2 := hide (show (⟨(fmtL (ms.map toCmd)).toArray⟩ : ByteArray).data.toList = fmtL (ms.map toCmd) from rfl)
          have HZ2 := hide (mk_size (fmtL (ms.map toCmd)))
          generalize (⟨(fmtL (ms.map toCmd)).toArray⟩ : ByteArray) = F2 at HD2 HZ2 ⊢
          go_wp2_with fail
          refine (parse_any F2 m _ (by have := HZ2.out; unfold maxLen; omega) (cell_below hm hbw7)).mono ?_
          rintro e w8 ⟨hres8, hb8⟩
          have hbw8 : Below w.heap.size w w8 := hbw7.trans (hb8.mono hbw7.size)
          rw [HD2.out, Q5.out] at hres8
          obtain ⟨A4, cp4, rfl, hcm5⟩ := hres8
          have hcm6 := hcm4.keep hb8
          clear hb8 hbw7 hcm4
          go_wp2_with fail
          refine (Valid_any (ms.map toCmd) A3 ms.length cp3 _ q2 hml hcm6).mono ?_
          rintro e w9 ⟨rfl, hb9⟩
          rw [show (decide ((ms.map toCmd).length ≤ 1000) && (ms.map toCmd).all fits) = true from Q1.out]
          have hbw9 : Below w.heap.size w w9 := hbw8.trans (hb9.mono hbw8.size)
          have hcm7 := hcm6.keep hb9
          have hcm8 := hcm5.keep hb9
          clear hb9 hbw8 hcm6 hcm5
          go_wp2_with fail
          refine (same_any (ms.map toCmd) A3 A4 ms.length cp3 cp4 _ hml hcm7 hcm8).mono ?_
          rintro e w10 ⟨rfl, hb10⟩
          have hbwa : Below w.heap.size w w10 := hbw9.trans (hb10.mono hbw9.size)
          clear hb10 hbw9
          go_wp2
          go_ret
          exact ⟨rfl, hbwa⟩
end Go.Proofs.YtpmegcgmbhhfaaaDoor
