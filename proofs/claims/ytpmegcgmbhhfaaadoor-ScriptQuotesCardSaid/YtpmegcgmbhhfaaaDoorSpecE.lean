/-
  Plain Lean: comments, empty lines and blanks beside the lines of a script; what is left of a string when the bytes that no argument may hold are dropped. No program is named here.
-/
import Derived.Test.YtpmegcgmbhhfaaaDoorSpecD
import Derived.Lib.MapU
import Derived.Lib.TrimU
import Derived.Lib.ReplaceLaws
namespace Go.Proofs.YtpmegcgmbhhfaaaDoor
namespace Sp

/-! The dropping of bytes. -/
def cleanF (x : Int) : Int := if (32 ≤ x ∧ x ≤ 126) ∨ x = 9 ∨ x = 10 then x else -1
theorem clean_one {x : Nat} (h : 0 ≤ cleanF x) : Lib.encodeRune (cleanF x) = [x.toUInt8] ∧ arg1 x.toUInt8 = true := by
  unfold cleanF at h ⊢
  split at h
  · rename_i hx
    rw [if_pos hx]
    have hlt : x < 256 := by omega
    refine ⟨?_, ?_⟩
    · unfold Lib.encodeRune
      rw [Lib.encodeRuneZ_one (by omega) (by omega)]
      simp
    · unfold arg1
      have : x.toUInt8.toNat = x := by simp [Nat.toUInt8, UInt8.toNat_ofNat']; omega
      rw [this]
      simp only [decide_eq_true_eq]
      omega
  · omega
theorem clean_go : ∀ (n : Nat) (l : Bytes), (Lib.mapGoD cleanF n l).all arg1 = true ∧ (Lib.mapGoD cleanF n l).length ≤ n
  | 0, l => by simp [Lib.mapGoD]
  | n + 1, l => by
    rw [Lib.mapGoD]
    split
    · simp
    · obtain ⟨h1, h2⟩ := clean_go n (l.drop (Lib.decodeL l).2)
      rw [List.all_append, List.length_append]
      split
      · rename_i h
        obtain ⟨g1, g2⟩ := clean_one h
        rw [g1, h1, List.length_singleton]
        exact ⟨by simp [g2], by omega⟩
      · rw [h1]; exact ⟨rfl, by simp; omega⟩
theorem clean_all (l : Bytes) : (Lib.mapD cleanF l).all arg1 = true ∧ (Lib.mapD cleanF l).length ≤ l.length := clean_go _ _

theorem count_flat {x : Bytes} (h : flat x = true) : x.count 10 = 0 := by
  rw [List.count_eq_zero]
  intro hm
  unfold flat at h
  rw [List.all_eq_true] at h
  have := h 10 hm
  simp at this
theorem count_line {c : C} (h : fits c = true) : (line c).count 10 = 1 := by
  rw [line_body, List.count_append, count_flat (body_flat h)]; rfl

/-! Blanks. -/
def noBl (l : Bytes) : Bool := l.all (· != 32)
theorem index_bl (l : Bytes) : (Lib.index l [32] = -1 ∧ noBl l = true) ∨ (∃ k : Nat, Lib.index l [32] = k ∧ noBl (l.take k) = true ∧ l = l.take k ++ 32 :: l.drop (k + 1) ∧ k < l.length) := by
  induction l with
  | nil => left; simp [Lib.index, noBl]
  | cons b t ih =>
    by_cases hb : b = 32
    · right; exact ⟨0, by subst hb; simp [Lib.index], rfl, by subst hb; simp, by simp⟩
    · have hp : [32].isPrefixOf (b :: t) = false := by simp [List.isPrefixOf, Ne.symm hb]
      rcases ih with ⟨h1, h2⟩ | ⟨k, h1, h2, h3, h4⟩
      · left
        refine ⟨by rw [Lib.index, hp, h1]; rfl, ?_⟩
        unfold noBl at h2 ⊢
        rw [List.all_cons, h2]; simp [hb]
      · right
        refine ⟨k + 1, ?_, ?_, ?_, by simp; omega⟩
        · rw [Lib.index, hp, h1]
          have : ((k : Int) == -1) = false := by rw [beq_eq_false_iff_ne]; omega
          rw [this]; rfl
        · unfold noBl at h2 ⊢
          rw [List.take_succ_cons, List.all_cons, h2]; simp [hb]
        · rw [List.take_succ_cons, List.drop_succ_cons, List.cons_append, ← h3]
theorem noBl_uniq : ∀ (a b x y : Bytes), noBl a = true → noBl b = true → a ++ 32 :: x = b ++ 32 :: y → a = b ∧ x = y
  | [], [], x, y, _, _, h => by simpa using h
  | [], c :: b, x, y, _, hb, h => by
    injection h with h1 h2
    subst h1
    simp [noBl] at hb
  | c :: a, [], x, y, ha, _, h => by
    injection h with h1 h2
    subst h1
    simp [noBl] at ha
  | c :: a, d :: b, x, y, ha, hb, h => by
    injection h with h1 h2
    subst h1
    unfold noBl at ha hb
    rw [List.all_cons, Bool.and_eq_true] at ha hb
    obtain ⟨g1, g2⟩ := noBl_uniq a b x y ha.2 hb.2 h2
    exact ⟨by rw [g1], g2⟩
theorem noBl_app (a x : Bytes) : noBl (a ++ 32 :: x) = false := by
  unfold noBl; rw [List.all_append, List.all_cons]; simp
/-- strings.Replace(x, " ", " \t ", 1). -/
theorem replace_none {x : Bytes} (h : noBl x = true) : Lib.replace x [32] [32, 9, 32] 1 = x := by
  rcases index_bl x with ⟨h1, _⟩ | ⟨k, h1, h2, h3, h4⟩
  · unfold Lib.replace
    rw [if_neg (by decide)]
    unfold Lib.replaceNum
    rw [Lib.count_miss h1]
    rw [if_pos (by right; decide)]
    rfl
  · rw [h3, noBl_app] at h; cases h
theorem replace_some {a x : Bytes} (h : noBl a = true) : Lib.replace (a ++ 32 :: x) [32] [32, 9, 32] 1 = a ++ [32, 9, 32] ++ x := by
  rcases index_bl (a ++ 32 :: x) with ⟨_, h1⟩ | ⟨k, h1, h2, h3, h4⟩
  · rw [noBl_app] at h1; cases h1
  · obtain ⟨g1, g2⟩ := noBl_uniq _ _ _ _ h h2 h3
    have hc : Lib.count (a ++ 32 :: x) [32] = 1 + Lib.count ((a ++ 32 :: x).drop (k + 1)) [32] := by
      rw [Lib.count_hit (by simp) h1]; simp
    unfold Lib.replace
    rw [if_neg (by decide)]
    unfold Lib.replaceNum
    rw [if_neg (by rw [hc]; omega)]
    show Lib.replaceK [32] [32, 9, 32] 1 _ = _
    rw [Lib.replaceK_hit _ _ 0 _ k h1]
    show _ ++ _ ++ (a ++ 32 :: x).drop (k + 1) = _
    rw [← g1, ← g2]

/-- What the statement makes of the line with the number k. -/
def spaced (k : Nat) (x : Bytes) : Bytes :=
  if k % 5 = 0 then [32, 9] ++ x ++ [32, 10]
  else if k % 5 = 1 then x ++ [32, 35, 32, 0, 32, 34, 10, 10]
  else if k % 5 = 2 then [35, 32, 110, 111, 110, 101, 10] ++ x ++ [9, 10]
  else if k % 5 = 3 then [32, 10] ++ x ++ [10]
  else Lib.replace x [32] [32, 9, 32] 1 ++ [10]
def outGo : Nat → List Bytes → Bytes
  | _, [] => []
  | k, x :: xs => spaced k x ++ outGo (k + 1) xs
theorem outGo_snoc : ∀ (k : Nat) (xs : List Bytes) (x : Bytes), outGo k (xs ++ [x]) = outGo k xs ++ spaced (k + xs.length) x
  | k, [], x => by simp [outGo]
  | k, y :: xs, x => by
    rw [List.cons_append, outGo, outGo, outGo_snoc (k + 1) xs x, List.length_cons, List.append_assoc]
    rw [show k + 1 + xs.length = k + (xs.length + 1) by omega]

theorem low_noBl {w : Bytes} (h : w.all low1 = true) : noBl w = true := by
  unfold noBl
  rw [List.all_eq_true] at h ⊢
  intro b hb
  have := h b hb
  unfold low1 at this
  simp only [decide_eq_true_eq] at this
  have : b ≠ 32 := fun e => by subst e; exact absurd this.1 (by decide)
  simpa using this
/-- The line of a command, its first blank made wider. -/
theorem replace_body {c : C} (h : fits c = true) : ∃ bl, bl.all blank = true ∧ flat bl = true ∧ Lib.replace (body c) [32] [32, 9, 32] 1 = c.word ++ bl ++ argsB c.args ∧ bl.length ≤ 2 ∧ gap (bl ++ argsB c.args) = true := by
  obtain ⟨h1, _, _, h4, _⟩ := fits_parts h
  cases ha : c.args with
  | nil =>
    refine ⟨[], rfl, rfl, ?_, by simp, rfl⟩
    have : body c = c.word := by rw [body, ha]; simp [argsB]
    rw [this, replace_none (low_noBl h4)]; simp [argsB]
  | cons a as =>
    refine ⟨[32, 9], rfl, rfl, ?_, by simp, rfl⟩
    have e : body c = c.word ++ 32 :: (arg a ++ argsB as) := by rw [body, ha]; simp [argsB]
    rw [e, replace_some (low_noBl h4)]
    simp [argsB]

theorem command_none {l : Bytes} (h : tokens l = some []) : command l = some none := by unfold command; rw [h]
theorem step_none {l : Bytes} (h : command l = some none) (acc : List C) : stepLine acc l = .ok acc := by unfold stepLine; rw [h]
theorem go_step {l : Bytes} {acc acc' : List C} (h : stepLine acc l = .ok acc') (ls : List Bytes) (n : Nat) : goLines (l :: ls) n acc = goLines ls (n + 1) acc' := by rw [goLines, h]
theorem body_opens {c : C} (h : fits c = true) (r : Bytes) : (body c ++ r).dropWhile blank = body c ++ r := by
  obtain ⟨h1, _, _, h4, _⟩ := fits_parts h
  have ho := low_opens h4 h1
  obtain ⟨b, t, e, h5, h6⟩ := opens_app ho (argsB c.args ++ r)
  rw [body, List.append_assoc, e, List.dropWhile_cons, h5]; rfl
theorem tokens_wide {c : C} (h : fits c = true) (bl : Bytes) (hb : bl.all blank = true) (hg : gap (bl ++ argsB c.args) = true) : tokens (c.word ++ bl ++ argsB c.args) = some (c.word :: c.args) := by
  obtain ⟨h1, _, _, h4, h5⟩ := fits_parts h
  rw [List.append_assoc, tokens_word h _ hg, tokens_blank bl _ hb]
  have := tokens_args c.args [] (fun a ha => (h5 a ha).2) rfl
  rw [List.append_nil, tokens_nil] at this
  rw [this]
  simp

/-- One line of the script, with what the statement lays beside it. -/
theorem spaced_go {c : C} (h : fits c = true) (k n : Nat) (acc : List C) (ha : acc.length < 1000) (t : Bytes) : ∃ n', goLines (lines (spaced k (body c) ++ t)) n acc = goLines (lines t) n' (acc ++ [c]) := by
  have hf := body_flat h
  unfold spaced
  split
  · refine ⟨n + 1, ?_⟩
    have e : [32, 9] ++ body c ++ [32, 10] ++ t = ([32, 9] ++ (body c ++ [32])) ++ 10 :: t := by simp
    rw [e, lines_flat (by rw [flat_app, flat_app, hf]; rfl), go_step (step_body h (command_of ?_) acc ha)]
    rw [tokens_blank [32, 9] _ rfl]
    exact tokens_body h [32] rfl (tokens_blanks [32] rfl)
  · split
    · refine ⟨n + 1 + 1, ?_⟩
      have e : body c ++ [32, 35, 32, 0, 32, 34, 10, 10] ++ t = (body c ++ [32, 35, 32, 0, 32, 34]) ++ 10 :: ([] ++ 10 :: t) := by simp
      rw [e, lines_flat (by rw [flat_app, hf]; rfl), lines_flat rfl, go_step (step_body h (command_of ?_) acc ha), go_step (step_none command_nil _)]
      refine tokens_body h _ rfl ?_
      exact (tokens_blank [32] [35, 32, 0, 32, 34] rfl).trans (tokens_note _)
    · split
      · refine ⟨n + 1 + 1, ?_⟩
        have e : [35, 32, 110, 111, 110, 101, 10] ++ body c ++ [9, 10] ++ t = [35, 32, 110, 111, 110, 101] ++ 10 :: ((body c ++ [9]) ++ 10 :: t) := by simp
        rw [e, lines_flat rfl, lines_flat (by rw [flat_app, hf]; rfl), go_step (step_none (command_none (tokens_note _)) _), go_step (step_body h (command_of ?_) acc ha)]
        exact tokens_body h [9] rfl (tokens_blanks [9] rfl)
      · split
        · refine ⟨n + 1 + 1, ?_⟩
          have e : [32, 10] ++ body c ++ [10] ++ t = [32] ++ 10 :: (body c ++ 10 :: t) := by simp
          rw [e, lines_flat rfl, lines_flat hf, go_step (step_none (command_none (tokens_blanks [32] rfl)) _), go_step (step_body h (command_body h) acc ha)]
        · refine ⟨n + 1, ?_⟩
          obtain ⟨bl, b1, b2, b3, _, b5⟩ := replace_body h
          have hfl : flat (Lib.replace (body c) [32] [32, 9, 32] 1) = true := by
            obtain ⟨h1, _, _, h4, _⟩ := fits_parts h
            rw [b3, flat_app, flat_app, b2, args_flat, bare_flat (low_bare h4 h1)]; rfl
          rw [List.append_assoc, List.singleton_append, lines_flat hfl, go_step (step_body h (command_of ?_) acc ha)]
          rw [b3]
          exact tokens_wide h bl b1 b5
theorem spaced_all : ∀ (cs : List C) (k n : Nat) (acc : List C), (∀ c ∈ cs, fits c = true) → acc.length + cs.length ≤ 1000 → goLines (lines (outGo k (cs.map body))) n acc = .ok (acc ++ cs)
  | [], k, n, acc, _, _ => by simp [outGo, lines_nil, goLines]
  | c :: cs, k, n, acc, h, hl => by
    rw [List.length_cons] at hl
    rw [List.map_cons, outGo]
    obtain ⟨n', e⟩ := spaced_go (h c (by simp)) k n acc (by omega) (outGo (k + 1) (cs.map body))
    rw [e, spaced_all cs (k + 1) n' (acc ++ [c]) (fun x hx => h x (by simp [hx])) (by simp; omega)]
    simp
/-- A line of nothing: what the statement makes of it holds no command. -/
theorem spaced_nil (k n : Nat) : goLines (lines (outGo k [[]])) n [] = .ok [] := by
  rw [outGo, outGo, List.append_nil]
  have hr : Lib.replace [] [32] [32, 9, 32] 1 = [] := replace_none rfl
  unfold spaced
  rw [hr]
  split
  · exact (congrArg (fun l => goLines l n []) (show lines ([32, 9] ++ [] ++ [32, 10]) = [[32, 9, 32]] from rfl)).trans ((go_step (step_none (command_none (tokens_blanks [32, 9, 32] rfl)) _) [] n).trans rfl)
  · split
    · refine (congrArg (fun l => goLines l n []) (show lines ([] ++ [32, 35, 32, 0, 32, 34, 10, 10]) = [[32, 35, 32, 0, 32, 34], []] from rfl)).trans ?_
      rw [go_step (step_none (l := [32, 35, 32, 0, 32, 34]) (command_none ((tokens_blank [32] [35, 32, 0, 32, 34] rfl).trans (tokens_note _))) _), go_step (step_none command_nil _)]; rfl
    · split
      · refine (congrArg (fun l => goLines l n []) (show lines ([35, 32, 110, 111, 110, 101, 10] ++ [] ++ [9, 10]) = [[35, 32, 110, 111, 110, 101], [9]] from rfl)).trans ?_
        rw [go_step (step_none (command_none (tokens_note _)) _), go_step (step_none (command_none (tokens_blanks [9] rfl)) _)]; rfl
      · split
        · refine (congrArg (fun l => goLines l n []) (show lines ([32, 10] ++ [] ++ [10]) = [[32], []] from rfl)).trans ?_
          rw [go_step (step_none (command_none (tokens_blanks [32] rfl)) _), go_step (step_none command_nil _)]; rfl
        · refine (congrArg (fun l => goLines l n []) (show lines ([] ++ [10]) = [[]] from rfl)).trans ?_
          rw [go_step (step_none command_nil _)]; rfl

/-- How long it gets. -/
theorem replace_len (x : Bytes) : (Lib.replace x [32] [32, 9, 32] 1).length ≤ x.length + 2 := by
  rcases index_bl x with ⟨_, h1⟩ | ⟨k, _, h2, h3, h4⟩
  · rw [replace_none h1]; omega
  · have e := congrArg List.length h3
    rw [List.length_append, List.length_cons] at e
    rw [h3, replace_some h2]
    simp only [List.length_append, List.length_cons, List.length_nil]
    omega
theorem spaced_len (k : Nat) (x : Bytes) : (spaced k x).length ≤ x.length + 10 := by
  have := replace_len x
  unfold spaced
  repeat' split
  all_goals simp only [List.length_append, List.length_cons, List.length_nil]; omega
theorem out_len : ∀ (xs : List Bytes) (k m : Nat), (∀ x ∈ xs, x.length ≤ m) → (outGo k xs).length ≤ xs.length * (m + 10)
  | [], k, m, _ => by simp [outGo]
  | x :: xs, k, m, h => by
    have h1 := spaced_len k x
    have h2 := h x (by simp)
    have h3 := out_len xs (k + 1) m (fun y hy => h y (by simp [hy]))
    rw [outGo, List.length_append, List.length_cons, Nat.succ_mul]
    omega

/-- The text of a script, its last line's end taken away, cut at its lines' ends. -/
theorem format_join : ∀ cs : List C, cs ≠ [] → format cs = joinL (cs.map body) ++ [10]
  | [], h => absurd rfl h
  | [c], _ => by simp [format, line_body, joinL]
  | c :: d :: r, _ => by
    have ih := format_join (d :: r) (by simp)
    have e : format (c :: d :: r) = body c ++ 10 :: format (d :: r) := by simp [format, line_body]
    rw [e, ih]
    show body c ++ 10 :: _ = (body c ++ 10 :: joinL ((d :: r).map body)) ++ [10]
    simp
theorem trim_format (cs : List C) : Lib.trimSuffix (format cs) [10] = joinL (cs.map body) := by
  cases hc : cs with
  | nil => rfl
  | cons c r =>
    rw [← hc, format_join cs (by rw [hc]; simp)]
    unfold Lib.trimSuffix
    rw [if_pos (by unfold Lib.hasSuffix; simp)]
    simp
theorem pieces_trim {cs : List C} (h : ∀ c ∈ cs, fits c = true) : pieces (joinL (cs.map body)) = if cs.isEmpty then [[]] else cs.map body := by
  cases hc : cs with
  | nil => rfl
  | cons c r =>
    rw [← hc, pieces_joined (cs.map body) (by rw [hc]; simp) (fun x hx => by
      obtain ⟨c', h1, rfl⟩ := List.mem_map.1 hx
      exact body_flat (h c' h1))]
    rw [hc]; rfl
theorem parse_out {cs : List C} (h : ∀ c ∈ cs, fits c = true) (hl : cs.length ≤ 1000) (k : Nat) (hs : (outGo k (pieces (joinL (cs.map body)))).length ≤ 1000000) : parse (outGo k (pieces (joinL (cs.map body)))) = .ok cs := by
  unfold parse
  rw [if_neg (by omega), pieces_trim h]
  cases hc : cs with
  | nil => exact spaced_nil k 1
  | cons c r =>
    rw [← hc, show (if cs.isEmpty then [[]] else cs.map body) = cs.map body by rw [hc]; rfl]
    exact (spaced_all cs k 1 [] h (by simpa using hl)).trans (by simp)
end Sp
end Go.Proofs.YtpmegcgmbhhfaaaDoor
