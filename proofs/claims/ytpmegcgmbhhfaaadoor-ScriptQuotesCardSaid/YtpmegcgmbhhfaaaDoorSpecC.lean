/-
  Plain Lean: the text of a script is parsed as the script.
-/
import Derived.Test.YtpmegcgmbhhfaaaDoorSpecB
namespace Go.Proofs.YtpmegcgmbhhfaaaDoor
namespace Sp

/-- What can stand behind a token. -/
def gap (l : Bytes) : Bool := l.isEmpty || l.head?.any blank

theorem arg1_plain {b : UInt8} (h : arg1 b = true) (h1 : (b == 10) = false) (h2 : (b == 9) = false) : prtB b = true := by
  unfold arg1 at h
  unfold prtB
  simp only [decide_eq_true_eq] at h ⊢
  rcases h with h | h | h
  · exact h
  · exact absurd (UInt8.toNat_inj.1 (show b.toNat = (10 : UInt8).toNat from h)) (by simpa using h1)
  · exact absurd (UInt8.toNat_inj.1 (show b.toNat = (9 : UInt8).toNat from h)) (by simpa using h2)

theorem quoted_esc : ∀ (a acc rest : Bytes), a.all arg1 = true → gap rest = true → quoted acc (a.flatMap esc ++ 34 :: rest) = some (acc ++ a, rest)
  | [], acc, rest, _, hg => by
    unfold gap at hg
    show quoted acc (34 :: rest) = _
    unfold quoted
    simp [hg]
  | b :: a, acc, rest, h, hg => by
    rw [List.all_cons, Bool.and_eq_true] at h
    have ih := quoted_esc a (acc ++ [b]) rest h.2 hg
    rw [List.append_assoc, List.singleton_append] at ih
    rw [List.flatMap_cons, List.append_assoc]
    by_cases h10 : b = 10
    · subst h10
      rw [← ih]; rfl
    · have e10 : (b == 10) = false := by simpa using h10
      by_cases h9 : b = 9
      · subst h9
        rw [← ih]; rfl
      · have e9 : (b == 9) = false := by simpa using h9
        by_cases h34 : b = 34
        · subst h34
          rw [← ih]; rfl
        · have e34 : (b == 34) = false := by simpa using h34
          by_cases h92 : b = 92
          · subst h92
            rw [← ih]; rfl
          · have e92 : (b == 92) = false := by simpa using h92
            have he : esc b = [b] := by unfold esc; rw [e10, e9, e34, e92]; rfl
            rw [← ih, he, List.singleton_append]
            conv => lhs; unfold quoted
            simp only [e34, arg1_plain h.1 e10 e9, e92]
            simp

theorem bare1_blank {b : UInt8} (h : bare1 b = true) : blank b = false := by
  unfold bare1 at h
  unfold blank
  simp only [decide_eq_true_eq] at h
  have h1 : b ≠ 32 := fun e => by subst e; exact absurd h.1 (by decide)
  have h2 : b ≠ 9 := fun e => by subst e; exact absurd h.1 (by decide)
  simp [h1, h2]
theorem bare1_34 {b : UInt8} (h : bare1 b = true) : b ≠ 34 := by
  unfold bare1 at h
  simp only [decide_eq_true_eq] at h
  intro e; subst e; exact h.2.2 rfl

theorem take_gap : ∀ (a rest : Bytes), a.all bare1 = true → gap rest = true → (a ++ rest).takeWhile (fun b => !blank b) = a ∧ (a ++ rest).dropWhile (fun b => !blank b) = rest
  | [], rest, _, hg => by
    cases rest with
    | nil => simp
    | cons b t =>
      have : blank b = true := by simpa [gap] using hg
      simp [this]
  | b :: a, rest, h, hg => by
    rw [List.all_cons, Bool.and_eq_true] at h
    obtain ⟨i1, i2⟩ := take_gap a rest h.2 hg
    have := bare1_blank h.1
    simp [this, i1, i2]

theorem token_bare {a rest : Bytes} (h : bare a = true) (hg : gap rest = true) : token (a ++ rest) = some (a, rest) := by
  have h' := h
  unfold bare at h
  rw [Bool.and_eq_true] at h
  obtain ⟨t1, t2⟩ := take_gap a rest h.2 hg
  cases a with
  | nil => simp at h
  | cons b a =>
    have hb : b ≠ 34 := bare1_34 (by have := h.2; rw [List.all_cons, Bool.and_eq_true] at this; exact this.1)
    unfold token
    rw [t1, t2, h']
    simp [hb]
theorem token_arg {a rest : Bytes} (h : a.all arg1 = true) (hg : gap rest = true) : token (arg a ++ rest) = some (a, rest) := by
  unfold arg
  split
  · rename_i hc
    rw [Bool.and_eq_true] at hc
    exact token_bare hc.1 hg
  · rw [List.cons_append, List.append_assoc]
    unfold token
    have := quoted_esc a [] rest h hg
    simpa using this

/-- A text that opens a token: no blank, no comment. -/
def opens (x : Bytes) : Bool := x.head?.any (fun b => !blank b && b != 35)
theorem arg_opens (a : Bytes) : opens (arg a) = true := by
  unfold arg
  split
  · rename_i hc
    rw [Bool.and_eq_true] at hc
    cases a with
    | nil => simp [bare] at hc
    | cons b a =>
      have hb : bare1 b = true := by have := hc.1; unfold bare at this; rw [Bool.and_eq_true, List.all_cons, Bool.and_eq_true] at this; exact this.2.1
      have h35 : b ≠ 35 := by simpa using hc.2
      simp [opens, bare1_blank hb, h35]
  · simp [opens, blank]
theorem opens_app {x : Bytes} (h : opens x = true) (r : Bytes) : ∃ b t, x ++ r = b :: t ∧ blank b = false ∧ (b == 35) = false := by
  cases x with
  | nil => simp [opens] at h
  | cons b t =>
    simp only [opens, List.head?_cons, Option.any_some, Bool.and_eq_true, Bool.not_eq_true', bne_iff_ne] at h
    exact ⟨b, t ++ r, rfl, h.1, by simpa using h.2⟩

theorem drop_blank : ∀ (bl l : Bytes), bl.all blank = true → (bl ++ l).dropWhile blank = l.dropWhile blank
  | [], _, _ => rfl
  | b :: bl, l, h => by
    rw [List.all_cons, Bool.and_eq_true] at h
    rw [List.cons_append, List.dropWhile_cons, h.1]
    exact drop_blank bl l h.2
/-- The tokens of a line hang on what is behind its blanks. -/
theorem tokens_drop {l l' : Bytes} (h : l.dropWhile blank = l'.dropWhile blank) : tokens l = tokens l' := by
  cases hb : ((l.dropWhile blank).isEmpty || (l.dropWhile blank).head? == some 35) with
  | true => rw [tokens_end l hb, tokens_end l' (by rw [← h]; exact hb)]
  | false =>
    cases ht : token (l.dropWhile blank) with
    | none => rw [tokens_bad l hb ht, tokens_bad l' (by rw [← h]; exact hb) (by rw [← h]; exact ht)]
    | some p => rw [tokens_more l p.1 p.2 hb ht, tokens_more l' p.1 p.2 (by rw [← h]; exact hb) (by rw [← h]; exact ht)]
theorem tokens_blank (bl l : Bytes) (h : bl.all blank = true) : tokens (bl ++ l) = tokens l := tokens_drop (drop_blank bl l h)
theorem tokens_nil : tokens [] = some [] := tokens_end [] rfl
theorem tokens_blanks (bl : Bytes) (h : bl.all blank = true) : tokens bl = some [] := by
  have := tokens_blank bl [] h
  rwa [List.append_nil, tokens_nil] at this
theorem tokens_note (l : Bytes) : tokens (35 :: l) = some [] := tokens_end _ (by simp [blank])
theorem tokens_cons {x t r : Bytes} (h : opens x = true) (ht : token (x ++ r) = some (t, r)) : tokens (x ++ r) = (tokens r).map (t :: ·) := by
  obtain ⟨b, tl, e, h1, h2⟩ := opens_app h r
  have hd : (x ++ r).dropWhile blank = x ++ r := by rw [e, List.dropWhile_cons, h1]; rfl
  refine tokens_more _ _ _ ?_ (by rw [hd]; exact ht)
  rw [hd, e]
  simpa using h2

def argsB (as : List Bytes) : Bytes := as.flatMap (fun a => 32 :: arg a)
theorem gap_args (as : List Bytes) (tl : Bytes) (h : gap tl = true) : gap (argsB as ++ tl) = true := by
  cases as with
  | nil => exact h
  | cons a as => simp [argsB, gap, blank]
theorem tokens_args : ∀ (as : List Bytes) (tl : Bytes), (∀ a ∈ as, a.all arg1 = true) → gap tl = true → tokens (argsB as ++ tl) = (tokens tl).map (as ++ ·)
  | [], tl, _, _ => by
    cases h : tokens tl <;> simp [argsB, h]
  | a :: as, tl, h, hg => by
    have ih := tokens_args as tl (fun x hx => h x (by simp [hx])) hg
    have e : argsB (a :: as) ++ tl = [32] ++ (arg a ++ (argsB as ++ tl)) := by simp [argsB]
    rw [e, tokens_blank [32] _ rfl, tokens_cons (arg_opens a) (token_arg (h a (by simp)) (gap_args as tl hg)), ih]
    cases tokens tl <;> simp

def body (c : C) : Bytes := c.word ++ argsB c.args
theorem line_body (c : C) : line c = body c ++ [10] := by simp [line, body, argsB]

theorem low_bare {w : Bytes} (h : w.all low1 = true) (h0 : 1 ≤ w.length) : bare w = true := by
  unfold bare
  rw [Bool.and_eq_true]
  refine ⟨by cases w <;> simp_all, ?_⟩
  rw [List.all_eq_true] at h ⊢
  intro b hb
  have := h b hb
  unfold low1 at this
  unfold bare1
  simp only [decide_eq_true_eq] at this ⊢
  omega
theorem low_opens {w : Bytes} (h : w.all low1 = true) (h0 : 1 ≤ w.length) : opens w = true := by
  cases w with
  | nil => simp at h0
  | cons b w =>
    rw [List.all_cons, Bool.and_eq_true] at h
    have h1 := h.1
    unfold low1 at h1
    simp only [decide_eq_true_eq] at h1
    have h2 : b ≠ 32 := fun e => by subst e; exact absurd h1.1 (by decide)
    have h3 : b ≠ 9 := fun e => by subst e; exact absurd h1.1 (by decide)
    have h4 : b ≠ 35 := fun e => by subst e; exact absurd h1.1 (by decide)
    simp [opens, blank, h2, h3, h4]
theorem fits_parts {c : C} (h : fits c = true) : 1 ≤ c.word.length ∧ c.word.length ≤ 20 ∧ c.args.length ≤ 20 ∧ c.word.all low1 = true ∧ ∀ a ∈ c.args, a.length ≤ 20000 ∧ a.all arg1 = true := by
  unfold fits at h
  simp only [Bool.and_eq_true, decide_eq_true_eq, List.all_eq_true (l := c.args)] at h
  exact ⟨h.1.1.1.1, h.1.1.1.2, h.1.1.2, h.1.2, fun a ha => h.2 a ha⟩
theorem tokens_word {c : C} (h : fits c = true) (r : Bytes) (hg : gap r = true) : tokens (c.word ++ r) = (tokens r).map (c.word :: ·) := by
  obtain ⟨h1, _, _, h4, _⟩ := fits_parts h
  exact tokens_cons (low_opens h4 h1) (token_bare (low_bare h4 h1) hg)
theorem tokens_body {c : C} (h : fits c = true) (tl : Bytes) (hg : gap tl = true) (ht : tokens tl = some []) : tokens (body c ++ tl) = some (c.word :: c.args) := by
  obtain ⟨_, _, _, _, h5⟩ := fits_parts h
  rw [body, List.append_assoc, tokens_word h _ (gap_args _ _ hg), tokens_args _ _ (fun a ha => (h5 a ha).2) hg, ht]
  simp
theorem command_of {l : Bytes} {c : C} (h : tokens l = some (c.word :: c.args)) : command l = some (some c) := by unfold command; rw [h]
theorem command_body {c : C} (h : fits c = true) : command (body c) = some (some c) := by
  have := tokens_body h [] rfl tokens_nil
  rw [List.append_nil] at this
  exact command_of this

/-- No byte that ends a line. -/
def flat (l : Bytes) : Bool := l.all (· != 10)
theorem flat_app (x y : Bytes) : flat (x ++ y) = (flat x && flat y) := List.all_append
theorem esc_flat (b : UInt8) : flat (esc b) = true := by
  unfold esc
  split
  · rfl
  · rename_i h
    have h' : b ≠ 10 := by simpa using h
    split
    · rfl
    · split <;> simp [flat, h']
theorem escs_flat : ∀ a : Bytes, flat (a.flatMap esc) = true
  | [] => rfl
  | b :: a => by rw [List.flatMap_cons, flat_app, esc_flat, escs_flat a]; rfl
theorem bare_flat {a : Bytes} (h : bare a = true) : flat a = true := by
  unfold bare at h
  rw [Bool.and_eq_true] at h
  have h2 := h.2
  unfold flat
  rw [List.all_eq_true] at h2 ⊢
  intro b hb
  have := h2 b hb
  unfold bare1 at this
  simp only [decide_eq_true_eq] at this
  have : b ≠ 10 := fun e => by subst e; exact absurd this.1 (by decide)
  simpa using this
theorem arg_flat (a : Bytes) : flat (arg a) = true := by
  unfold arg
  split
  · rename_i hc
    rw [Bool.and_eq_true] at hc
    exact bare_flat hc.1
  · show flat ([34] ++ (a.flatMap esc ++ [34])) = true
    rw [flat_app, flat_app, escs_flat]; rfl
theorem args_flat : ∀ as : List Bytes, flat (argsB as) = true
  | [] => rfl
  | a :: as => by
    show flat (([32] ++ arg a) ++ argsB as) = true
    rw [flat_app, flat_app, arg_flat, args_flat as]; rfl
theorem body_flat {c : C} (h : fits c = true) : flat (body c) = true := by
  obtain ⟨h1, _, _, h4, _⟩ := fits_parts h
  rw [body, flat_app, bare_flat (low_bare h4 h1), args_flat]; rfl

theorem cut_flat : ∀ (x t : Bytes), flat x = true → cutL (x ++ 10 :: t) = (x, t)
  | [], t, _ => by simp [cutL]
  | b :: x, t, h => by
    have h' : (b != 10) = true ∧ flat x = true := by
      rw [← Bool.and_eq_true]; simpa [flat] using h
    have ih := cut_flat x t h'.2
    simp only [cutL, Prod.mk.injEq] at ih ⊢
    rw [List.cons_append, List.takeWhile_cons, List.dropWhile_cons, h'.1]
    exact ⟨by rw [if_pos rfl, ih.1], by rw [if_pos rfl, ih.2]⟩
theorem lines_flat {x : Bytes} (h : flat x = true) (t : Bytes) : lines (x ++ 10 :: t) = x :: lines t := by
  rw [lines_cut _ (by simp), cut_flat x t h]
theorem lines_nil : lines [] = [] := rfl
theorem lines_format : ∀ cs : List C, (∀ c ∈ cs, fits c = true) → lines (format cs) = cs.map body
  | [], _ => rfl
  | c :: cs, h => by
    have e : format (c :: cs) = body c ++ 10 :: format cs := by simp [format, line_body]
    rw [e, lines_flat (body_flat (h c (by simp))), lines_format cs (fun x hx => h x (by simp [hx]))]
    rfl

theorem step_body {c : C} (h : fits c = true) {l : Bytes} (hl : command l = some (some c)) (acc : List C) (ha : acc.length < 1000) : stepLine acc l = .ok (acc ++ [c]) := by
  unfold stepLine
  rw [hl]
  have : (acc.length == 1000) = false := by simpa using (show acc.length ≠ 1000 by omega)
  simp [h, this]
theorem goLines_bodies : ∀ (cs : List C) (n : Nat) (acc : List C), (∀ c ∈ cs, fits c = true) → acc.length + cs.length ≤ 1000 → goLines (cs.map body) n acc = .ok (acc ++ cs)
  | [], n, acc, _, _ => by simp [goLines]
  | c :: cs, n, acc, h, hl => by
    rw [List.length_cons] at hl
    rw [List.map_cons, goLines, step_body (h c (by simp)) (command_body (h c (by simp))) acc (by omega)]
    simp only
    rw [goLines_bodies cs (n + 1) (acc ++ [c]) (fun x hx => h x (by simp [hx])) (by simp; omega)]
    simp
/-- THE TEXT OF A SCRIPT IS PARSED AS THE SCRIPT. -/
theorem parse_format {cs : List C} (h : ∀ c ∈ cs, fits c = true) (hl : cs.length ≤ 1000) (hs : (format cs).length ≤ 1000000) : parse (format cs) = .ok cs := by
  unfold parse
  rw [if_neg (by omega), lines_format cs h, goLines_bodies cs 1 [] h (by simpa using hl)]
  simp

/-- How long a text is. -/
theorem arg_le (a : Bytes) : (arg a).length ≤ 2 * a.length + 2 := by
  unfold arg
  split
  · omega
  · have : ∀ l : Bytes, (l.flatMap esc).length ≤ 2 * l.length := by
      intro l
      induction l with
      | nil => simp
      | cons b l ih =>
        have : (esc b).length ≤ 2 := by
          unfold esc
          split
          · simp
          · split
            · simp
            · split <;> simp
        rw [List.flatMap_cons, List.length_append, List.length_cons]; omega
    have := this a
    simp only [List.length_cons, List.length_append, List.length_nil]; omega
theorem args_le : ∀ as : List Bytes, (argsB as).length ≤ 2 * (as.map List.length).sum + 3 * as.length
  | [] => by simp [argsB]
  | a :: as => by
    have h1 := arg_le a
    have h2 := args_le as
    have e : argsB (a :: as) = 32 :: arg a ++ argsB as := by simp [argsB]
    rw [e, List.length_append, List.length_cons, List.map_cons, List.sum_cons, List.length_cons]
    omega
theorem line_le {l : Bytes} {c : C} (h : tokens l = some (c.word :: c.args)) : (line c).length ≤ 5 * (l.length + 1) := by
  obtain ⟨h1, h2⟩ := tokens_len h
  have h3 := args_le c.args
  rw [List.map_cons, List.sum_cons] at h1
  rw [List.length_cons] at h2
  rw [line_body, body]
  simp only [List.length_append, List.length_cons, List.length_nil]
  omega
theorem format_snoc (cs : List C) (c : C) : format (cs ++ [c]) = format cs ++ line c := by simp [format]

theorem step_ok {acc acc' : List C} {l : Bytes} (h : stepLine acc l = .ok acc') : (acc' = acc ∨ ∃ c, acc' = acc ++ [c] ∧ fits c = true ∧ command l = some (some c) ∧ acc.length ≠ 1000) := by
  unfold stepLine at h
  split at h
  · cases h
  · injection h with h; exact .inl h.symm
  · rename_i c hc
    split at h
    · cases h
    · rename_i hf
      split at h
      · cases h
      · rename_i hn
        injection h with h
        exact .inr ⟨c, h.symm, by simpa using hf, hc, by simpa using hn⟩
theorem goLines_ok' : ∀ (ls : List Bytes) (n : Nat) (acc m : List C), goLines ls n acc = .ok m → (∀ c ∈ acc, fits c = true) → acc.length ≤ 1000 →
    (∀ c ∈ m, fits c = true) ∧ m.length ≤ 1000 ∧ (format m).length ≤ (format acc).length + 5 * (ls.map (fun l => l.length + 1)).sum
  | [], n, acc, m, h, hf, hl => by
    simp only [goLines, Except.ok.injEq] at h; subst h
    exact ⟨hf, hl, by simp⟩
  | l :: ls, n, acc, m, h, hf, hl => by
    rw [goLines] at h
    cases hs : stepLine acc l with
    | error e => rw [hs] at h; cases h
    | ok acc' =>
      rw [hs] at h
      simp only at h
      rw [List.map_cons, List.sum_cons]
      rcases step_ok hs with rfl | ⟨c, rfl, hc, hcmd, hne⟩
      · obtain ⟨g1, g2, g3⟩ := goLines_ok' ls (n + 1) acc' m h hf hl
        exact ⟨g1, g2, by omega⟩
      · obtain ⟨g1, g2, g3⟩ := goLines_ok' ls (n + 1) (acc ++ [c]) m h (fun x hx => by
          rcases List.mem_append.1 hx with hx | hx
          · exact hf x hx
          · rw [List.mem_singleton.1 hx]; exact hc) (by simp; omega)
        have := line_le (command_tokens hcmd)
        rw [format_snoc, List.length_append] at g3
        exact ⟨g1, g2, by omega⟩
theorem lines_sum : ∀ (n : Nat) (s : Bytes), s.length ≤ n → ((lines s).map (fun l => l.length + 1)).sum ≤ s.length + 1
  | n, [], _ => by simp [lines_nil]
  | 0, b :: s, h => by simp at h
  | n + 1, b :: s, h => by
    have e := List.takeWhile_append_dropWhile (p := (· != 10)) (l := b :: s)
    have e2 := congrArg List.length e
    rw [List.length_append] at e2
    have h1 := cutL_lt (b :: s) (by simp)
    rw [lines_cut _ (by simp), List.map_cons, List.sum_cons]
    have ih := lines_sum n (cutL (b :: s)).2 (by omega)
    cases hd : List.dropWhile (· != 10) (b :: s) with
    | nil =>
      have e3 : (cutL (b :: s)).2 = [] := by simp only [cutL, hd, List.tail_nil]
      rw [e3, lines_nil]
      rw [hd] at e2
      simp only [List.length_nil, List.map_nil, List.sum_nil, cutL] at e2 ⊢
      omega
    | cons x t =>
      rw [hd] at e2
      have e3 : (cutL (b :: s)).2 = t := by simp only [cutL, hd, List.tail_cons]
      rw [e3] at ih ⊢
      simp only [List.length_cons, cutL] at e2 ih ⊢
      omega
/-- What is parsed is a script with a text that is parsed as the same. -/
theorem parse_ok {s : Bytes} {m : List C} (h : parse s = .ok m) (hs : s.length ≤ 100000) : (∀ c ∈ m, fits c = true) ∧ m.length ≤ 1000 ∧ parse (format m) = .ok m := by
  unfold parse at h
  rw [if_neg (by omega)] at h
  obtain ⟨g1, g2, g3⟩ := goLines_ok' _ _ _ _ h (by simp) (by simp)
  have := lines_sum s.length s (Nat.le_refl _)
  refine ⟨g1, g2, parse_format g1 g2 ?_⟩
  simp [format] at g3 ⊢
  omega
end Sp
end Go.Proofs.YtpmegcgmbhhfaaaDoor
