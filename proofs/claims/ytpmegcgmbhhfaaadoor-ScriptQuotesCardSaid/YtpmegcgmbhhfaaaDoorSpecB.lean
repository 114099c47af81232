/-
  Plain Lean: laws on the tokens of a line.
-/
import Derived.Test.YtpmegcgmbhhfaaaDoorSpec
namespace Go.Proofs.YtpmegcgmbhhfaaaDoor
namespace Sp

theorem quoted_rest_aux : ∀ (n : Nat) (l acc t r : Bytes), l.length ≤ n → quoted acc l = some (t, r) → r.length < l.length := by
  intro n
  induction n with
  | zero =>
    intro l acc t r hn h
    obtain rfl : l = [] := List.eq_nil_of_length_eq_zero (by omega)
    simp [quoted] at h
  | succ n ih =>
    intro l acc t r hn h
    match l, h with
    | [], h => simp [quoted] at h
    | c :: tl, h =>
      unfold quoted at h
      by_cases h1 : (c == 34) = true
      · rw [if_pos h1] at h
        split at h
        · simp at h; obtain ⟨_, rfl⟩ := h; simp
        · cases h
      · rw [if_neg h1] at h
        by_cases h2 : (!prtB c) = true
        · rw [if_pos h2] at h; cases h
        · rw [if_neg h2] at h
          by_cases h3 : (c == 92) = true
          · rw [if_pos h3] at h
            match tl, h with
            | [], h => simp at h
            | d :: t', h =>
              simp only at h
              cases he : escaped d with
              | none => rw [he] at h; simp at h
              | some e =>
                rw [he] at h
                simp only at h
                have := ih t' _ _ _ (by simp at hn; omega) h
                simp; omega
          · rw [if_neg h3] at h
            have := ih tl _ _ _ (by simp at hn; omega) h
            simp; omega
theorem quoted_rest {l acc t r : Bytes} (h : quoted acc l = some (t, r)) : r.length < l.length := quoted_rest_aux l.length l acc t r (Nat.le_refl _) h

theorem token_rest {l t r : Bytes} (h : token l = some (t, r)) : r.length < l.length := by
  unfold token at h
  split at h
  · have := quoted_rest h
    simp at this; omega
  · split at h
    · rename_i hb
      simp at h
      obtain ⟨_, rfl⟩ := h
      have h1 : l.takeWhile (fun b => !blank b) ≠ [] := by
        intro h2
        simp only [bare, Bool.and_eq_true] at hb
        rw [h2] at hb
        simp at hb
      have h3 := List.takeWhile_append_dropWhile (p := fun b => !blank b) (l := l)
      have h4 : 0 < (l.takeWhile (fun b => !blank b)).length := List.length_pos_iff.2 h1
      have h5 := congrArg List.length h3
      simp only [List.length_append] at h5
      omega
    · cases h

theorem drop_le (l : Bytes) (p : UInt8 → Bool) : (l.dropWhile p).length ≤ l.length := (List.dropWhile_sublist p).length_le

theorem tokensF_fuel : ∀ (n m : Nat) (l : Bytes), l.length < n → l.length < m → tokensF n l = tokensF m l := by
  intro n
  induction n with
  | zero => intro m l h; omega
  | succ n ih =>
    intro m l h1 h2
    obtain ⟨m, rfl⟩ : ∃ k, m = k + 1 := ⟨m - 1, by omega⟩
    unfold tokensF
    split
    · rfl
    · cases ht : token (l.dropWhile blank) with
      | none => rfl
      | some p =>
        obtain ⟨t, r⟩ := p
        have h3 := token_rest ht
        have h4 := drop_le l blank
        simp only
        rw [ih m r (by omega) (by omega)]

/-- The tokens of a line, one step. -/
theorem tokens_end (l : Bytes) (h : ((l.dropWhile blank).isEmpty || (l.dropWhile blank).head? == some 35) = true) : tokens l = some [] := by
  unfold tokens tokensF; rw [if_pos h]
theorem tokens_bad (l : Bytes) (h : ((l.dropWhile blank).isEmpty || (l.dropWhile blank).head? == some 35) = false) (ht : token (l.dropWhile blank) = none) : tokens l = none := by
  unfold tokens tokensF; rw [if_neg (by rw [h]; decide), ht]
theorem tokens_more (l t r : Bytes) (h : ((l.dropWhile blank).isEmpty || (l.dropWhile blank).head? == some 35) = false) (ht : token (l.dropWhile blank) = some (t, r)) : tokens l = (tokens r).map (t :: ·) := by
  have h3 := token_rest ht
  have h4 := drop_le l blank
  show tokensF (l.length + 1) l = (tokensF (r.length + 1) r).map (t :: ·)
  rw [tokensF, if_neg (by rw [h]; decide), ht]
  simp only
  rw [tokensF_fuel l.length (r.length + 1) r (by omega) (by omega)]

theorem quoted_len_aux : ∀ (n : Nat) (l acc t r : Bytes), l.length ≤ n → quoted acc l = some (t, r) → t.length + r.length ≤ acc.length + l.length := by
  intro n
  induction n with
  | zero =>
    intro l acc t r hn h
    obtain rfl : l = [] := List.eq_nil_of_length_eq_zero (by omega)
    simp [quoted] at h
  | succ n ih =>
    intro l acc t r hn h
    match l, h with
    | [], h => simp [quoted] at h
    | c :: tl, h =>
      unfold quoted at h
      by_cases h1 : (c == 34) = true
      · rw [if_pos h1] at h
        split at h
        · simp at h; obtain ⟨rfl, rfl⟩ := h; simp
        · cases h
      · rw [if_neg h1] at h
        by_cases h2 : (!prtB c) = true
        · rw [if_pos h2] at h; cases h
        · rw [if_neg h2] at h
          by_cases h3 : (c == 92) = true
          · rw [if_pos h3] at h
            match tl, h with
            | [], h => simp at h
            | d :: t', h =>
              simp only at h
              cases he : escaped d with
              | none => rw [he] at h; simp at h
              | some e =>
                rw [he] at h
                simp only at h
                have := ih t' _ _ _ (by simp at hn; omega) h
                simp at this ⊢; omega
          · rw [if_neg h3] at h
            have := ih tl _ _ _ (by simp at hn; omega) h
            simp at this ⊢; omega
theorem token_len {l t r : Bytes} (h : token l = some (t, r)) : t.length + r.length ≤ l.length := by
  unfold token at h
  split at h
  · have := quoted_len_aux _ _ _ _ _ (Nat.le_refl _) h
    simp at this; omega
  · split at h
    · simp at h
      obtain ⟨rfl, rfl⟩ := h
      have h3 := List.takeWhile_append_dropWhile (p := fun b => !blank b) (l := l)
      have h5 := congrArg List.length h3
      simp only [List.length_append] at h5
      omega
    · cases h
theorem tokensF_len : ∀ (n : Nat) (l : Bytes) (ts : List Bytes), tokensF n l = some ts → (ts.map List.length).sum ≤ l.length ∧ ts.length ≤ l.length := by
  intro n
  induction n with
  | zero => intro l ts h; simp [tokensF] at h
  | succ n ih =>
    intro l ts h
    unfold tokensF at h
    split at h
    · simp at h; subst h; simp
    · cases ht : token (l.dropWhile blank) with
      | none => rw [ht] at h; cases h
      | some p =>
        obtain ⟨t, r⟩ := p
        rw [ht] at h
        simp only at h
        obtain ⟨ts', h1, rfl⟩ := Option.map_eq_some_iff.1 h
        have h2 := token_len ht
        have h3 := token_rest ht
        have h4 := drop_le l blank
        obtain ⟨h5, h6⟩ := ih r ts' h1
        simp
        omega
theorem tokens_len {l : Bytes} {ts : List Bytes} (h : tokens l = some ts) : (ts.map List.length).sum ≤ l.length ∧ ts.length ≤ l.length := tokensF_len _ _ _ h
theorem len_le_sum : ∀ (ts : List Bytes) (t : Bytes), t ∈ ts → t.length ≤ (ts.map List.length).sum
  | t0 :: ts, t, h => by
    rcases List.mem_cons.1 h with rfl | h
    · simp
    · have := len_le_sum ts t h; simp; omega
theorem command_tokens {l : Bytes} {c : C} (h : command l = some (some c)) : tokens l = some (c.word :: c.args) := by
  unfold command at h
  cases ht : tokens l with
  | none => rw [ht] at h; cases h
  | some ts =>
    rw [ht] at h
    cases ts with
    | nil => simp at h
    | cons w as => simp at h; subst h; rfl
theorem command_len {l : Bytes} {c : C} (h : command l = some (some c)) : c.word.length ≤ l.length ∧ ∀ a ∈ c.args, a.length ≤ l.length := by
  have h1 := (tokens_len (command_tokens h)).1
  refine ⟨?_, fun a ha => ?_⟩
  · have := len_le_sum (c.word :: c.args) c.word (by simp); omega
  · have := len_le_sum (c.word :: c.args) a (by simp [ha]); omega

/-- The first line, and what is behind it. -/
def cutL (l : Bytes) : Bytes × Bytes := (l.takeWhile (· != 10), (l.dropWhile (· != 10)).tail)
theorem linesGo_acc : ∀ (l acc : Bytes), (acc ≠ [] ∨ l ≠ []) → linesGo acc l = (acc ++ (cutL l).1) :: linesGo [] (cutL l).2 := by
  intro l
  induction l with
  | nil =>
    intro acc h
    have h1 : acc ≠ [] := by simpa using h
    cases acc with
    | nil => exact absurd rfl h1
    | cons a t => simp [linesGo, cutL]
  | cons b t ih =>
    intro acc h
    by_cases hb : b = 10
    · subst hb
      simp [linesGo, cutL]
    · have hb' : (b == 10) = false := by simpa using hb
      rw [linesGo, hb']
      simp only [Bool.false_eq_true, if_false]
      rw [ih (acc ++ [b]) (by simp)]
      simp [cutL, hb]
theorem lines_cut (l : Bytes) (h : l ≠ []) : lines l = (cutL l).1 :: lines (cutL l).2 := by
  have := linesGo_acc l [] (Or.inr h)
  simpa [lines] using this
theorem cutL_lt (l : Bytes) (h : l ≠ []) : (cutL l).2.length < l.length := by
  have h1 := drop_le l (· != 10)
  have h2 : 0 < l.length := List.length_pos_iff.2 h
  simp only [cutL, List.length_tail]
  omega

end Sp
end Go.Proofs.YtpmegcgmbhhfaaaDoor
