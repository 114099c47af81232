/-
  Plain Lean: the error of a line does not depend on the lines after it.
-/
import Derived.Test.YtpmegcgmbhhfaaaDoorSpecC
import Derived.Lib.SplitLaws
import Derived.Lib.Join
namespace Go.Proofs.YtpmegcgmbhhfaaaDoor
namespace Sp

def piecesGo : Bytes → Bytes → List Bytes
  | acc, [] => [acc]
  | acc, b :: t => if b == 10 then acc :: piecesGo [] t else piecesGo (acc ++ [b]) t
/-- What strings.Split gives at a line's end. -/
def pieces (s : Bytes) : List Bytes := piecesGo [] s

theorem pieces_lines_go : ∀ (s acc : Bytes), (acc ≠ [] → piecesGo acc s = linesGo acc s ∨ piecesGo acc s = linesGo acc s ++ [[]]) ∧ (acc = [] → piecesGo acc s = linesGo acc s ∨ piecesGo acc s = linesGo acc s ++ [[]])
  | [], acc => by
    refine ⟨fun h => .inl ?_, fun h => .inr ?_⟩
    · cases acc with
      | nil => exact absurd rfl h
      | cons a t => rfl
    · subst h; rfl
  | b :: t, acc => by
    by_cases hb : b = 10
    · subst hb
      have ih := (pieces_lines_go t []).2 rfl
      have e1 : piecesGo acc (10 :: t) = acc :: piecesGo [] t := rfl
      have e2 : linesGo acc (10 :: t) = acc :: linesGo [] t := rfl
      rw [e1, e2]
      have : acc :: piecesGo [] t = acc :: linesGo [] t ∨ acc :: piecesGo [] t = acc :: linesGo [] t ++ [[]] := by
        rcases ih with h | h
        · exact .inl (by rw [h])
        · exact .inr (by rw [h]; rfl)
      exact ⟨fun _ => this, fun _ => this⟩
    · have hb' : (b == 10) = false := by simpa using hb
      have e1 : piecesGo acc (b :: t) = piecesGo (acc ++ [b]) t := by rw [piecesGo, hb']; rfl
      have e2 : linesGo acc (b :: t) = linesGo (acc ++ [b]) t := by rw [linesGo, hb']; rfl
      have ih := (pieces_lines_go t (acc ++ [b])).1 (by simp)
      rw [e1, e2]
      exact ⟨fun _ => ih, fun _ => ih⟩
theorem pieces_lines (s : Bytes) : pieces s = lines s ∨ pieces s = lines s ++ [[]] := (pieces_lines_go s []).2 rfl
theorem goLines_app : ∀ (xs ys : List Bytes) (n : Nat) (acc : List C), goLines (xs ++ ys) n acc = match goLines xs n acc with
    | .error e => .error e
    | .ok acc' => goLines ys (n + xs.length) acc'
  | [], ys, n, acc => by simp [goLines]
  | x :: xs, ys, n, acc => by
    rw [List.cons_append, goLines, goLines]
    cases stepLine acc x with
    | error e => rfl
    | ok acc' =>
      simp only
      rw [goLines_app xs ys (n + 1) acc', List.length_cons]
      cases goLines xs (n + 1) acc' with
      | error e => rfl
      | ok a => simp only; rw [show n + 1 + xs.length = n + (xs.length + 1) by omega]
theorem command_nil : command [] = some none := by unfold command; rw [tokens_nil]
theorem go_nil (n : Nat) (acc : List C) : goLines [[]] n acc = .ok acc := by
  rw [goLines, stepLine, command_nil]; rfl
theorem go_pieces (s : Bytes) (n : Nat) (acc : List C) : goLines (pieces s) n acc = goLines (lines s) n acc := by
  rcases pieces_lines s with h | h
  · rw [h]
  · rw [h, goLines_app]
    cases goLines (lines s) n acc with
    | error e => rfl
    | ok a => exact go_nil _ _
theorem parse_pieces (s : Bytes) (h : s.length ≤ 1000000) : parse s = goLines (pieces s) 1 [] := by
  rw [parse, if_neg (by omega), go_pieces]

theorem piecesGo_flat : ∀ (x acc t : Bytes), flat x = true → piecesGo acc (x ++ 10 :: t) = (acc ++ x) :: pieces t
  | [], acc, t, _ => by simp [piecesGo, pieces]
  | b :: x, acc, t, h => by
    have h' : (b != 10) = true ∧ flat x = true := by rw [← Bool.and_eq_true]; simpa [flat] using h
    have hb : (b == 10) = false := by simpa using h'.1
    rw [List.cons_append, piecesGo, hb]
    simp only [Bool.false_eq_true, if_false]
    rw [piecesGo_flat x (acc ++ [b]) t h'.2]
    simp
theorem pieces_flat {x : Bytes} (h : flat x = true) (t : Bytes) : pieces (x ++ 10 :: t) = x :: pieces t := by
  rw [pieces, piecesGo_flat x [] t h]; rfl
theorem piecesGo_one : ∀ (x acc : Bytes), flat x = true → piecesGo acc x = [acc ++ x]
  | [], acc, _ => by simp [piecesGo]
  | b :: x, acc, h => by
    have h' : (b != 10) = true ∧ flat x = true := by rw [← Bool.and_eq_true]; simpa [flat] using h
    have hb : (b == 10) = false := by simpa using h'.1
    rw [piecesGo, hb]
    simp only [Bool.false_eq_true, if_false]
    rw [piecesGo_one x (acc ++ [b]) h'.2]
    simp
theorem pieces_one {x : Bytes} (h : flat x = true) : pieces x = [x] := piecesGo_one x [] h
theorem pieces_all_flat : ∀ (s acc : Bytes), flat acc = true → ∀ x ∈ piecesGo acc s, flat x = true
  | [], acc, h, x, hx => by rw [piecesGo, List.mem_singleton] at hx; rw [hx]; exact h
  | b :: t, acc, h, x, hx => by
    by_cases hb : b = 10
    · subst hb
      have e1 : piecesGo acc (10 :: t) = acc :: piecesGo [] t := rfl
      rw [e1] at hx
      rcases List.mem_cons.1 hx with rfl | hx
      · exact h
      · exact pieces_all_flat t [] rfl x hx
    · have hb' : (b == 10) = false := by simpa using hb
      rw [piecesGo, hb'] at hx
      simp only [Bool.false_eq_true, if_false] at hx
      exact pieces_all_flat t (acc ++ [b]) (by rw [flat_app, h]; simp [flat, hb]) x hx

/-- Texts joined by line ends. -/
def joinL : List Bytes → Bytes
  | [] => []
  | [x] => x
  | x :: y :: r => x ++ 10 :: joinL (y :: r)
theorem pieces_join : ∀ (xs : List Bytes) (t : Bytes), xs ≠ [] → (∀ x ∈ xs, flat x = true) → pieces (joinL xs ++ 10 :: t) = xs ++ pieces t
  | [], _, h, _ => absurd rfl h
  | [x], t, _, h => by rw [joinL, pieces_flat (h x (by simp))]; rfl
  | x :: y :: r, t, _, h => by
    rw [joinL, List.append_assoc, List.cons_append, pieces_flat (h x (by simp)), pieces_join (y :: r) t (by simp) (fun z hz => h z (by simp [hz]))]
    rfl
theorem pieces_joined : ∀ (xs : List Bytes), xs ≠ [] → (∀ x ∈ xs, flat x = true) → pieces (joinL xs) = xs
  | [], h, _ => absurd rfl h
  | [x], _, h => by rw [joinL, pieces_one (h x (by simp))]
  | x :: y :: r, _, h => by
    rw [joinL, pieces_flat (h x (by simp)), pieces_joined (y :: r) (by simp) (fun z hz => h z (by simp [hz]))]
theorem join_len : ∀ xs : List Bytes, (joinL xs).length ≤ (xs.map (fun l => l.length + 1)).sum
  | [] => by simp [joinL]
  | [x] => by simp [joinL]
  | x :: y :: r => by
    have := join_len (y :: r)
    rw [joinL, List.length_append, List.length_cons, List.map_cons, List.sum_cons]
    omega
theorem pieces_sum : ∀ (s acc : Bytes), ((piecesGo acc s).map (fun l => l.length + 1)).sum = acc.length + s.length + 1
  | [], acc => by simp [piecesGo]
  | b :: t, acc => by
    by_cases hb : b = 10
    · subst hb
      have e1 : piecesGo acc (10 :: t) = acc :: piecesGo [] t := rfl
      rw [e1, List.map_cons, List.sum_cons, pieces_sum t [], List.length_cons, List.length_nil]; omega
    · have hb' : (b == 10) = false := by simpa using hb
      rw [piecesGo, hb']
      simp only [Bool.false_eq_true, if_false]
      rw [pieces_sum t (acc ++ [b]), List.length_append, List.length_cons, List.length_nil, List.length_cons]; omega

theorem goLines_error : ∀ (ls : List Bytes) (n : Nat) (acc : List C) (k e : Nat), goLines ls n acc = .error (k, e) →
    ∃ (j : Nat) (l : Bytes) (acc' : List C), k = n + j ∧ ls[j]? = some l ∧ goLines (ls.take j) n acc = .ok acc' ∧ stepLine acc' l = .error e
  | [], n, acc, k, e, h => by simp [goLines] at h
  | l :: ls, n, acc, k, e, h => by
    rw [goLines] at h
    cases hs : stepLine acc l with
    | error e' =>
      rw [hs] at h
      simp only [Except.error.injEq, Prod.mk.injEq] at h
      exact ⟨0, l, acc, by omega, rfl, by simp [goLines], by rw [hs, h.2]⟩
    | ok acc' =>
      rw [hs] at h
      simp only at h
      obtain ⟨j, l', a, h1, h2, h3, h4⟩ := goLines_error ls (n + 1) acc' k e h
      exact ⟨j + 1, l', a, by omega, by simpa using h2, by rw [List.take_succ_cons, goLines, hs]; exact h3, h4⟩
theorem goLines_count : ∀ (ls : List Bytes) (n : Nat) (acc m : List C), goLines ls n acc = .ok m → 2 * m.length ≤ 2 * acc.length + (ls.map (fun l => l.length + 1)).sum
  | [], n, acc, m, h => by simp only [goLines, Except.ok.injEq] at h; subst h; simp
  | l :: ls, n, acc, m, h => by
    rw [goLines] at h
    cases hs : stepLine acc l with
    | error e => rw [hs] at h; cases h
    | ok acc' =>
      rw [hs] at h
      simp only at h
      have ih := goLines_count ls (n + 1) acc' m h
      rw [List.map_cons, List.sum_cons]
      rcases step_ok hs with rfl | ⟨c, rfl, hc, hcmd, hne⟩
      · omega
      · have := (command_len hcmd).1
        have := (fits_parts hc).1
        rw [List.length_append, List.length_singleton] at ih
        omega
theorem stepLine_error {acc : List C} {l : Bytes} {e : Nat} (h : stepLine acc l = .error e) : (e = 3 ∧ ∀ acc', stepLine acc' l = .error 3) ∨ (acc.length = 1000 ∧ ∃ c, fits c = true ∧ command l = some (some c)) := by
  unfold stepLine at h
  split at h
  · rename_i hc
    injection h with h
    exact .inl ⟨h.symm, fun acc' => by unfold stepLine; rw [hc]⟩
  · cases h
  · rename_i c hc
    split at h
    · rename_i hf
      injection h with h
      refine .inl ⟨h.symm, fun acc' => ?_⟩
      unfold stepLine; rw [hc]; simp only; rw [if_pos hf]
    · rename_i hf
      split at h
      · rename_i hn
        exact .inr ⟨by simpa using hn, c, by simpa using hf, hc⟩
      · cases h
theorem sum_take_le (ls : List Bytes) (j : Nat) (l : Bytes) (h : ls[j]? = some l) : ((ls.take j).map (fun l => l.length + 1)).sum + (l.length + 1) ≤ (ls.map (fun l => l.length + 1)).sum := by
  have hj : j < ls.length := by
    rcases Nat.lt_or_ge j ls.length with h' | h'
    · exact h'
    · rw [List.getElem?_eq_none h'] at h; cases h
  have e : ls.map (fun l => l.length + 1) = (ls.take j).map (fun l => l.length + 1) ++ (ls.drop j).map (fun l => l.length + 1) := by
    rw [← List.map_append, List.take_append_drop]
  rw [e, List.sum_append, List.drop_eq_getElem_cons hj, List.map_cons, List.sum_cons]
  rw [List.getElem?_eq_getElem hj] at h
  injection h with h
  rw [h]; omega

/-- THE ERROR OF A LINE. -/
theorem parse_error {s : Bytes} {k e : Nat} (h : parse s = .error (k, e)) (hs : s.length ≤ 2000) : e = 3 ∧ (∀ q, (joinL ((pieces s).take q)).length ≤ 2001) ∧ 1 ≤ k ∧ k ≤ (pieces s).length ∧
    (∃ m, parse (joinL ((pieces s).take (k - 1))) = .ok m) ∧ (∀ more : Bytes, more.length ≤ 2000 → parse (joinL ((pieces s).take k) ++ 10 :: more) = .error (k, e)) ∧
    ∀ l, (pieces s)[k - 1]? = some l → parse l = .error (1, e) := by
  rw [parse_pieces s (by omega)] at h
  obtain ⟨j, l, acc, rfl, hl, hok, herr⟩ := goLines_error _ _ _ _ _ h
  have hsum : ((pieces s).map (fun l => l.length + 1)).sum = s.length + 1 := by have := pieces_sum s []; simpa [pieces] using this
  have hj : j < (pieces s).length := by
    rcases Nat.lt_or_ge j (pieces s).length with h' | h'
    · exact h'
    · rw [List.getElem?_eq_none h'] at hl; cases hl
  have hflat : ∀ x ∈ pieces s, flat x = true := pieces_all_flat s [] rfl
  have h3 : e = 3 ∧ ∀ acc', stepLine acc' l = .error 3 := by
    rcases stepLine_error herr with h3 | ⟨ha, c, hc, hcmd⟩
    · exact h3
    · exfalso
      have h1 := goLines_count _ _ _ _ hok
      have h2 := sum_take_le _ _ _ hl
      have h4 := (command_len hcmd).1
      have h5 := (fits_parts hc).1
      simp only [List.length_nil] at h1
      omega
  obtain ⟨rfl, h3⟩ := h3
  have hlen : ∀ q, (joinL ((pieces s).take q)).length ≤ 2001 := fun q => by
    have h1 := join_len ((pieces s).take q)
    have e : (pieces s).map (fun l => l.length + 1) = ((pieces s).take q).map (fun l => l.length + 1) ++ ((pieces s).drop q).map (fun l => l.length + 1) := by
      rw [← List.map_append, List.take_append_drop]
    rw [e, List.sum_append] at hsum
    omega
  have htake : (pieces s).take (1 + j) = (pieces s).take j ++ [l] := by
    rw [Nat.add_comm 1 j, List.take_add_one, hl]; rfl
  have hl1 : l.length ≤ 2000 := by have := sum_take_le _ _ _ hl; omega
  refine ⟨rfl, hlen, by omega, by omega, ?_, ?_, ?_⟩
  · rw [show 1 + j - 1 = j by omega, parse_pieces _ (by have := hlen j; omega)]
    by_cases hj0 : j = 0
    · subst hj0; exact ⟨[], by simp [joinL, pieces, piecesGo, go_nil]⟩
    · rw [pieces_joined _ (by intro h0; have := congrArg List.length h0; rw [List.length_take, List.length_nil] at this; omega) (fun x hx => hflat x (List.mem_of_mem_take hx))]
      exact ⟨acc, hok⟩
  · intro more hm
    rw [parse_pieces _ (by have := hlen (1 + j); simp only [List.length_append, List.length_cons]; omega), pieces_join _ _ (by rw [htake]; simp) (fun x hx => hflat x (List.mem_of_mem_take hx)), htake, List.append_assoc, goLines_app, hok]
    simp only [List.singleton_append]
    rw [goLines, h3, List.length_take]
    simp only
    rw [show min j (pieces s).length = j by omega]
  · intro l' hl'
    rw [show 1 + j - 1 = j by omega, hl] at hl'
    injection hl' with hl'
    subst hl'
    rw [parse_pieces _ (by omega), pieces_one (hflat l (List.mem_of_getElem? hl)), goLines, h3]

/-- strings.Split and strings.Join at a line's end. -/
theorem lib_join : ∀ xs : List Bytes, Lib.join xs [10] = joinL xs
  | [] => rfl
  | [x] => Lib.join_one x [10]
  | x :: y :: r => by
    rw [Lib.join_cons, joinL, ← lib_join (y :: r), Lib.join_cons]
    simp [Lib.joinTail]
theorem index_key (l : Bytes) : (Lib.index l [10] = -1 ∧ flat l = true) ∨ (∃ k : Nat, Lib.index l [10] = k ∧ flat (l.take k) = true ∧ l = l.take k ++ 10 :: l.drop (k + 1) ∧ k < l.length) := by
  induction l with
  | nil => left; simp [Lib.index, flat]
  | cons b t ih =>
    by_cases hb : b = 10
    · right; exact ⟨0, by subst hb; simp [Lib.index], rfl, by subst hb; simp, by simp⟩
    · have hp : [10].isPrefixOf (b :: t) = false := by simp [List.isPrefixOf, Ne.symm hb]
      rcases ih with ⟨h1, h2⟩ | ⟨k, h1, h2, h3, h4⟩
      · left
        refine ⟨by rw [Lib.index, hp, h1]; rfl, ?_⟩
        show flat ([b] ++ t) = true
        rw [flat_app, h2]; simp [flat, hb]
      · right
        refine ⟨k + 1, ?_, ?_, ?_, by simp; omega⟩
        · rw [Lib.index, hp, h1]
          have : ((k : Int) == -1) = false := by rw [beq_eq_false_iff_ne]; omega
          rw [this]; rfl
        · show flat ([b] ++ t.take k) = true
          rw [flat_app, h2]; simp [flat, hb]
        · rw [List.take_succ_cons, List.drop_succ_cons, List.cons_append, ← h3]
theorem split_pieces : ∀ (n : Nat) (s : Bytes), s.length ≤ n → Lib.splitK [10] 0 (Lib.count s [10]) s = pieces s
  | n, s, hn => by
    rcases index_key s with ⟨h1, h2⟩ | ⟨k, h1, h2, h3, h4⟩
    · rw [Lib.count_miss h1, pieces_one h2]; rfl
    · match n, hn with
      | n + 1, hn =>
        have e1 : Lib.count s [10] = Lib.count (s.drop (k + 1)) [10] + 1 := by
          rw [Lib.count_hit (by simp) h1]; simp; omega
        have hm : ((k : Int) == -1) = false := by rw [beq_eq_false_iff_ne]; omega
        rw [e1, Lib.splitK, h1, hm]
        simp only [Bool.false_eq_true, if_false, Int.toNat_natCast, Nat.add_zero, List.length_singleton]
        rw [split_pieces n (s.drop (k + 1)) (by rw [List.length_drop]; omega)]
        conv => rhs; rw [h3, pieces_flat h2]
      | 0, hn => omega
/-- strings.Split at a line's end: the pieces. -/
theorem splitB_pieces (s : ByteArray) : (Lib.splitB ⟨#[10]⟩ 0 (Lib.countB s ⟨#[10]⟩) s).map (·.data.toList) = pieces s.data.toList := by
  rw [Lib.splitB_data]
  exact split_pieces _ _ (Nat.le_refl _)
end Sp
end Go.Proofs.YtpmegcgmbhhfaaaDoor
