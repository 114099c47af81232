/-
  Plain Lean: crossings removed from the lists of a diagram. No program is named here.
-/
import Derived.Test.YtobbepmlmbbamaaMk
namespace Go.Proofs.Ytobbepmlmbbamaa.Pl

/-- The number of a half-edge when the crossings gs are removed. -/
def shf (gs : List Nat) (h : Nat) : Nat := h - 4 * (gs.filter (fun c => decide (c < h / 4))).length
/-- The crossings that stay. -/
def left (n : Nat) (gs : List Nat) : List Nat := (List.range n).filter (fun c => !gs.contains c)
def four (f : Nat → Nat) (c : Nat) : List Nat := [f (4 * c), f (4 * c + 1), f (4 * c + 2), f (4 * c + 3)]
def shrS (gs : List Nat) (sg : List Int) : List Int := (left sg.length gs).map (fun c => sg.getD c 0)
def shrM (gs : List Nat) (n : Nat) (mt : List Nat) : List Nat := (left n gs).flatMap (four (fun h => shf gs (mt.getD h 0)))

theorem left_succ (n : Nat) (gs : List Nat) : left (n + 1) gs = left n gs ++ if gs.contains n then [] else [n] := by
  unfold left
  rw [List.range_succ, List.filter_append]
  congr 1
  cases h : gs.contains n
  · rw [List.filter_cons, if_pos (by rw [h]; rfl)]; rfl
  · rw [List.filter_cons, if_neg (by rw [h]; decide)]; rfl
theorem left_zero (gs : List Nat) : left 0 gs = [] := rfl
theorem left_le (n : Nat) (gs : List Nat) : (left n gs).length ≤ n := by
  unfold left
  have := List.length_filter_le (fun c => !gs.contains c) (List.range n)
  simpa using this
theorem flat4 (l : List Nat) (f : Nat → Nat) : (l.flatMap (four f)).length = 4 * l.length := by
  induction l with
  | nil => rfl
  | cons a l ih => rw [List.flatMap_cons, List.length_append, ih, List.length_cons]; unfold four; simp only [List.length_cons, List.length_nil]; omega
theorem shrM_len (gs : List Nat) (n : Nat) (mt : List Nat) : (shrM gs n mt).length = 4 * (left n gs).length := flat4 _ _
theorem shrS_len (gs : List Nat) (sg : List Int) : (shrS gs sg).length = (left sg.length gs).length := by unfold shrS; rw [List.length_map]
theorem left_one {n c : Nat} (h : c < n) : (left n [c]).length + 1 = n := by
  induction n with
  | zero => omega
  | succ n ih =>
    rw [left_succ]
    by_cases e : c = n
    · subst e
      have : ∀ k, k ≤ c → (left k [c]).length = k := by
        intro k
        induction k with
        | zero => intro _; rfl
        | succ k ihk => intro hk; rw [left_succ, List.length_append, ihk (by omega)]; have : [c].contains k = false := by simp; omega
                        rw [this]; rfl
      have h2 := this c (Nat.le_refl _)
      simp [h2]
    · have h2 := ih (by omega)
      have : [c].contains n = false := by simp; omega
      rw [this, List.length_append]
      simp
      omega
theorem left_none {n : Nat} {gs : List Nat} (h : ∀ k, k < n → k ∉ gs) : left n gs = List.range n := by
  unfold left
  rw [List.filter_eq_self]
  intro a ha
  simp only [List.mem_range] at ha
  simpa using h a ha
theorem left_two {n x y : Nat} (h : x < y) (hy : y < n) : (left n [x, y]).length + 2 = n := by
  induction n with
  | zero => omega
  | succ n ih =>
    rw [left_succ, List.length_append]
    by_cases e : y = n
    · subst e
      have : ∀ k, k ≤ y → left k [x, y] = left k [x] := by
        intro k
        induction k with
        | zero => intro _; rfl
        | succ k ihk =>
          intro hk
          rw [left_succ, left_succ, ihk (by omega)]
          congr 1
          have : ([x, y].contains k) = ([x].contains k) := by
            rw [Bool.eq_iff_iff]; simp; omega
          rw [this]
      rw [this y (Nat.le_refl _)]
      have := left_one h
      simp
      omega
    · have h2 := ih (by omega)
      have : [x, y].contains n = false := by simp; omega
      rw [this]
      simp
      omega
theorem shf_one (c h : Nat) : shf [c] h = if c < h / 4 then h - 4 else h := by
  unfold shf
  by_cases e : c < h / 4 <;> simp [List.filter_cons, e]
/-- Not more crossings are gone ahead of h than there are. -/
def Few (gs : List Nat) : Prop := ∀ q : Nat, (gs.filter (fun c => decide (c < q))).length ≤ q
theorem few_one (c : Nat) : Few [c] := by
  intro q
  by_cases e : c < q
  · simp [List.filter_cons, e]; omega
  · simp [List.filter_cons, e]
theorem few_two {x y : Nat} (h : x < y) : Few [x, y] := by
  intro q
  by_cases e : x < q <;> by_cases e2 : y < q <;> simp [List.filter_cons, e, e2] <;> omega
theorem shf_le {gs : List Nat} (hf : Few gs) (h : Nat) : 4 * (gs.filter (fun c => decide (c < h / 4))).length ≤ h := by
  have := hf (h / 4)
  omega
end Go.Proofs.Ytobbepmlmbbamaa.Pl
