/-
  The candidates are the moves in range; the kinds of the moves that All answers.
-/
import Derived.Test.YtobbepmlmbbamaaXu
set_option linter.unusedVariables false
set_option linter.unusedSimpArgs false
namespace Go.Proofs.Ytobbepmlmbbamaa
open Go Go.RowKit

theorem mem_cuC {n : Nat} {z : Mv} : ∀ k, k ≤ 4 * n + 1 → (z ∈ cuC k ↔ z.kind = 1 ∧ inR n z ∧ z.x < (k : Int) - 1)
  | 0, _ => by
    constructor
    · intro h; cases h
    · rintro ⟨h1, h2, h3⟩
      unfold inR at h2
      rw [if_pos h1] at h2
      omega
  | k + 1, h => by
    show z ∈ cuC k ++ cuN ((k : Int) - 1) ↔ _
    rw [List.mem_append, mem_cuC (n := n) k (by omega)]
    obtain ⟨zk, zx, zy, zs, zo⟩ := z
    constructor
    · rintro (⟨h1, h2, h3⟩ | h1)
      · exact ⟨h1, h2, by simp only at h3 ⊢; omega⟩
      · unfold cuN at h1
        simp only [List.mem_cons, List.not_mem_nil, or_false, Mv.mk.injEq] at h1
        unfold inR
        refine ⟨by simp only; omega, ?_, by simp only; omega⟩
        rw [if_pos (by simp only; omega)]
        simp only
        omega
    · rintro ⟨h1, h2, h3⟩
      by_cases hx : zx < (k : Int) - 1
      · exact .inl ⟨h1, h2, hx⟩
      · right
        unfold inR at h2
        rw [if_pos h1] at h2
        simp only at h1 h2 h3
        unfold cuN
        simp only [List.mem_cons, List.not_mem_nil, or_false, Mv.mk.injEq]
        have hx2 : zx = (k : Int) - 1 := by omega
        cases zo <;> simp <;> omega
theorem mem_unC {n : Nat} {z : Mv} : ∀ k, k ≤ n → (z ∈ unC k ↔ z.kind = 2 ∧ inR n z ∧ z.x < (k : Int))
  | 0, _ => by
    constructor
    · intro h; cases h
    · rintro ⟨h1, h2, h3⟩
      unfold inR at h2
      rw [if_neg (by omega), if_pos h1] at h2
      omega
  | k + 1, h => by
    show z ∈ unC k ++ [⟨2, k, 0, 0, false⟩] ↔ _
    rw [List.mem_append, mem_unC (n := n) k (by omega)]
    obtain ⟨zk, zx, zy, zs, zo⟩ := z
    constructor
    · rintro (⟨h1, h2, h3⟩ | h1)
      · exact ⟨h1, h2, by simp only at h3 ⊢; omega⟩
      · simp only [List.mem_cons, List.not_mem_nil, or_false, Mv.mk.injEq] at h1
        obtain ⟨rfl, rfl, rfl, rfl, rfl⟩ := h1
        refine ⟨rfl, ?_, by simp only; omega⟩
        unfold inR
        simp
        omega
    · rintro ⟨h1, h2, h3⟩
      by_cases hx : zx < (k : Int)
      · exact .inl ⟨h1, h2, hx⟩
      · right
        unfold inR at h2
        rw [if_neg (by omega), if_pos h1] at h2
        simp only at h1 h2 h3
        simp only [List.mem_cons, List.not_mem_nil, or_false, Mv.mk.injEq]
        exact ⟨h1, by omega, h2.2.2.1, h2.2.2.2.1, h2.2.2.2.2⟩
theorem mem_upN {n x : Nat} {z : Mv} : ∀ k, k ≤ n → (z ∈ upN x k ↔ z.kind = 4 ∧ inR n z ∧ z.x = (x : Int) ∧ z.y < (k : Int))
  | 0, _ => by
    constructor
    · intro h; cases h
    · rintro ⟨h1, h2, h3, h4⟩
      unfold inR at h2
      rw [if_neg (by omega), if_neg (by omega), if_pos h1] at h2
      omega
  | k + 1, h => by
    show z ∈ upN x k ++ (if x < k then [⟨4, x, k, 0, false⟩] else []) ↔ _
    rw [List.mem_append, mem_upN (n := n) k (by omega)]
    obtain ⟨zk, zx, zy, zs, zo⟩ := z
    constructor
    · rintro (⟨h1, h2, h3, h4⟩ | h1)
      · exact ⟨h1, h2, h3, by simp only at h4 ⊢; omega⟩
      · split at h1
        · simp only [List.mem_cons, List.not_mem_nil, or_false, Mv.mk.injEq] at h1
          obtain ⟨rfl, rfl, rfl, rfl, rfl⟩ := h1
          refine ⟨rfl, ?_, rfl, by simp only; omega⟩
          unfold inR
          simp
          omega
        · cases h1
    · rintro ⟨h1, h2, h3, h4⟩
      by_cases hx : zy < (k : Int)
      · exact .inl ⟨h1, h2, h3, hx⟩
      · right
        unfold inR at h2
        rw [if_neg (by omega), if_neg (by omega), if_pos h1] at h2
        simp only at h1 h2 h3 h4
        rw [if_pos (by omega)]
        simp only [List.mem_cons, List.not_mem_nil, or_false, Mv.mk.injEq]
        exact ⟨h1, h3, by omega, h2.2.2.2.1, h2.2.2.2.2⟩
theorem mem_upNX {n : Nat} {z : Mv} : ∀ k, k ≤ n → (z ∈ upNX n k ↔ z.kind = 4 ∧ inR n z ∧ z.x < (k : Int))
  | 0, _ => by
    constructor
    · intro h; cases h
    · rintro ⟨h1, h2, h3⟩
      unfold inR at h2
      rw [if_neg (by omega), if_neg (by omega), if_pos h1] at h2
      omega
  | k + 1, h => by
    show z ∈ upNX n k ++ upN k n ↔ _
    rw [List.mem_append, mem_upNX (n := n) k (by omega), mem_upN (n := n) n (Nat.le_refl _)]
    constructor
    · rintro (⟨h1, h2, h3⟩ | ⟨h1, h2, h3, h4⟩)
      · exact ⟨h1, h2, by omega⟩
      · exact ⟨h1, h2, by omega⟩
    · rintro ⟨h1, h2, h3⟩
      by_cases hx : z.x < (k : Int)
      · exact .inl ⟨h1, h2, hx⟩
      · right
        refine ⟨h1, h2, by omega, ?_⟩
        unfold inR at h2
        rw [if_neg (by omega), if_neg (by omega), if_pos h1] at h2
        omega
theorem mem_pkN {x y : Int} {z : Mv} : ∀ k, (z ∈ pkN x y k ↔ z.kind = 3 ∧ z.x = x ∧ z.y = y ∧ -1 ≤ z.sign ∧ z.sign < (k : Int) - 1)
  | 0 => by
    constructor
    · intro h; cases h
    · rintro ⟨h1, h2, h3, h4, h5⟩
      omega
  | k + 1 => by
    show z ∈ pkN x y k ++ [⟨3, x, y, (k : Int) - 1, false⟩, ⟨3, x, y, (k : Int) - 1, true⟩] ↔ _
    rw [List.mem_append, mem_pkN k]
    obtain ⟨zk, zx, zy, zs, zo⟩ := z
    simp only [List.mem_cons, List.not_mem_nil, or_false, Mv.mk.injEq]
    constructor
    · rintro (⟨h1, h2, h3, h4, h5⟩ | h1)
      · exact ⟨h1, h2, h3, h4, by omega⟩
      · exact ⟨by omega, by omega, by omega, by omega, by omega⟩
    · rintro ⟨h1, h2, h3, h4, h5⟩
      by_cases hx : zs < (k : Int) - 1
      · exact .inl ⟨h1, h2, h3, h4, hx⟩
      · right
        cases zo <;> simp <;> omega
theorem pk_sign {n : Nat} {z : Mv} (hk : z.kind = 3) (h : inR n z) : -2 ≤ z.x ∧ z.x < 4 * n ∧ -2 ≤ z.y ∧ z.y < 4 * n ∧ -1 ≤ z.sign ∧ z.sign ≤ 1 := by
  unfold inR at h
  rw [if_neg (by omega), if_neg (by omega), if_neg (by omega), if_neg (by omega)] at h
  obtain ⟨h1, h2, h3, h4, h5⟩ := h
  refine ⟨h1, h2, h3, h4, ?_⟩
  split at h5
  · omega
  · split at h5 <;> omega
theorem mem_pkNY {x : Int} {z : Mv} : ∀ k, (z ∈ pkNY x k ↔ z.kind = 3 ∧ z.x = x ∧ -2 ≤ z.y ∧ z.y < (k : Int) - 2 ∧ -1 ≤ z.sign ∧ z.sign ≤ 1)
  | 0 => by
    constructor
    · intro h; cases h
    · rintro ⟨h1, h2, h3, h4, h5⟩
      omega
  | k + 1 => by
    show z ∈ pkNY x k ++ pkN x ((k : Int) - 2) 3 ↔ _
    rw [List.mem_append, mem_pkNY k, mem_pkN]
    constructor
    · rintro (⟨h1, h2, h3, h4, h5⟩ | ⟨h1, h2, h3, h4, h5⟩)
      · exact ⟨h1, h2, h3, by omega, h5⟩
      · exact ⟨h1, h2, by omega, by omega, by omega, by omega⟩
    · rintro ⟨h1, h2, h3, h4, h5, h6⟩
      by_cases hx : z.y < (k : Int) - 2
      · exact .inl ⟨h1, h2, h3, hx, h5, h6⟩
      · exact .inr ⟨h1, h2, by omega, h5, by omega⟩
theorem mem_pkNX {n : Nat} {z : Mv} : ∀ k, (z ∈ pkNX n k ↔ z.kind = 3 ∧ -2 ≤ z.x ∧ z.x < (k : Int) - 2 ∧ -2 ≤ z.y ∧ z.y < 4 * n ∧ -1 ≤ z.sign ∧ z.sign ≤ 1)
  | 0 => by
    constructor
    · intro h; cases h
    · rintro ⟨h1, h2, h3, h4, h5⟩
      omega
  | k + 1 => by
    show z ∈ pkNX n k ++ pkNY ((k : Int) - 2) (4 * n + 2) ↔ _
    rw [List.mem_append, mem_pkNX (n := n) k, mem_pkNY]
    constructor
    · rintro (⟨h1, h2, h3, h4, h5⟩ | ⟨h1, h2, h3, h4, h5, h6⟩)
      · exact ⟨h1, h2, by omega, h4, h5⟩
      · exact ⟨h1, by omega, by omega, h3, by omega, h5, h6⟩
    · rintro ⟨h1, h2, h3, h4, h5, h6, h7⟩
      by_cases hx : z.x < (k : Int) - 2
      · exact .inl ⟨h1, h2, hx, h4, h5, h6, h7⟩
      · exact .inr ⟨h1, by omega, h4, by omega, h6, h7⟩
theorem slL_five {d : Pl.Dg} {k : Nat} {z : Mv} (h : z ∈ slL d k) : z.kind = 5 := by
  obtain ⟨_, _, _, rfl⟩ := (slL_mem d z k).1 h
  rfl
/-- A move other than a slide is listed exactly if it can be applied. -/
theorem listed {d : Pl.Dg} {z : Mv} (hk : z.kind ≠ 5) : z ∈ allL d ↔ apC d z = 0 := by
  unfold allL
  simp only [List.mem_append, mem_sel]
  constructor
  · rintro ((((h | h) | h) | h) | h)
    · exact h.2
    · exact h.2
    · exact h.2
    · exact h.2
    · exact absurd (slL_five h) hk
  · intro h
    have h15 : 1 ≤ z.kind ∧ z.kind ≤ 5 := by
      by_cases h1 : z.kind < 1 ∨ 5 < z.kind
      · unfold apC at h
        rw [if_pos h1] at h
        cases h
      · omega
    have hin : inR d.n z := by
      by_cases hin : inR d.n z
      · exact hin
      · rw [apC_out h15 hin] at h
        cases h
    have h4 : z.kind = 1 ∨ z.kind = 2 ∨ z.kind = 3 ∨ z.kind = 4 := by omega
    left
    rcases h4 with h4 | h4 | h4 | h4
    · refine .inl (.inl (.inl ⟨(mem_cuC _ (Nat.le_refl _)).2 ⟨h4, hin, ?_⟩, h⟩))
      unfold inR at hin
      rw [if_pos h4] at hin
      omega
    · refine .inl (.inl (.inr ⟨(mem_unC _ (Nat.le_refl _)).2 ⟨h4, hin, ?_⟩, h⟩))
      unfold inR at hin
      rw [if_neg (by omega), if_pos h4] at hin
      omega
    · have := pk_sign h4 hin
      exact .inl (.inr ⟨(mem_pkNX _).2 ⟨h4, by omega, by omega, by omega, by omega, by omega, by omega⟩, h⟩)
    · refine .inr ⟨(mem_upNX _ (Nat.le_refl _)).2 ⟨h4, hin, ?_⟩, h⟩
      unfold inR at hin
      rw [if_neg (by omega), if_neg (by omega), if_pos h4] at hin
      omega
/-- A listed move can be applied. -/
theorem listed_ok {d : Pl.Dg} {z : Mv} (h : z ∈ allL d) : apC d z = 0 := by
  by_cases hk : z.kind = 5
  · unfold allL at h
    simp only [List.mem_append, mem_sel] at h
    rcases h with (((h | h) | h) | h) | h
    · exact h.2
    · exact h.2
    · exact h.2
    · exact h.2
    · obtain ⟨g, hg, hp, rfl⟩ := (slL_mem d z _).1 h
      rw [apC_in (by simp) (by unfold inR; simp; omega)]
      simp [sldC, hp.2.2]
  · exact (listed hk).1 h
/-! The kinds. -/
def kRem (z : Mv) : Bool := z.kind == 2 || z.kind == 4
def kSl (z : Mv) : Bool := z.kind == 5
theorem filter_none {p : Mv → Bool} {l : List Mv} (h : ∀ z, z ∈ l → p z = false) : l.filter p = [] := by
  rw [List.filter_eq_nil_iff]
  intro z hz
  rw [h z hz]
  decide
theorem filter_every {p : Mv → Bool} {l : List Mv} (h : ∀ z, z ∈ l → p z = true) : l.filter p = l := List.filter_eq_self.2 h
theorem cu_kind {d : Pl.Dg} {z : Mv} (h : z ∈ sel d (cuC (4 * d.n + 1))) : z.kind = 1 := ((mem_cuC _ (Nat.le_refl _)).1 (mem_sel.1 h).1).1
theorem un_kind {d : Pl.Dg} {z : Mv} (h : z ∈ sel d (unC d.n)) : z.kind = 2 := ((mem_unC _ (Nat.le_refl _)).1 (mem_sel.1 h).1).1
theorem pk_kind {d : Pl.Dg} {k : Nat} {z : Mv} (h : z ∈ sel d (pkNX d.n k)) : z.kind = 3 := pkNX_kind (mem_sel.1 h).1
theorem up_kind {d : Pl.Dg} {z : Mv} (h : z ∈ sel d (upNX d.n d.n)) : z.kind = 4 := ((mem_upNX _ (Nat.le_refl _)).1 (mem_sel.1 h).1).1
theorem all_rem (d : Pl.Dg) : (allL d).filter kRem = remL d := by
  unfold allL remL
  simp only [List.filter_append]
  rw [filter_none (p := kRem) (l := sel d (cuC (4 * d.n + 1))) (fun z hz => by unfold kRem; rw [cu_kind hz]; rfl),
    filter_every (p := kRem) (l := sel d (unC d.n)) (fun z hz => by unfold kRem; rw [un_kind hz]; rfl),
    filter_none (p := kRem) (l := sel d (pkNX d.n (4 * d.n + 2))) (fun z hz => by unfold kRem; rw [pk_kind hz]; rfl),
    filter_every (p := kRem) (l := sel d (upNX d.n d.n)) (fun z hz => by unfold kRem; rw [up_kind hz]; rfl),
    filter_none (p := kRem) (l := slL d (4 * d.n)) (fun z hz => by unfold kRem; rw [slL_five hz]; rfl)]
  simp
theorem all_sl (d : Pl.Dg) : (allL d).filter kSl = slL d (4 * d.n) := by
  unfold allL
  simp only [List.filter_append]
  rw [filter_none (p := kSl) (l := sel d (cuC (4 * d.n + 1))) (fun z hz => by unfold kSl; rw [cu_kind hz]; rfl),
    filter_none (p := kSl) (l := sel d (unC d.n)) (fun z hz => by unfold kSl; rw [un_kind hz]; rfl),
    filter_none (p := kSl) (l := sel d (pkNX d.n (4 * d.n + 2))) (fun z hz => by unfold kSl; rw [pk_kind hz]; rfl),
    filter_none (p := kSl) (l := sel d (upNX d.n d.n)) (fun z hz => by unfold kSl; rw [up_kind hz]; rfl),
    filter_every (p := kSl) (l := slL d (4 * d.n)) (fun z hz => by unfold kSl; rw [slL_five hz]; rfl)]
  simp
end Go.Proofs.Ytobbepmlmbbamaa
