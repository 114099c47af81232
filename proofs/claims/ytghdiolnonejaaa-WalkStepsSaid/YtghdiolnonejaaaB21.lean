/-
  The texts Xw, Xy, Pke, Za, Zb, Xz in one.
-/
import Derived.Test.YtghdiolnonejaaaB20
import Derived.Deep.DeepCutAuto
import Derived.Test.YtghdiolnonejaaaB05
import Derived.Test.YtghdiolnonejaaaB00
import Derived.Test.YtghdiolnonejaaaB02
import Derived.Test.YtghdiolnonejaaaB18
import Derived.Test.YtghdiolnonejaaaB16
import Derived.ProofKit
import Derived.OpenShut
set_option linter.unusedVariables false
set_option linter.unusedSimpArgs false

section
namespace Go.Proofs.Ytghdiolnonejaaa
open Go Go.RowKit
theorem mem_cuC {n : Nat} {z : Mv} : ∀ k, k ≤ 4 * n + 1 → (z ∈ cuC k ↔ z.kind = 1 ∧ inR n z ∧ z.x < (k : Int) - 1)
  | 0, _ => by
    constructor
    · intro h; cases h
    · rintro ⟨h1, h2, h3⟩
      unfold inR at h2
      rw [if_pos h1] at h2
      omega
  | k + 1, h => by
    show z ∈ cuC k ++ cuN ((k : Int) - 1) ↔ _
    rw [List.mem_append, mem_cuC (n := n) k (by omega)]
    obtain ⟨zk, zx, zy, zs, zo⟩ := z
    constructor
    · rintro (⟨h1, h2, h3⟩ | h1)
      · exact ⟨h1, h2, by simp only at h3 ⊢; omega⟩
      · unfold cuN at h1
        simp only [List.mem_cons, List.not_mem_nil, or_false, Mv.mk.injEq] at h1
        unfold inR
        refine ⟨by simp only; omega, ?_, by simp only; omega⟩
        rw [if_pos (by simp only; omega)]
        simp only
        omega
    · rintro ⟨h1, h2, h3⟩
      by_cases hx : zx < (k : Int) - 1
      · exact .inl ⟨h1, h2, hx⟩
      · right
        unfold inR at h2
        rw [if_pos h1] at h2
        simp only at h1 h2 h3
        unfold cuN
        simp only [List.mem_cons, List.not_mem_nil, or_false, Mv.mk.injEq]
        have hx2 : zx = (k : Int) - 1 := by omega
        cases zo <;> simp <;> omega
theorem mem_unC {n : Nat} {z : Mv} : ∀ k, k ≤ n → (z ∈ unC k ↔ z.kind = 2 ∧ inR n z ∧ z.x < (k : Int))
  | 0, _ => by
    constructor
    · intro h; cases h
    · rintro ⟨h1, h2, h3⟩
      unfold inR at h2
      rw [if_neg (by omega), if_pos h1] at h2
      omega
  | k + 1, h => by
    show z ∈ unC k ++ [⟨2, k, 0, 0, false⟩] ↔ _
    rw [List.mem_append, mem_unC (n := n) k (by omega)]
    obtain ⟨zk, zx, zy, zs, zo⟩ := z
    constructor
    · rintro (⟨h1, h2, h3⟩ | h1)
      · exact ⟨h1, h2, by simp only at h3 ⊢; omega⟩
      · simp only [List.mem_cons, List.not_mem_nil, or_false, Mv.mk.injEq] at h1
        obtain ⟨rfl, rfl, rfl, rfl, rfl⟩ := h1
        refine ⟨rfl, ?_, by simp only; omega⟩
        unfold inR
        simp
        omega
    · rintro ⟨h1, h2, h3⟩
      by_cases hx : zx < (k : Int)
      · exact .inl ⟨h1, h2, hx⟩
      · right
        unfold inR at h2
        rw [if_neg (by omega), if_pos h1] at h2
        simp only at h1 h2 h3
        simp only [List.mem_cons, List.not_mem_nil, or_false, Mv.mk.injEq]
        exact ⟨h1, by omega, h2.2.2.1, h2.2.2.2.1, h2.2.2.2.2⟩
theorem mem_upN {n x : Nat} {z : Mv} : ∀ k, k ≤ n → (z ∈ upN x k ↔ z.kind = 4 ∧ inR n z ∧ z.x = (x : Int) ∧ z.y < (k : Int))
  | 0, _ => by
    constructor
    · intro h; cases h
    · rintro ⟨h1, h2, h3, h4⟩
      unfold inR at h2
      rw [if_neg (by omega), if_neg (by omega), if_pos h1] at h2
      omega
  | k + 1, h => by
    show z ∈ upN x k ++ (if x < k then [⟨4, x, k, 0, false⟩] else []) ↔ _
    rw [List.mem_append, mem_upN (n := n) k (by omega)]
    obtain ⟨zk, zx, zy, zs, zo⟩ := z
    constructor
    · rintro (⟨h1, h2, h3, h4⟩ | h1)
      · exact ⟨h1, h2, h3, by simp only at h4 ⊢; omega⟩
      · split at h1
        · simp only [List.mem_cons, List.not_mem_nil, or_false, Mv.mk.injEq] at h1
          obtain ⟨rfl, rfl, rfl, rfl, rfl⟩ := h1
          refine ⟨rfl, ?_, rfl, by simp only; omega⟩
          unfold inR
          simp
          omega
        · cases h1
    · rintro ⟨h1, h2, h3, h4⟩
      by_cases hx : zy < (k : Int)
      · exact .inl ⟨h1, h2, h3, hx⟩
      · right
        unfold inR at h2
        rw [if_neg (by omega), if_neg (by omega), if_pos h1] at h2
        simp only at h1 h2 h3 h4
        rw [if_pos (by omega)]
        simp only [List.mem_cons, List.not_mem_nil, or_false, Mv.mk.injEq]
        exact ⟨h1, h3, by omega, h2.2.2.2.1, h2.2.2.2.2⟩
theorem mem_upNX {n : Nat} {z : Mv} : ∀ k, k ≤ n → (z ∈ upNX n k ↔ z.kind = 4 ∧ inR n z ∧ z.x < (k : Int))
  | 0, _ => by
    constructor
    · intro h; cases h
    · rintro ⟨h1, h2, h3⟩
      unfold inR at h2
      rw [if_neg (by omega), if_neg (by omega), if_pos h1] at h2
      omega
  | k + 1, h => by
    show z ∈ upNX n k ++ upN k n ↔ _
    rw [List.mem_append, mem_upNX (n := n) k (by omega), mem_upN (n := n) n (Nat.le_refl _)]
    constructor
    · rintro (⟨h1, h2, h3⟩ | ⟨h1, h2, h3, h4⟩)
      · exact ⟨h1, h2, by omega⟩
      · exact ⟨h1, h2, by omega⟩
    · rintro ⟨h1, h2, h3⟩
      by_cases hx : z.x < (k : Int)
      · exact .inl ⟨h1, h2, hx⟩
      · right
        refine ⟨h1, h2, by omega, ?_⟩
        unfold inR at h2
        rw [if_neg (by omega), if_neg (by omega), if_pos h1] at h2
        omega
theorem mem_pkN {x y : Int} {z : Mv} : ∀ k, (z ∈ pkN x y k ↔ z.kind = 3 ∧ z.x = x ∧ z.y = y ∧ -1 ≤ z.sign ∧ z.sign < (k : Int) - 1)
  | 0 => by
    constructor
    · intro h; cases h
    · rintro ⟨h1, h2, h3, h4, h5⟩
      omega
  | k + 1 => by
    show z ∈ pkN x y k ++ [⟨3, x, y, (k : Int) - 1, false⟩, ⟨3, x, y, (k : Int) - 1, true⟩] ↔ _
    rw [List.mem_append, mem_pkN k]
    obtain ⟨zk, zx, zy, zs, zo⟩ := z
    simp only [List.mem_cons, List.not_mem_nil, or_false, Mv.mk.injEq]
    constructor
    · rintro (⟨h1, h2, h3, h4, h5⟩ | h1)
      · exact ⟨h1, h2, h3, h4, by omega⟩
      · exact ⟨by omega, by omega, by omega, by omega, by omega⟩
    · rintro ⟨h1, h2, h3, h4, h5⟩
      by_cases hx : zs < (k : Int) - 1
      · exact .inl ⟨h1, h2, h3, h4, hx⟩
      · right
        cases zo <;> simp <;> omega
theorem pk_sign {n : Nat} {z : Mv} (hk : z.kind = 3) (h : inR n z) : -2 ≤ z.x ∧ z.x < 4 * n ∧ -2 ≤ z.y ∧ z.y < 4 * n ∧ -1 ≤ z.sign ∧ z.sign ≤ 1 := by
  unfold inR at h
  rw [if_neg (by omega), if_neg (by omega), if_neg (by omega), if_neg (by omega)] at h
  obtain ⟨h1, h2, h3, h4, h5⟩ := h
  refine ⟨h1, h2, h3, h4, ?_⟩
  split at h5
  · omega
  · split at h5 <;> omega
theorem mem_pkNY {x : Int} {z : Mv} : ∀ k, (z ∈ pkNY x k ↔ z.kind = 3 ∧ z.x = x ∧ -2 ≤ z.y ∧ z.y < (k : Int) - 2 ∧ -1 ≤ z.sign ∧ z.sign ≤ 1)
  | 0 => by
    constructor
    · intro h; cases h
    · rintro ⟨h1, h2, h3, h4, h5⟩
      omega
  | k + 1 => by
    show z ∈ pkNY x k ++ pkN x ((k : Int) - 2) 3 ↔ _
    rw [List.mem_append, mem_pkNY k, mem_pkN]
    constructor
    · rintro (⟨h1, h2, h3, h4, h5⟩ | ⟨h1, h2, h3, h4, h5⟩)
      · exact ⟨h1, h2, h3, by omega, h5⟩
      · exact ⟨h1, h2, by omega, by omega, by omega, by omega⟩
    · rintro ⟨h1, h2, h3, h4, h5, h6⟩
      by_cases hx : z.y < (k : Int) - 2
      · exact .inl ⟨h1, h2, h3, hx, h5, h6⟩
      · exact .inr ⟨h1, h2, by omega, h5, by omega⟩
theorem mem_pkNX {n : Nat} {z : Mv} : ∀ k, (z ∈ pkNX n k ↔ z.kind = 3 ∧ -2 ≤ z.x ∧ z.x < (k : Int) - 2 ∧ -2 ≤ z.y ∧ z.y < 4 * n ∧ -1 ≤ z.sign ∧ z.sign ≤ 1)
  | 0 => by
    constructor
    · intro h; cases h
    · rintro ⟨h1, h2, h3, h4, h5⟩
      omega
  | k + 1 => by
    show z ∈ pkNX n k ++ pkNY ((k : Int) - 2) (4 * n + 2) ↔ _
    rw [List.mem_append, mem_pkNX (n := n) k, mem_pkNY]
    constructor
    · rintro (⟨h1, h2, h3, h4, h5⟩ | ⟨h1, h2, h3, h4, h5, h6⟩)
      · exact ⟨h1, h2, by omega, h4, h5⟩
      · exact ⟨h1, by omega, by omega, h3, by omega, h5, h6⟩
    · rintro ⟨h1, h2, h3, h4, h5, h6, h7⟩
      by_cases hx : z.x < (k : Int) - 2
      · exact .inl ⟨h1, h2, hx, h4, h5, h6, h7⟩
      · exact .inr ⟨h1, by omega, h4, by omega, h6, h7⟩
theorem slL_five {d : Pl.Dg} {k : Nat} {z : Mv} (h : z ∈ slL d k) : z.kind = 5 := by
  obtain ⟨_, _, _, rfl⟩ := (slL_mem d z k).1 h
  rfl
/-- A move other than a slide is listed exactly if it can be applied. -/
theorem listed {d : Pl.Dg} {z : Mv} (hk : z.kind ≠ 5) : z ∈ allL d ↔ apC d z = 0 := by
  unfold allL
  simp only [List.mem_append, mem_sel]
  constructor
  · rintro ((((h | h) | h) | h) | h)
    · exact h.2
    · exact h.2
    · exact h.2
    · exact h.2
    · exact absurd (slL_five h) hk
  · intro h
    have h15 : 1 ≤ z.kind ∧ z.kind ≤ 5 := by
      by_cases h1 : z.kind < 1 ∨ 5 < z.kind
      · unfold apC at h
        rw [if_pos h1] at h
        cases h
      · omega
    have hin : inR d.n z := by
      by_cases hin : inR d.n z
      · exact hin
      · rw [apC_out h15 hin] at h
        cases h
    have h4 : z.kind = 1 ∨ z.kind = 2 ∨ z.kind = 3 ∨ z.kind = 4 := by omega
    left
    rcases h4 with h4 | h4 | h4 | h4
    · refine .inl (.inl (.inl ⟨(mem_cuC _ (Nat.le_refl _)).2 ⟨h4, hin, ?_⟩, h⟩))
      unfold inR at hin
      rw [if_pos h4] at hin
      omega
    · refine .inl (.inl (.inr ⟨(mem_unC _ (Nat.le_refl _)).2 ⟨h4, hin, ?_⟩, h⟩))
      unfold inR at hin
      rw [if_neg (by omega), if_pos h4] at hin
      omega
    · have := pk_sign h4 hin
      exact .inl (.inr ⟨(mem_pkNX _).2 ⟨h4, by omega, by omega, by omega, by omega, by omega, by omega⟩, h⟩)
    · refine .inr ⟨(mem_upNX _ (Nat.le_refl _)).2 ⟨h4, hin, ?_⟩, h⟩
      unfold inR at hin
      rw [if_neg (by omega), if_neg (by omega), if_pos h4] at hin
      omega
/-- A listed move can be applied. -/
theorem listed_ok {d : Pl.Dg} {z : Mv} (h : z ∈ allL d) : apC d z = 0 := by
  by_cases hk : z.kind = 5
  · unfold allL at h
    simp only [List.mem_append, mem_sel] at h
    rcases h with (((h | h) | h) | h) | h
    · exact h.2
    · exact h.2
    · exact h.2
    · exact h.2
    · obtain ⟨g, hg, hp, rfl⟩ := (slL_mem d z _).1 h
      rw [apC_in (by simp) (by unfold inR; simp; omega)]
      simp [sldC, hp.2.2]
  · exact (listed hk).1 h
theorem filter_none {p : Mv → Bool} {l : List Mv} (h : ∀ z, z ∈ l → p z = false) : l.filter p = [] := by
  rw [List.filter_eq_nil_iff]
  intro z hz
  rw [h z hz]
  decide
end Go.Proofs.Ytghdiolnonejaaa
end

section
namespace Go.Proofs.Ytghdiolnonejaaa
open Go Go.RowKit
attribute [local go_sem ↓] Go.wp_at_zero Go.wp_at_succ
/-- Two growing lists of moves of the call's own. -/
structure LS (w : World) (vR vS : Value) (rs ss : List Mv) (W : World) : Prop where
  r : W.ownsRow w.heap.size 37 5 vR rs.length (mvs rs)
  s : W.ownsRow w.heap.size 37 5 vS ss.length (mvs ss)
  ne : ∀ g, vR.ownBlock = some g → vS.ownBlock = some g → False
  bel : Below w.heap.size w W
section
variable {w W W' W2 : World} {vR vS : Value} {rs ss : List Mv} {m : Mv} {g n c : Nat}
theorem LS.below (h : LS w vR vS rs ss W) (hb : Below W.heap.size W W') : LS w vR vS rs ss W' := ⟨own_below h.r hb, own_below h.s hb, h.ne, h.bel.trans (hb.mono h.bel.size)⟩
theorem LS.alloc (h : LS w vR vS rs ss W) (o : Obj) : LS w vR vS rs ss (W.alloc o) := h.below ((Below.refl _ _).alloc (Nat.le_refl _) o)
theorem LS.drewN (h : LS w vR vS rs ss W) (n : Nat) : LS w vR vS rs ss (W.drewN n) := ⟨h.r, h.s, h.ne, below_drewN h.bel n⟩
theorem apart {v u : Value} (ne : ∀ g, v.ownBlock = some g → u.ownBlock = some g → False) : u.ownBlock = none ∨ u.ownBlock ≠ v.ownBlock := by
  cases hu : u.ownBlock with
  | none => exact .inl rfl
  | some g => exact .inr (fun e => ne g e.symm hu)
end
theorem pkN_len (x y : Int) : ∀ k, (pkN x y k).length ≤ 2 * k
  | 0 => Nat.le_refl _
  | k + 1 => by
    have a := pkN_len x y k
    show (pkN x y k ++ [_, _]).length ≤ _
    rw [List.length_append]
    simp only [List.length_cons, List.length_nil]
    omega
theorem pkNY_len (x : Int) : ∀ k, (pkNY x k).length ≤ 6 * k
  | 0 => Nat.le_refl _
  | k + 1 => by
    have a := pkNY_len x k
    have b := pkN_len x ((k : Int) - 2) 3
    show (pkNY x k ++ pkN x ((k : Int) - 2) 3).length ≤ _
    rw [List.length_append]
    omega
theorem pkNX_len {n : Nat} (hn : n ≤ 64) : ∀ k, (pkNX n k).length ≤ 1548 * k
  | 0 => Nat.le_refl _
  | k + 1 => by
    have a := pkNX_len hn k
    have b := pkNY_len ((k : Int) - 2) (4 * n + 2)
    show (pkNX n k ++ pkNY ((k : Int) - 2) (4 * n + 2)).length ≤ _
    rw [List.length_append]
    omega
theorem allL_le {d : Pl.Dg} (hn : d.n ≤ 64) : (allL d).length ≤ 500000 := by
  have a := cu_le (d := d) hn
  have b := un_le (d := d) hn
  have c := sel_len d (pkNX d.n (4 * d.n + 2))
  have c2 := pkNX_len hn (4 * d.n + 2)
  have e := up_le (d := d) hn
  have f := slL_len d (4 * d.n)
  unfold allL
  simp only [List.length_append]
  omega
end Go.Proofs.Ytghdiolnonejaaa
end

section
namespace Go.Proofs.Ytghdiolnonejaaa.Pl
section
variable {d d' : Dg} {f g : Nat} {fx fy : Bool}
theorem Pd.l0 (hd : Valid d) (K : Pd d d' f g fx fy) : (pkL0 d f g).length = 4 * (d.n + 2) ∧ (pkL0 d f g).getD (pp d.n f 0) 0 = pp (d.n + 1) g 2 ∧ (pkL0 d f g).getD (pp d.n f 1) 0 = pp (d.n + 1) g 1 ∧ ∀ z, z < 4 * d.n → (pkL0 d f g).getD z 0 = d.m z := by
  have B := K.base hd
  have hw := (Valid.iff.1 hd).1
  refine ⟨B.ms.len, ?_, ?_, fun z hz => ?_⟩
  · rw [B.ms.at_ _ (by unfold pp; omega) (by rw [B.b4]; unfold pp; omega), B.b4]
  · rw [B.ms.at_ _ (by unfold pp; omega) (by rw [B.b1]; unfold pp; omega), B.b1]
  · rw [B.ms.at_ z (by omega) (by rw [B.old z hz]; exact hw.ne z hz), B.old z hz]
theorem Pd.out_loops (hd : Valid d) (K : Pd d d' f g fx fy) (hv : Valid d') (hl : d'.mt = jl (jl (pkL0 d f g) (pp (d.n + 1) g 0) (pp d.n f 2)) (pp d.n f 3) (pp (d.n + 1) g 3)) : Out d d' f g 1 1 := by
  have hw := (Valid.iff.1 hd).1
  have hw' := (Valid.iff.1 hv).1
  obtain ⟨ln, l0, l1, lo⟩ := K.l0 hd
  have e : ∀ z, z < 4 * (d.n + 2) → d'.m z = if z = (pp (d.n + 1) g 3) then (pp d.n f 3) else if z = (pp d.n f 3) then (pp (d.n + 1) g 3) else if z = (pp d.n f 2) then (pp (d.n + 1) g 0) else if z = (pp (d.n + 1) g 0) then (pp d.n f 2) else (pkL0 d f g).getD z 0 := fun z hz => by
    rw [← dg_m hw' (by rw [K.n]; exact hz), hl, jl_at (by simp only [jl_len, ln, pp]; omega) (by simp only [jl_len, ln, pp]; omega), jl_at (by simp only [jl_len, ln, pp]; omega) (by simp only [jl_len, ln, pp]; omega)]
  have m0 : d'.m (pp d.n f 0) = (pp (d.n + 1) g 2) := by rw [e _ (by unfold pp; omega), if_neg (by unfold pp; omega), if_neg (by unfold pp; omega), if_neg (by unfold pp; omega), if_neg (by unfold pp; omega), l0]
  have m1 : d'.m (pp d.n f 1) = (pp (d.n + 1) g 1) := by rw [e _ (by unfold pp; omega), if_neg (by unfold pp; omega), if_neg (by unfold pp; omega), if_neg (by unfold pp; omega), if_neg (by unfold pp; omega), l1]
  have v2 : d'.m (pp d.n f 2) = (pp (d.n + 1) g 0) := by rw [e _ (by unfold pp; omega), if_neg (by unfold pp; omega), if_neg (by unfold pp; omega), if_pos rfl]
  have v0 : d'.m (pp (d.n + 1) g 0) = (pp d.n f 2) := by rw [e _ (by unfold pp; omega), if_neg (by unfold pp; omega), if_neg (by unfold pp; omega), if_neg (by unfold pp; omega), if_pos rfl]
  have v3 : d'.m (pp d.n f 3) = (pp (d.n + 1) g 3) := by rw [e _ (by unfold pp; omega), if_neg (by unfold pp; omega), if_pos rfl]
  have w3 : d'.m (pp (d.n + 1) g 3) = (pp d.n f 3) := by rw [e _ (by unfold pp; omega), if_pos rfl]
  have old : ∀ z, z < 4 * d.n → d'.m z = d.m z := fun z hz => by rw [e z (by omega), if_neg (by unfold pp; omega), if_neg (by unfold pp; omega), if_neg (by unfold pp; omega), if_neg (by unfold pp; omega), lo z hz]
  exact (show In d d' f g from ⟨K.n, hv, m0, m1⟩).loops v2 v3 old
theorem Pd.out_xedge (hd : Valid d) (K : Pd d d' f g fx fy) (hv : Valid d') {x : Nat} (hx : x < 4 * d.n) (hl : d'.mt = jl (jl (jl (pkL0 d f g) (pp (d.n + 1) g 0) (pp d.n f 2)) x (pp d.n f 3)) (pp (d.n + 1) g 3) (d.m x)) : Out d d' f g 1 0 := by
  have hw := (Valid.iff.1 hd).1
  have hw' := (Valid.iff.1 hv).1
  obtain ⟨ln, l0, l1, lo⟩ := K.l0 hd
  have hmx := hw.lt x hx
  have hnex := hw.ne x hx
  have e : ∀ z, z < 4 * (d.n + 2) → d'.m z = if z = (d.m x) then (pp (d.n + 1) g 3) else if z = (pp (d.n + 1) g 3) then (d.m x) else if z = (pp d.n f 3) then x else if z = x then (pp d.n f 3) else if z = (pp d.n f 2) then (pp (d.n + 1) g 0) else if z = (pp (d.n + 1) g 0) then (pp d.n f 2) else (pkL0 d f g).getD z 0 := fun z hz => by
    rw [← dg_m hw' (by rw [K.n]; exact hz), hl, jl_at (by simp only [jl_len, ln, pp]; omega) (by simp only [jl_len, ln, pp]; omega), jl_at (by simp only [jl_len, ln, pp]; omega) (by simp only [jl_len, ln, pp]; omega), jl_at (by simp only [jl_len, ln, pp]; omega) (by simp only [jl_len, ln, pp]; omega)]
  have m0 : d'.m (pp d.n f 0) = (pp (d.n + 1) g 2) := by rw [e _ (by unfold pp; omega), if_neg (by unfold pp; omega), if_neg (by unfold pp; omega), if_neg (by unfold pp; omega), if_neg (by unfold pp; omega), if_neg (by unfold pp; omega), if_neg (by unfold pp; omega), l0]
  have m1 : d'.m (pp d.n f 1) = (pp (d.n + 1) g 1) := by rw [e _ (by unfold pp; omega), if_neg (by unfold pp; omega), if_neg (by unfold pp; omega), if_neg (by unfold pp; omega), if_neg (by unfold pp; omega), if_neg (by unfold pp; omega), if_neg (by unfold pp; omega), l1]
  have v2 : d'.m (pp d.n f 2) = (pp (d.n + 1) g 0) := by rw [e _ (by unfold pp; omega), if_neg (by unfold pp; omega), if_neg (by unfold pp; omega), if_neg (by unfold pp; omega), if_neg (by unfold pp; omega), if_pos rfl]
  have v0 : d'.m (pp (d.n + 1) g 0) = (pp d.n f 2) := by rw [e _ (by unfold pp; omega), if_neg (by unfold pp; omega), if_neg (by unfold pp; omega), if_neg (by unfold pp; omega), if_neg (by unfold pp; omega), if_neg (by unfold pp; omega), if_pos rfl]
  have v3 : d'.m (pp d.n f 3) = x := by rw [e _ (by unfold pp; omega), if_neg (by unfold pp; omega), if_neg (by unfold pp; omega), if_pos rfl]
  have w3 : d'.m (pp (d.n + 1) g 3) = (d.m x) := by rw [e _ (by unfold pp; omega), if_neg (by unfold pp; omega), if_pos rfl]
  have old : ∀ z, z < 4 * d.n → z ≠ x → z ≠ d.m x → d'.m z = d.m z := fun z hz z1 z2 => by rw [e z (by omega), if_neg z2, if_neg (by unfold pp; omega), if_neg (by unfold pp; omega), if_neg z1, if_neg (by unfold pp; omega), if_neg (by unfold pp; omega), lo z hz]
  exact (show In d d' f g from ⟨K.n, hv, m0, m1⟩).xedge hw hx v2 v3 w3 old
theorem Pd.out_yedge (hd : Valid d) (K : Pd d d' f g fx fy) (hv : Valid d') {y : Nat} (hy : y < 4 * d.n) (hl : d'.mt = jl (jl (jl (pkL0 d f g) y (pp (d.n + 1) g 0)) (pp d.n f 2) (d.m y)) (pp d.n f 3) (pp (d.n + 1) g 3)) : Out d d' f g 0 1 := by
  have hw := (Valid.iff.1 hd).1
  have hw' := (Valid.iff.1 hv).1
  obtain ⟨ln, l0, l1, lo⟩ := K.l0 hd
  have hmy := hw.lt y hy
  have hney := hw.ne y hy
  have e : ∀ z, z < 4 * (d.n + 2) → d'.m z = if z = (pp (d.n + 1) g 3) then (pp d.n f 3) else if z = (pp d.n f 3) then (pp (d.n + 1) g 3) else if z = (d.m y) then (pp d.n f 2) else if z = (pp d.n f 2) then (d.m y) else if z = (pp (d.n + 1) g 0) then y else if z = y then (pp (d.n + 1) g 0) else (pkL0 d f g).getD z 0 := fun z hz => by
    rw [← dg_m hw' (by rw [K.n]; exact hz), hl, jl_at (by simp only [jl_len, ln, pp]; omega) (by simp only [jl_len, ln, pp]; omega), jl_at (by simp only [jl_len, ln, pp]; omega) (by simp only [jl_len, ln, pp]; omega), jl_at (by simp only [jl_len, ln, pp]; omega) (by simp only [jl_len, ln, pp]; omega)]
  have m0 : d'.m (pp d.n f 0) = (pp (d.n + 1) g 2) := by rw [e _ (by unfold pp; omega), if_neg (by unfold pp; omega), if_neg (by unfold pp; omega), if_neg (by unfold pp; omega), if_neg (by unfold pp; omega), if_neg (by unfold pp; omega), if_neg (by unfold pp; omega), l0]
  have m1 : d'.m (pp d.n f 1) = (pp (d.n + 1) g 1) := by rw [e _ (by unfold pp; omega), if_neg (by unfold pp; omega), if_neg (by unfold pp; omega), if_neg (by unfold pp; omega), if_neg (by unfold pp; omega), if_neg (by unfold pp; omega), if_neg (by unfold pp; omega), l1]
  have v2 : d'.m (pp d.n f 2) = (d.m y) := by rw [e _ (by unfold pp; omega), if_neg (by unfold pp; omega), if_neg (by unfold pp; omega), if_neg (by unfold pp; omega), if_pos rfl]
  have v0 : d'.m (pp (d.n + 1) g 0) = y := by rw [e _ (by unfold pp; omega), if_neg (by unfold pp; omega), if_neg (by unfold pp; omega), if_neg (by unfold pp; omega), if_neg (by unfold pp; omega), if_pos rfl]
  have v3 : d'.m (pp d.n f 3) = (pp (d.n + 1) g 3) := by rw [e _ (by unfold pp; omega), if_neg (by unfold pp; omega), if_pos rfl]
  have w3 : d'.m (pp (d.n + 1) g 3) = (pp d.n f 3) := by rw [e _ (by unfold pp; omega), if_pos rfl]
  have old : ∀ z, z < 4 * d.n → z ≠ y → z ≠ d.m y → d'.m z = d.m z := fun z hz z1 z2 => by rw [e z (by omega), if_neg (by unfold pp; omega), if_neg (by unfold pp; omega), if_neg z2, if_neg (by unfold pp; omega), if_neg (by unfold pp; omega), if_neg z1, lo z hz]
  exact (show In d d' f g from ⟨K.n, hv, m0, m1⟩).yedge hw hy v2 v0 v3 old
theorem Pd.out_edges (hd : Valid d) (K : Pd d d' f g fx fy) (hv : Valid d') {x : Nat} (hx : x < 4 * d.n) {y : Nat} (hy : y < 4 * d.n) (xy : x ≠ y) (xm : d.m x ≠ y) (hl : d'.mt = jl (jl (jl (jl (pkL0 d f g) y (pp (d.n + 1) g 0)) (pp d.n f 2) (d.m y)) x (pp d.n f 3)) (pp (d.n + 1) g 3) (d.m x)) : Out d d' f g 0 0 := by
  have hw := (Valid.iff.1 hd).1
  have hw' := (Valid.iff.1 hv).1
  obtain ⟨ln, l0, l1, lo⟩ := K.l0 hd
  have hmx := hw.lt x hx
  have hnex := hw.ne x hx
  have hmy := hw.lt y hy
  have hney := hw.ne y hy
  have ym : d.m y ≠ x := fun e => xm (by rw [← e, hw.inv y hy])
  have mm : d.m x ≠ d.m y := fun e => xy (hw.bij.inj _ _ hx hy e)
  have e : ∀ z, z < 4 * (d.n + 2) → d'.m z = if z = (d.m x) then (pp (d.n + 1) g 3) else if z = (pp (d.n + 1) g 3) then (d.m x) else if z = (pp d.n f 3) then x else if z = x then (pp d.n f 3) else if z = (d.m y) then (pp d.n f 2) else if z = (pp d.n f 2) then (d.m y) else if z = (pp (d.n + 1) g 0) then y else if z = y then (pp (d.n + 1) g 0) else (pkL0 d f g).getD z 0 := fun z hz => by
    rw [← dg_m hw' (by rw [K.n]; exact hz), hl, jl_at (by simp only [jl_len, ln, pp]; omega) (by simp only [jl_len, ln, pp]; omega), jl_at (by simp only [jl_len, ln, pp]; omega) (by simp only [jl_len, ln, pp]; omega), jl_at (by simp only [jl_len, ln, pp]; omega) (by simp only [jl_len, ln, pp]; omega), jl_at (by simp only [jl_len, ln, pp]; omega) (by simp only [jl_len, ln, pp]; omega)]
  have m0 : d'.m (pp d.n f 0) = (pp (d.n + 1) g 2) := by rw [e _ (by unfold pp; omega), if_neg (by unfold pp; omega), if_neg (by unfold pp; omega), if_neg (by unfold pp; omega), if_neg (by unfold pp; omega), if_neg (by unfold pp; omega), if_neg (by unfold pp; omega), if_neg (by unfold pp; omega), if_neg (by unfold pp; omega), l0]
  have m1 : d'.m (pp d.n f 1) = (pp (d.n + 1) g 1) := by rw [e _ (by unfold pp; omega), if_neg (by unfold pp; omega), if_neg (by unfold pp; omega), if_neg (by unfold pp; omega), if_neg (by unfold pp; omega), if_neg (by unfold pp; omega), if_neg (by unfold pp; omega), if_neg (by unfold pp; omega), if_neg (by unfold pp; omega), l1]
  have v2 : d'.m (pp d.n f 2) = (d.m y) := by rw [e _ (by unfold pp; omega), if_neg (by unfold pp; omega), if_neg (by unfold pp; omega), if_neg (by unfold pp; omega), if_neg (by unfold pp; omega), if_neg (by unfold pp; omega), if_pos rfl]
  have v0 : d'.m (pp (d.n + 1) g 0) = y := by rw [e _ (by unfold pp; omega), if_neg (by unfold pp; omega), if_neg (by unfold pp; omega), if_neg (by unfold pp; omega), if_neg (by unfold pp; omega), if_neg (by unfold pp; omega), if_neg (by unfold pp; omega), if_pos rfl]
  have v3 : d'.m (pp d.n f 3) = x := by rw [e _ (by unfold pp; omega), if_neg (by unfold pp; omega), if_neg (by unfold pp; omega), if_pos rfl]
  have w3 : d'.m (pp (d.n + 1) g 3) = (d.m x) := by rw [e _ (by unfold pp; omega), if_neg (by unfold pp; omega), if_pos rfl]
  have old : ∀ z, z < 4 * d.n → z ≠ x → z ≠ d.m x → z ≠ y → z ≠ d.m y → d'.m z = d.m z := fun z hz z1 z2 z3 z4 => by rw [e z (by omega), if_neg z2, if_neg (by unfold pp; omega), if_neg (by unfold pp; omega), if_neg z1, if_neg z4, if_neg (by unfold pp; omega), if_neg (by unfold pp; omega), if_neg z3, lo z hz]
  exact (show In d d' f g from ⟨K.n, hv, m0, m1⟩).edges hw hx hy xy xm v2 v0 v3 w3 old
theorem Pd.out_self0 (hd : Valid d) (K : Pd d d' f g fx fy) (hv : Valid d') (hl : d'.mt = jl (jl (pkL0 d f g) (pp (d.n + 1) g 3) (pp (d.n + 1) g 0)) (pp d.n f 2) (pp d.n f 3)) : Out d d' f g 0 1 := by
  have hw := (Valid.iff.1 hd).1
  have hw' := (Valid.iff.1 hv).1
  obtain ⟨ln, l0, l1, lo⟩ := K.l0 hd
  have e : ∀ z, z < 4 * (d.n + 2) → d'.m z = if z = (pp d.n f 3) then (pp d.n f 2) else if z = (pp d.n f 2) then (pp d.n f 3) else if z = (pp (d.n + 1) g 0) then (pp (d.n + 1) g 3) else if z = (pp (d.n + 1) g 3) then (pp (d.n + 1) g 0) else (pkL0 d f g).getD z 0 := fun z hz => by
    rw [← dg_m hw' (by rw [K.n]; exact hz), hl, jl_at (by simp only [jl_len, ln, pp]; omega) (by simp only [jl_len, ln, pp]; omega), jl_at (by simp only [jl_len, ln, pp]; omega) (by simp only [jl_len, ln, pp]; omega)]
  have m0 : d'.m (pp d.n f 0) = (pp (d.n + 1) g 2) := by rw [e _ (by unfold pp; omega), if_neg (by unfold pp; omega), if_neg (by unfold pp; omega), if_neg (by unfold pp; omega), if_neg (by unfold pp; omega), l0]
  have m1 : d'.m (pp d.n f 1) = (pp (d.n + 1) g 1) := by rw [e _ (by unfold pp; omega), if_neg (by unfold pp; omega), if_neg (by unfold pp; omega), if_neg (by unfold pp; omega), if_neg (by unfold pp; omega), l1]
  have v2 : d'.m (pp d.n f 2) = (pp d.n f 3) := by rw [e _ (by unfold pp; omega), if_neg (by unfold pp; omega), if_pos rfl]
  have v0 : d'.m (pp (d.n + 1) g 0) = (pp (d.n + 1) g 3) := by rw [e _ (by unfold pp; omega), if_neg (by unfold pp; omega), if_neg (by unfold pp; omega), if_pos rfl]
  have v3 : d'.m (pp d.n f 3) = (pp d.n f 2) := by rw [e _ (by unfold pp; omega), if_pos rfl]
  have w3 : d'.m (pp (d.n + 1) g 3) = (pp (d.n + 1) g 0) := by rw [e _ (by unfold pp; omega), if_neg (by unfold pp; omega), if_neg (by unfold pp; omega), if_neg (by unfold pp; omega), if_pos rfl]
  have old : ∀ z, z < 4 * d.n → d'.m z = d.m z := fun z hz => by rw [e z (by omega), if_neg (by unfold pp; omega), if_neg (by unfold pp; omega), if_neg (by unfold pp; omega), if_neg (by unfold pp; omega), lo z hz]
  exact (show In d d' f g from ⟨K.n, hv, m0, m1⟩).self0 v2 v0 old
theorem Pd.out_self1 (hd : Valid d) (K : Pd d d' f g fx fy) (hv : Valid d') {x : Nat} (hx : x < 4 * d.n) (hl : d'.mt = jl (jl (jl (pkL0 d f g) x (pp d.n f 3)) (pp (d.n + 1) g 3) (pp (d.n + 1) g 0)) (pp d.n f 2) (d.m x)) : Out d d' f g 0 0 := by
  have hw := (Valid.iff.1 hd).1
  have hw' := (Valid.iff.1 hv).1
  obtain ⟨ln, l0, l1, lo⟩ := K.l0 hd
  have hmx := hw.lt x hx
  have hnex := hw.ne x hx
  have e : ∀ z, z < 4 * (d.n + 2) → d'.m z = if z = (d.m x) then (pp d.n f 2) else if z = (pp d.n f 2) then (d.m x) else if z = (pp (d.n + 1) g 0) then (pp (d.n + 1) g 3) else if z = (pp (d.n + 1) g 3) then (pp (d.n + 1) g 0) else if z = (pp d.n f 3) then x else if z = x then (pp d.n f 3) else (pkL0 d f g).getD z 0 := fun z hz => by
    rw [← dg_m hw' (by rw [K.n]; exact hz), hl, jl_at (by simp only [jl_len, ln, pp]; omega) (by simp only [jl_len, ln, pp]; omega), jl_at (by simp only [jl_len, ln, pp]; omega) (by simp only [jl_len, ln, pp]; omega), jl_at (by simp only [jl_len, ln, pp]; omega) (by simp only [jl_len, ln, pp]; omega)]
  have m0 : d'.m (pp d.n f 0) = (pp (d.n + 1) g 2) := by rw [e _ (by unfold pp; omega), if_neg (by unfold pp; omega), if_neg (by unfold pp; omega), if_neg (by unfold pp; omega), if_neg (by unfold pp; omega), if_neg (by unfold pp; omega), if_neg (by unfold pp; omega), l0]
  have m1 : d'.m (pp d.n f 1) = (pp (d.n + 1) g 1) := by rw [e _ (by unfold pp; omega), if_neg (by unfold pp; omega), if_neg (by unfold pp; omega), if_neg (by unfold pp; omega), if_neg (by unfold pp; omega), if_neg (by unfold pp; omega), if_neg (by unfold pp; omega), l1]
  have v2 : d'.m (pp d.n f 2) = (d.m x) := by rw [e _ (by unfold pp; omega), if_neg (by unfold pp; omega), if_pos rfl]
  have v0 : d'.m (pp (d.n + 1) g 0) = (pp (d.n + 1) g 3) := by rw [e _ (by unfold pp; omega), if_neg (by unfold pp; omega), if_neg (by unfold pp; omega), if_pos rfl]
  have v3 : d'.m (pp d.n f 3) = x := by rw [e _ (by unfold pp; omega), if_neg (by unfold pp; omega), if_neg (by unfold pp; omega), if_neg (by unfold pp; omega), if_neg (by unfold pp; omega), if_pos rfl]
  have w3 : d'.m (pp (d.n + 1) g 3) = (pp (d.n + 1) g 0) := by rw [e _ (by unfold pp; omega), if_neg (by unfold pp; omega), if_neg (by unfold pp; omega), if_neg (by unfold pp; omega), if_pos rfl]
  have old : ∀ z, z < 4 * d.n → z ≠ x → z ≠ d.m x → d'.m z = d.m z := fun z hz z1 z2 => by rw [e z (by omega), if_neg z2, if_neg (by unfold pp; omega), if_neg (by unfold pp; omega), if_neg (by unfold pp; omega), if_neg (by unfold pp; omega), if_neg z1, lo z hz]
  exact (show In d d' f g from ⟨K.n, hv, m0, m1⟩).self1 hw hx v2 v0 v3 old
theorem Pd.out_self2 (hd : Valid d) (K : Pd d d' f g fx fy) (hv : Valid d') {x : Nat} (hx : x < 4 * d.n) (hl : d'.mt = jl (jl (jl (pkL0 d f g) x (pp (d.n + 1) g 0)) (pp d.n f 2) (pp d.n f 3)) (pp (d.n + 1) g 3) (d.m x)) : Out d d' f g 0 0 := by
  have hw := (Valid.iff.1 hd).1
  have hw' := (Valid.iff.1 hv).1
  obtain ⟨ln, l0, l1, lo⟩ := K.l0 hd
  have hmx := hw.lt x hx
  have hnex := hw.ne x hx
  have e : ∀ z, z < 4 * (d.n + 2) → d'.m z = if z = (d.m x) then (pp (d.n + 1) g 3) else if z = (pp (d.n + 1) g 3) then (d.m x) else if z = (pp d.n f 3) then (pp d.n f 2) else if z = (pp d.n f 2) then (pp d.n f 3) else if z = (pp (d.n + 1) g 0) then x else if z = x then (pp (d.n + 1) g 0) else (pkL0 d f g).getD z 0 := fun z hz => by
    rw [← dg_m hw' (by rw [K.n]; exact hz), hl, jl_at (by simp only [jl_len, ln, pp]; omega) (by simp only [jl_len, ln, pp]; omega), jl_at (by simp only [jl_len, ln, pp]; omega) (by simp only [jl_len, ln, pp]; omega), jl_at (by simp only [jl_len, ln, pp]; omega) (by simp only [jl_len, ln, pp]; omega)]
  have m0 : d'.m (pp d.n f 0) = (pp (d.n + 1) g 2) := by rw [e _ (by unfold pp; omega), if_neg (by unfold pp; omega), if_neg (by unfold pp; omega), if_neg (by unfold pp; omega), if_neg (by unfold pp; omega), if_neg (by unfold pp; omega), if_neg (by unfold pp; omega), l0]
  have m1 : d'.m (pp d.n f 1) = (pp (d.n + 1) g 1) := by rw [e _ (by unfold pp; omega), if_neg (by unfold pp; omega), if_neg (by unfold pp; omega), if_neg (by unfold pp; omega), if_neg (by unfold pp; omega), if_neg (by unfold pp; omega), if_neg (by unfold pp; omega), l1]
  have v2 : d'.m (pp d.n f 2) = (pp d.n f 3) := by rw [e _ (by unfold pp; omega), if_neg (by unfold pp; omega), if_neg (by unfold pp; omega), if_neg (by unfold pp; omega), if_pos rfl]
  have v0 : d'.m (pp (d.n + 1) g 0) = x := by rw [e _ (by unfold pp; omega), if_neg (by unfold pp; omega), if_neg (by unfold pp; omega), if_neg (by unfold pp; omega), if_neg (by unfold pp; omega), if_pos rfl]
  have v3 : d'.m (pp d.n f 3) = (pp d.n f 2) := by rw [e _ (by unfold pp; omega), if_neg (by unfold pp; omega), if_neg (by unfold pp; omega), if_pos rfl]
  have w3 : d'.m (pp (d.n + 1) g 3) = (d.m x) := by rw [e _ (by unfold pp; omega), if_neg (by unfold pp; omega), if_pos rfl]
  have old : ∀ z, z < 4 * d.n → z ≠ x → z ≠ d.m x → d'.m z = d.m z := fun z hz z1 z2 => by rw [e z (by omega), if_neg z2, if_neg (by unfold pp; omega), if_neg (by unfold pp; omega), if_neg (by unfold pp; omega), if_neg (by unfold pp; omega), if_neg z1, lo z hz]
  exact (show In d d' f g from ⟨K.n, hv, m0, m1⟩).self2 hw hx v2 v0 w3 old
end
end Go.Proofs.Ytghdiolnonejaaa.Pl
end

section
namespace Go.Proofs.Ytghdiolnonejaaa
open Go Go.RowKit
theorem apC_zero {d : Pl.Dg} {m : Mv} (h : apC d m = 0) : (1 ≤ m.kind ∧ m.kind ≤ 5) ∧ inR d.n m ∧
    (if m.kind = 1 then curlableC d m.x else if m.kind = 2 then uncC d m.x.toNat else if m.kind = 3 then pkQ d m.x m.y m.sign else if m.kind = 4 then unpC d m.x.toNat m.y.toNat else sldC d m.x.toNat) = 0 := by
  unfold apC at h
  by_cases hk : m.kind < 1 ∨ 5 < m.kind
  · rw [if_pos hk] at h; exact absurd h (by decide)
  · rw [if_neg hk] at h
    by_cases hv : Pl.vb (inR d.n m) = false
    · rw [if_pos hv] at h; exact absurd h (by decide)
    · rw [if_neg hv] at h
      exact ⟨by omega, Pl.vb_iff.1 (by simpa using hv), h⟩
/-- Curl. -/
theorem crl_ok {d : Pl.Dg} (hd : Pl.Valid d) {x s : Int} {ov : Bool} (hx : -1 ≤ x ∧ x < 4 * d.n) (hs : s = 1 ∨ s = -1) (h : curlableC d x = 0) : Pl.Valid (crl d x s ov) ∧ Pl.Same d (crl d x s ov) := by
  unfold curlableC at h
  obtain ⟨a1, a2, a3, a4, n1, n2, n3, n4, n5, n6⟩ := (kq d.n s ov hs).bd
  have hl := hd.wf.len
  by_cases hx0 : x < 0
  · rw [if_pos hx0] at h
    have hlp : ¬ d.lp = 0 := fun e => by rw [if_pos e] at h; exact absurd h (by decide)
    rw [if_neg hlp] at h
    have hn : d.n + 1 ≤ 64 := Nat.le_of_not_lt fun e => by unfold fullC at h; rw [if_pos e] at h; exact absurd h (by decide)
    have hv := crl_loop hd (x := x) (ov := ov) hs hn hx0
    have hm := crl_mloop hd.wf (x := x) (ov := ov) hs hx0
    refine ⟨hv, Pl.Kd.same0 hd hv (crl_kd hd.wf hs hn ?_ ?_) (fun h hh => ?_) ?_ ?_⟩
    · rw [hm, if_neg (Ne.symm n1), if_neg n5, if_neg n4, if_pos rfl]
    · rw [hm, if_neg (Ne.symm n2), if_neg n6, if_pos rfl]
    · rw [hm, if_neg (by omega), if_neg (by omega), if_neg (by omega), if_neg (by omega), app_m (by omega)]; rfl
    · rw [hm, if_pos rfl]
    · show d.lp = (if x < 0 then d.lp - 1 else d.lp) + 1
      rw [if_pos hx0]; omega
  · rw [if_neg hx0] at h
    obtain ⟨k, rfl⟩ := Int.eq_ofNat_of_zero_le (Int.not_lt.1 hx0)
    have hk : k < 4 * d.n := by omega
    rw [Int.toNat_natCast] at h
    by_cases ho : Pl.out d k = true
    · rw [if_pos ho] at h
      have hn : d.n + 1 ≤ 64 := Nat.le_of_not_lt fun e => by unfold fullC at h; rw [if_pos e] at h; exact absurd h (by decide)
      have hv := crl_edge hd (ov := ov) hs hn hk ho
      have hy := hd.wf.lt k hk
      have hne := hd.wf.ne k hk
      have e : (crl d (k : Int) s ov).mt = jn (jn (jn (d.mt ++ List.replicate 4 0) (kO0 d.n s ov) (kI1 d.n s ov)) (kO1 d.n s ov) (d.m k)) k (kI0 d.n s ov) := by
        unfold crl; simp only [if_neg (show ¬ ((k : Int) < 0) by omega), Int.toNat_natCast]
      have hm : ∀ z, (crl d (k : Int) s ov).m z = if z = kI0 d.n s ov then k else if z = k then kI0 d.n s ov else if z = d.m k then kO1 d.n s ov else if z = kO1 d.n s ov then d.m k else if z = kI1 d.n s ov then kO0 d.n s ov else if z = kO0 d.n s ov then kI1 d.n s ov else (d.mt ++ List.replicate 4 0).getD z z := fun z => by
        show (crl d (k : Int) s ov).mt.getD z z = _
        rw [e, jn_m _ _ _ _ _ (by rw [jn_len, jn_len]; simp; omega) (by rw [jn_len, jn_len]; simp; omega), jn_m _ _ _ _ _ (by rw [jn_len]; simp; omega) (by rw [jn_len]; simp; omega), jn_m _ _ _ _ _ (by simp; omega) (by simp; omega)]
      refine ⟨hv, Pl.Kd.same hd hv (crl_kd hd.wf hs hn ?_ ?_) hk (fun h hh h1 h2 => ?_) ?_ ?_ ?_ ?_ ?_⟩
      · rw [hm, if_neg (Ne.symm n1), if_neg (by omega), if_neg (by omega), if_neg n5, if_neg n4, if_pos rfl]
      · rw [hm, if_neg (Ne.symm n2), if_neg (by omega), if_neg (by omega), if_neg n6, if_pos rfl]
      · rw [hm, if_neg (by omega), if_neg h1, if_neg h2, if_neg (by omega), if_neg (by omega), if_neg (by omega), app_m (by omega)]; rfl
      · rw [hm, if_neg (Ne.symm n3), if_neg (by omega), if_neg (by omega), if_pos rfl]
      · rw [hm, if_neg (by omega), if_neg hne, if_pos rfl]
      · rw [hm, if_neg (by omega), if_pos rfl]
      · rw [hm, if_pos rfl]
      · show d.lp = if (k : Int) < 0 then d.lp - 1 else d.lp
        rw [if_neg (by omega)]
    · rw [if_neg ho] at h; exact absurd h (by decide)
theorem kk_div (d : Pl.Dg) (c : Nat) : kk d c / 4 = c := by unfold kk; split <;> (try split) <;> omega
theorem jn_jl (l : List Nat) (a b : Nat) : jn l a b = Pl.jl l a b := rfl
/-- Uncurl. -/
theorem unD_ok {d : Pl.Dg} (hd : Pl.Valid d) {c : Nat} (hc : c < d.n) (h : uncC d c = 0) : Pl.Valid (unD d c) ∧ Pl.Same d (unD d c) := by
  have hw := hd.wf
  have ho := kk_lt hc
  have hod := kk_div d c
  unfold uncC at h
  by_cases hk : d.m (kk d c) / 4 = c
  · rw [if_pos hk] at h
    have hk2 : d.m (kk d c) / 4 = kk d c / 4 := by rw [hod, hk]
    unfold unD unM
    by_cases hn : d.m (kA d c) = kB d c
    · rw [if_pos hn] at h
      have hl : d.lp + 1 ≤ 64 := Nat.le_of_not_lt fun e => by rw [if_pos e] at h; exact absurd h (by decide)
      rw [if_pos hn, if_pos hn]
      have v := Pl.kink_valid0 hd ho hk2 hn hl
      have s := Pl.kink_same0 hd ho hk2 hn hl rfl
      rw [hod] at v s
      exact ⟨v, s⟩
    · rw [if_neg hn, if_neg hn]
      have hA := kA_lt hc
      have hB := kB_lt hw hc
      have nAB : d.m (kA d c) ≠ d.m (kB d c) := fun e => hw.ne _ ho (Pl.tn_inj (hw.bij.inj _ _ hA hB e).symm)
      have hmt : ∀ z, z < 4 * d.n → (jn d.mt (d.m (kA d c)) (d.m (kB d c))).getD z 0 = if z = d.m (kA d c) then d.m (kB d c) else if z = d.m (kB d c) then d.m (kA d c) else d.m z := fun z hz => by
        rw [jn_jl, Pl.jl_at (by rw [hw.len]; exact hw.lt _ hA) (by rw [hw.len]; exact hw.lt _ hB), Pl.dg_m hw hz]
        by_cases z1 : z = d.m (kB d c)
        · rw [if_pos z1, if_neg (fun e => nAB (e.symm.trans z1)), if_pos z1]
        · rw [if_neg z1, if_neg z1]
      have v := Pl.kink_valid hd ho hk2 hn hw.lp hmt
      have s := Pl.kink_same hd ho hk2 hn hw.lp rfl hmt
      rw [hod] at v s
      exact ⟨v, s⟩
  · rw [if_neg hk] at h; exact absurd h (by decide)
/-- The lens that find finds. -/
theorem lens_lens {d : Pl.Dg} (hd : Pl.Wf d) {x y i : Nat} (hxy : x < y) (hy : y < d.n) (h : lensI d x y = some i) :
    Pl.Lens d (lnH x y i) (d.m (lnH x y i)) ∧ ((x = lnH x y i / 4 ∧ y = d.m (lnH x y i) / 4) ∨ (x = d.m (lnH x y i) / 4 ∧ y = lnH x y i / 4)) ∧ Pl.nx d (lnH x y i) = Pl.tn (d.m (lnH x y i)) 3 ∧ d.m (Pl.tn (d.m (lnH x y i)) 3) = Pl.tn (lnH x y i) 1 := by
  obtain ⟨h1, h2, h3⟩ := lens_is h
  have hi := lens_lt h
  have hl : lnH x y i < 4 * d.n := by unfold lnH; split <;> omega
  have hu := hd.lt _ hl
  have e1 : d.m (Pl.tn (d.m (lnH x y i)) 3) = Pl.tn (lnH x y i) 1 := by
    unfold Pl.nx at h2
    unfold Pl.tn at h2 ⊢
    omega
  have e2 : Pl.nx d (lnH x y i) / 4 = d.m (lnH x y i) / 4 := by unfold Pl.nx; rw [Pl.tn_div]
  have e3 : lnH x y i / 4 = if i < 4 then x else y := by unfold lnH; split <;> omega
  rw [e2] at h1
  unfold lnO at h1
  have hp : (x = lnH x y i / 4 ∧ y = d.m (lnH x y i) / 4) ∨ (x = d.m (lnH x y i) / 4 ∧ y = lnH x y i / 4) := by
    by_cases h4 : i < 4
    · rw [if_pos h4] at h1 e3; exact .inl ⟨e3.symm, h1.symm⟩
    · rw [if_neg h4] at h1 e3; exact .inr ⟨h1.symm, e3.symm⟩
  refine ⟨⟨hl, rfl, by rw [← e1, hd.inv _ (Pl.tn_lt hu)], fun e => ?_⟩, hp, rfl, e1⟩
  rcases hp with ⟨a, b⟩ | ⟨a, b⟩ <;> omega
theorem unp_at {d : Pl.Dg} (hd : Pl.Valid d) {h u : Nat} (L : Pl.Lens d h u) (l : Ln) (e2 : l.p2 = Pl.tn h 2) (e3 : l.p3 = Pl.tn h 3) (f0 : l.q0 = Pl.tn u 2) (f3 : l.q3 = Pl.tn u 1) :
    unpL d l = d.lp + (if d.m (Pl.tn h 2) = Pl.tn u 2 then 1 else 0) + (if Pl.lA d h u (Pl.tn h 3) = Pl.tn u 1 then 1 else 0) ∧
    ∀ z, z < 4 * d.n → z / 4 ≠ h / 4 → z / 4 ≠ u / 4 → (unpB d l).getD z 0 = Pl.lB d h u z := by
  have hw := hd.wf
  have hh := L.hh
  have hu := L.hu hw
  have A := L.la hd
  have E := L.ne
  have hA : Pl.tn h 2 < 4 * d.n := Pl.tn_lt hh
  have hB : Pl.tn u 2 < 4 * d.n := Pl.tn_lt hu
  have h3 : Pl.tn h 3 < 4 * d.n := Pl.tn_lt hh
  have u1 : Pl.tn u 1 < 4 * d.n := Pl.tn_lt hu
  have al : ∀ z, z < 4 * d.n → z ≠ Pl.tn h 2 → z ≠ Pl.tn u 2 → (unpA d l).getD z 0 = Pl.lA d h u z := fun z hz z1 z2 => by
    unfold unpA
    rw [e2, f0, Pl.dg_m hw hA, Pl.dg_m hw hB]
    by_cases c : d.m (Pl.tn h 2) = Pl.tn u 2
    · rw [if_pos c, Pl.Lens.lA_c c, Pl.dg_m hw hz]
    · rw [if_neg c, jn_jl, Pl.jl_at (by rw [hw.len]; exact hw.lt _ hA) (by rw [hw.len]; exact hw.lt _ hB), Pl.dg_m hw hz]
      obtain ⟨b1, b2, b3⟩ := L.lA_e hw c
      by_cases z4 : z = d.m (Pl.tn u 2)
      · rw [if_pos z4, z4, b2]
      · rw [if_neg z4]
        by_cases z3 : z = d.m (Pl.tn h 2)
        · rw [if_pos z3, z3, b1]
        · rw [if_neg z3, b3 z z1 z2 z3 z4]
  have alen : (unpA d l).length = 4 * d.n := by unfold unpA; split <;> simp [jn_len, hw.len]
  have a3 := al (Pl.tn h 3) h3 (Pl.tn_ne (by omega)) (Pl.pm E)
  have a1 := al (Pl.tn u 1) u1 (Ne.symm (Pl.pm E)) (Pl.tn_ne (by omega))
  constructor
  · unfold unpL
    rw [e2, f0, e3, f3, Pl.dg_m hw hA, a3]
  · intro z hz n1 n2
    have z0 : ∀ k, z ≠ Pl.tn h k := fun k e => n1 (by rw [e, Pl.tn_div])
    have z1 : ∀ k, z ≠ Pl.tn u k := fun k e => n2 (by rw [e, Pl.tn_div])
    unfold unpB
    rw [e3, f3, a3, a1]
    by_cases c : Pl.lA d h u (Pl.tn h 3) = Pl.tn u 1
    · rw [if_pos c, Pl.Lens.lB_c c, al z hz (z0 2) (z1 2)]
    · rw [if_neg c, jn_jl, Pl.jl_at (by rw [alen]; exact A.hm.ab.maps _ h3) (by rw [alen]; exact A.hm.ab.maps _ u1), al z hz (z0 2) (z1 2)]
      obtain ⟨b1, b2, b3⟩ := L.lB_e hd c
      by_cases z4 : z = Pl.lA d h u (Pl.tn u 1)
      · rw [if_pos z4, z4, b2]
      · rw [if_neg z4]
        by_cases z3 : z = Pl.lA d h u (Pl.tn h 3)
        · rw [if_pos z3, z3, b1]
        · rw [if_neg z3, b3 z (z0 3) (z1 1) z3 z4]
/-- Unpoke. -/
theorem unpD_ok {d : Pl.Dg} (hd : Pl.Valid d) {x y : Nat} (hxy : x < y) (hy : y < d.n) (h : unpC d x y = 0) : Pl.Valid (unpD d x y) ∧ Pl.Same d (unpD d x y) := by
  unfold unpC at h
  unfold unpD
  cases hL : lensI d x y with
  | none => rw [hL] at h; exact absurd (show (6 : Int) = 0 from h) (by decide)
  | some i =>
    rw [hL] at h
    have h' : (if 64 < unpL d (lensOf d (lnH x y i)) then (5 : Int) else 0) = 0 := h
    have hl : unpL d (lensOf d (lnH x y i)) ≤ 64 := Nat.le_of_not_lt fun e => by rw [if_pos e] at h'; exact absurd h' (by decide)
    obtain ⟨L, hp, e1, e2⟩ := lens_lens hd.wf hxy hy hL
    obtain ⟨g1, g2⟩ := unp_at hd L (lensOf d (lnH x y i)) rfl (by show Pl.tn (d.m (Pl.nx d (lnH x y i))) 2 = _; rw [e1, e2]; exact Pl.tn12 _) rfl (by show Pl.tn (Pl.nx d (lnH x y i)) 2 = _; rw [e1]; exact Pl.tn32 _)
    have hmt : ∀ z, Pl.stay d [x, y] z → (unpB d (lensOf d (lnH x y i))).getD z 0 = Pl.lB d (lnH x y i) (d.m (lnH x y i)) z := fun z hz => by
      have hz2 : ¬ (z / 4 = x ∨ z / 4 = y) := by have := hz.2; simpa using this
      refine g2 z hz.1 ?_ ?_ <;> rcases hp with ⟨a, b⟩ | ⟨a, b⟩ <;> omega
    exact ⟨L.valid hd hxy hp hl hmt, L.same hd hxy hp hl g1 hmt⟩
theorem sldD_ok {d : Pl.Dg} (hd : Pl.Valid d) {h : Nat} (hh : h < 4 * d.n) (hi : is3 d h) : Pl.Valid (sldD d h) ∧ Pl.Same d (sldD d h) :=
  have hw := (Pl.Valid.iff.1 hd).1
  ⟨sld_valid hd hh hi, (tr_of hh hi).same hd rfl rfl (sF_len hw h 3) (sld_m hw hh hi)⟩
end Go.Proofs.Ytghdiolnonejaaa
end

section
namespace Go.Proofs.Ytghdiolnonejaaa
open Go Go.RowKit
theorem fwd_nat (d : Pl.Dg) (x : Nat) : fwd d (x : Int) = Pl.out d x := by
  unfold fwd
  rw [if_neg (by omega), if_pos (by omega), Int.toNat_natCast]
theorem plc_pp (n s t : Nat) (h : s ≤ 4) : plc n s t = Pl.pp n (4 - s) t := by unfold plc Pl.pp; omega
theorem unS_le (d : Pl.Dg) (x y : Int) (ov : Bool) : un0 d x y ov ≤ 4 ∧ un1 d x y ov ≤ 4 := by
  unfold un0 un1 lnS th0 th1
  cases ov <;> cases fwd d x <;> cases fwd d y <;> decide
def pkF (d : Pl.Dg) (x y : Int) (ov : Bool) : Nat := 4 - un0 d x y ov
def pkG (d : Pl.Dg) (x y : Int) (ov : Bool) : Nat := 4 - un1 d x y ov
theorem pP_pp (d : Pl.Dg) (x y : Int) (ov : Bool) (t : Nat) : pP d x y ov t = Pl.pp d.n (pkF d x y ov) t := plc_pp _ _ _ (unS_le d x y ov).1
theorem pQ_pp (d : Pl.Dg) (x y : Int) (ov : Bool) (t : Nat) : pQ d x y ov t = Pl.pp (d.n + 1) (pkG d x y ov) t := plc_pp _ _ _ (unS_le d x y ov).2
theorem pk0_l0 (d : Pl.Dg) (x y : Int) (ov : Bool) : pk0 d x y ov = Pl.pkL0 d (pkF d x y ov) (pkG d x y ov) := by
  unfold pk0 Pl.pkL0
  rw [pP_pp, pQ_pp, pQ_pp, pP_pp]
  rfl
theorem app_s0 (l : List Int) (a b : Int) (c : Nat) (h : c < l.length) : (l ++ [a, b]).getD c 0 = l.getD c 0 := by
  rw [List.getD_eq_getElem?_getD, List.getD_eq_getElem?_getD, List.getElem?_append_left h]
theorem app_s1 (l : List Int) (a b : Int) : (l ++ [a, b]).getD l.length 0 = a := by
  rw [List.getD_eq_getElem?_getD, List.getElem?_append_right (Nat.le_refl _)]; simp
theorem app_s2 (l : List Int) (a b : Int) : (l ++ [a, b]).getD (l.length + 1) 0 = b := by
  rw [List.getD_eq_getElem?_getD, List.getElem?_append_right (by omega)]; simp
theorem out_pp (d : Pl.Dg) (n f t : Nat) : Pl.out d (Pl.pp n f t) = ((t + f) % 4 == 2 || ((t + f) % 4 == 1 && d.s n == 1) || ((t + f) % 4 == 3 && d.s n == -1)) := by
  unfold Pl.out
  rw [show Pl.pp n f t % 4 = (t + f) % 4 by unfold Pl.pp; omega, show Pl.pp n f t / 4 = n by unfold Pl.pp; omega]
theorem pk_pd {d : Pl.Dg} (hd : Pl.Valid d) (x y sg : Int) (ov : Bool) (hn : d.n + 2 ≤ 64) (hl : (pkL d x y sg).toNat ≤ 64) : Pl.Pd d (pkD d x y sg ov) (pkF d x y ov) (pkG d x y ov) (fwd d x) (fwd d y) := by
  have s0 : (pkD d x y sg ov).s d.n = sgn2 (un0 d x y ov) (ov0 d x y ov) := app_s1 _ _ _
  have s1 : (pkD d x y sg ov).s (d.n + 1) = sgn2 (un1 d x y ov) (ov1 d x y ov) := app_s2 _ _ _
  refine ⟨hn, by unfold Pl.Dg.n pkD; simp, hl, fun c hc => app_s0 _ _ _ _ hc, by rw [s0]; unfold sgn2; split <;> simp, by rw [s1]; unfold sgn2; split <;> simp, ?_, ?_, ?_, ?_, ?_, ?_, ?_, ?_⟩
  all_goals
    rw [out_pp]
    first
      | rw [s0]
      | rw [s1]
    try unfold pkF
    try unfold pkG
    try unfold sgn2
    try unfold un0
    try unfold un1
    try unfold ov0
    try unfold ov1
    try unfold lnS
    try unfold th0
    try unfold th1
    try unfold plc
    cases ov <;> cases fwd d x <;> cases fwd d y <;> decide
theorem pk_ok {d : Pl.Dg} (hd : Pl.Valid d) {x y sg : Int} {ov : Bool} (hin : inR d.n ⟨3, x, y, sg, ov⟩) (h : pkQ d x y sg = 0) : Pl.Valid (pkD d x y sg ov) ∧ Pl.Same d (pkD d x y sg ov) ∧
    ∃ c1 c2, Pl.Out d (pkD d x y sg ov) (pkF d x y ov) (pkG d x y ov) c1 c2 ∧ d.lp = (pkD d x y sg ov).lp + c1 + c2 := by
  have hw := hd.wf
  have hlp := hw.lp
  unfold inR at hin
  simp only at hin
  rw [if_neg (by decide), if_neg (by decide), if_neg (by decide), if_neg (by decide)] at hin
  obtain ⟨x1, x2, y1, y2, hs⟩ := hin
  unfold pkQ at h
  have hneed : ¬ d.lp < needP x y sg := fun e => by rw [if_pos e] at h; exact absurd h (by decide)
  rw [if_neg hneed] at h
  have hnear : ¬ Pl.vb (0 ≤ x ∧ 0 ≤ y ∧ x ≠ y ∧ ¬ nearP d x.toNat y.toNat) = true := fun e => by rw [if_pos e] at h; exact absurd h (by decide)
  rw [if_neg hnear] at h
  have hn : d.n + 2 ≤ 64 := Nat.le_of_not_lt fun e => by rw [if_pos e] at h; exact absurd h (by decide)
  rw [Pl.vb_iff] at hnear
  unfold needP at hneed
  have mt : (pkD d x y sg ov).mt = pkM d x y sg ov := rfl
  have lpe : (pkD d x y sg ov).lp = (pkL d x y sg).toNat := rfl
  by_cases hs0 : sg = 0
  · subst hs0
    have eM : pkM d x y 0 ov = leadM d (leadM d (pk0 d x y ov) y (pQ d x y ov 0) (pP d x y ov 2)) x (pP d x y ov 3) (pQ d x y ov 3) := by
      unfold pkM; rw [if_neg (by simp), if_neg (by decide), if_neg (by decide)]
    rw [eM, pk0_l0, pQ_pp, pP_pp, pP_pp, pQ_pp] at mt
    by_cases hx : x < 0 <;> by_cases hy : y < 0
    · rw [if_pos hx, if_pos ⟨hy, rfl⟩] at hneed
      have eL : (pkL d x y 0).toNat = d.lp - 2 := by unfold pkL; simp [hx, hy]; try omega
      have K := pk_pd hd x y 0 ov hn (by rw [eL]; omega)
      have mt' := mt
      unfold leadM at mt'
      rw [if_pos hx, if_pos hy] at mt'
      have Y := K.yloop hd
      have v := Y.1.xloop hd K mt'
      have O := K.out_loops hd v mt'
      exact ⟨v, O.same hd v (by rw [lpe, eL]; omega), 1, 1, O, by rw [lpe, eL]; omega⟩
    · obtain ⟨k, rfl⟩ := Int.eq_ofNat_of_zero_le (Int.not_lt.1 hy)
      have hk : k < 4 * d.n := by omega
      rw [if_pos hx, if_neg (fun e => hy e.1)] at hneed
      have eL : (pkL d x (k : Int) 0).toNat = d.lp - 1 := by unfold pkL; simp [hx, hy]; try omega
      have K := pk_pd hd x (k : Int) 0 ov hn (by rw [eL]; omega)
      have mt' := mt
      unfold leadM at mt'
      rw [if_pos hx, if_neg hy, Int.toNat_natCast] at mt'
      obtain ⟨b, Y, _⟩ := K.yedge hd hk (fwd_nat d k).symm
      have v := Y.xloop hd K mt'
      have O := K.out_yedge hd v hk mt'
      exact ⟨v, O.same hd v (by rw [lpe, eL]; omega), 0, 1, O, by rw [lpe, eL]; omega⟩
    · obtain ⟨k, rfl⟩ := Int.eq_ofNat_of_zero_le (Int.not_lt.1 hx)
      have hk : k < 4 * d.n := by omega
      rw [if_neg hx, if_pos ⟨hy, rfl⟩] at hneed
      have eL : (pkL d (k : Int) y 0).toNat = d.lp - 1 := by unfold pkL; simp [hx, hy]; try omega
      have K := pk_pd hd (k : Int) y 0 ov hn (by rw [eL]; omega)
      have mt' := mt
      unfold leadM at mt'
      rw [if_neg hx, if_pos hy, Int.toNat_natCast] at mt'
      have Y := K.yloop hd
      have v := Y.1.xedge0 hd K Y.2 hk (fwd_nat d k).symm mt'
      have O := K.out_xedge hd v hk mt'
      exact ⟨v, O.same hd v (by rw [lpe, eL]; omega), 1, 0, O, by rw [lpe, eL]; omega⟩
    · obtain ⟨k, rfl⟩ := Int.eq_ofNat_of_zero_le (Int.not_lt.1 hx)
      obtain ⟨j, rfl⟩ := Int.eq_ofNat_of_zero_le (Int.not_lt.1 hy)
      have hk : k < 4 * d.n := by omega
      have hj : j < 4 * d.n := by omega
      have hne : (k : Int) ≠ (j : Int) := fun e => by rw [if_neg (fun n => n e), if_neg hx] at hs; omega
      have hkj : k ≠ j := fun e => hne (by rw [e])
      have near : nearP d k j := Classical.byContradiction fun e => hnear ⟨by omega, by omega, hne, by rw [Int.toNat_natCast, Int.toNat_natCast]; exact e⟩
      have eL : (pkL d (k : Int) (j : Int) 0).toNat = d.lp := by unfold pkL; simp [hx, hy]
      have K := pk_pd hd (k : Int) (j : Int) 0 ov hn (by rw [eL]; omega)
      have mt' := mt
      unfold leadM at mt'
      rw [if_neg hx, if_neg hy, Int.toNat_natCast, Int.toNat_natCast] at mt'
      have v := K.edges hd hk hj (fwd_nat d k).symm (fwd_nat d j).symm hkj near.2 near.1 mt'
      have O := K.out_edges hd v hk hj hkj near.2 mt'
      exact ⟨v, O.same hd v (by rw [lpe, eL]; omega), 0, 0, O, by rw [lpe, eL]; omega⟩
  · have hxy : x = y := Classical.byContradiction fun e => hs0 (by rw [if_pos e] at hs; exact hs)
    subst hxy
    rw [if_neg (by simp)] at hs
    by_cases hx : x < 0
    · rw [if_pos hx] at hs
      have eM : pkM d x x sg ov = jn (jn (pk0 d x x ov) (pQ d x x ov 3) (pQ d x x ov 0)) (pP d x x ov 2) (pP d x x ov 3) := by unfold pkM; rw [if_pos ⟨hs0, hx⟩]
      rw [eM, pk0_l0, pQ_pp, pQ_pp, pP_pp, pP_pp] at mt
      rw [if_pos hx, if_neg (fun e => hs0 e.2)] at hneed
      have eL : (pkL d x x sg).toNat = d.lp - 1 := by unfold pkL; rw [if_pos ⟨hs0, hx⟩]; omega
      have K := pk_pd hd x x sg ov hn (by rw [eL]; omega)
      have v := K.self0 hd mt
      have O := K.out_self0 hd v mt
      exact ⟨v, O.same hd v (by rw [lpe, eL]; omega), 0, 1, O, by rw [lpe, eL]; omega⟩
    · rw [if_neg hx] at hs
      obtain ⟨k, rfl⟩ := Int.eq_ofNat_of_zero_le (Int.not_lt.1 hx)
      have hk : k < 4 * d.n := by omega
      have eL : (pkL d (k : Int) (k : Int) sg).toNat = d.lp := by unfold pkL; rw [if_neg (fun e => hx e.2), if_neg hs0]; omega
      have K := pk_pd hd (k : Int) (k : Int) sg ov hn (by rw [eL]; omega)
      rcases hs with rfl | rfl
      · have eM : pkM d (k : Int) (k : Int) 1 ov = jn (jn (jn (pk0 d (k : Int) (k : Int) ov) k (pP d (k : Int) (k : Int) ov 3)) (pQ d (k : Int) (k : Int) ov 3) (pQ d (k : Int) (k : Int) ov 0)) (pP d (k : Int) (k : Int) ov 2) (d.m k) := by
          unfold pkM; rw [if_neg (fun e => hx e.2), if_pos rfl, Int.toNat_natCast]
        rw [eM, pk0_l0, pQ_pp, pQ_pp, pP_pp, pP_pp] at mt
        have v := K.self1 hd hk (fwd_nat d k).symm mt
        have O := K.out_self1 hd v hk mt
        exact ⟨v, O.same hd v (by rw [lpe, eL]; omega), 0, 0, O, by rw [lpe, eL]; omega⟩
      · have eM : pkM d (k : Int) (k : Int) (-1) ov = jn (jn (jn (pk0 d (k : Int) (k : Int) ov) k (pQ d (k : Int) (k : Int) ov 0)) (pP d (k : Int) (k : Int) ov 2) (pP d (k : Int) (k : Int) ov 3)) (pQ d (k : Int) (k : Int) ov 3) (d.m k) := by
          unfold pkM; rw [if_neg (fun e => hx e.2), if_neg (by decide), if_pos rfl, Int.toNat_natCast]
        rw [eM, pk0_l0, pQ_pp, pQ_pp, pP_pp, pP_pp] at mt
        have v := K.self2 hd hk (fwd_nat d k).symm mt
        have O := K.out_self2 hd v hk mt
        exact ⟨v, O.same hd v (by rw [lpe, eL]; omega), 0, 0, O, by rw [lpe, eL]; omega⟩
/-- Every move that is applied keeps a diagram valid, and the number of components. -/
theorem ap_ok {d : Pl.Dg} (hd : Pl.Valid d) {m : Mv} (h : apC d m = 0) : Pl.Valid (apD d m) ∧ Pl.Same d (apD d m) := by
  obtain ⟨hk, hin, hc⟩ := apC_zero h
  obtain ⟨k, x, y, s, o⟩ := m
  simp only at hk hc
  have hk5 : k = 1 ∨ k = 2 ∨ k = 3 ∨ k = 4 ∨ k = 5 := by omega
  rcases hk5 with rfl | rfl | rfl | rfl | rfl
  · have hb : (-1 ≤ x ∧ x < 4 * d.n) ∧ (s = 1 ∨ s = -1) := by unfold inR at hin; simp at hin; exact ⟨⟨hin.1, hin.2.1⟩, hin.2.2.2⟩
    exact crl_ok hd hb.1 hb.2 hc
  · obtain ⟨c, rfl⟩ := Int.eq_ofNat_of_zero_le (show 0 ≤ x by unfold inR at hin; simp at hin; omega)
    have hcn : c < d.n := by unfold inR at hin; simp at hin; omega
    exact unD_ok hd hcn hc
  · have := pk_ok hd hin hc
    exact ⟨this.1, this.2.1⟩
  · obtain ⟨a, rfl⟩ := Int.eq_ofNat_of_zero_le (show 0 ≤ x by unfold inR at hin; simp at hin; omega)
    obtain ⟨b, rfl⟩ := Int.eq_ofNat_of_zero_le (show 0 ≤ y by unfold inR at hin; simp at hin; omega)
    have hab : a < b ∧ b < d.n := by unfold inR at hin; simp at hin; omega
    exact unpD_ok hd hab.1 hab.2 hc
  · obtain ⟨c, rfl⟩ := Int.eq_ofNat_of_zero_le (show 0 ≤ x by unfold inR at hin; simp at hin; omega)
    have hcn : c < 4 * d.n := by unfold inR at hin; simp at hin; omega
    have hc' : sldC d c = 0 := hc
    have ht : isT d c := Classical.byContradiction fun e => by unfold sldC at hc'; rw [if_neg e] at hc'; exact absurd hc' (by decide)
    exact sldD_ok hd hcn ht.1
end Go.Proofs.Ytghdiolnonejaaa
end

section
namespace Go.Proofs.Ytghdiolnonejaaa
open Go Go.ChangeShapes Go.WideShapes Go.ChangeAt Go.RowKit Go.Deep
theorem u8_of {a : Int} (h : (Lit.int .u8 a).wf = true) : 0 ≤ a ∧ a < 256 := by
  simp only [Lit.wf, Bool.and_eq_true, decide_eq_true_eq] at h
  have h1 : (IntKind.u8.min : Int) = 0 := by rfl
  have h2 : (IntKind.u8.max : Int) = 255 := by rfl
  rw [h1, h2] at h
  omega
end Go.Proofs.Ytghdiolnonejaaa
end
