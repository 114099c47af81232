/-
 The text Xg.
-/
import Derived.Test.YtobbepmlmbbamaaCXf
set_option linter.unusedVariables false
set_option linter.unusedSimpArgs false
section
namespace Go.Proofs.Ytobbepmlmbbamaa
open Go Go.RowKit
theorem valid_empty {l:Nat} (h:l ≤ 64):Pl.Valid ⟨[],[],l⟩ :=
 ⟨⟨Nat.zero_le 64,rfl,h,fun c hc => absurd hc (Nat.not_lt_zero _),fun c hc => absurd hc (by show ¬ c < 4 * 0; omega),fun c hc => absurd hc (by show ¬ c < 4 * 0; omega),fun c hc => absurd hc (by show ¬ c < 4 * 0; omega),fun c hc => absurd hc (by show ¬ c < 4 * 0; omega)⟩,fun c hc => absurd hc (Nat.not_lt_zero _)⟩
def two:Pl.Dg := ⟨[-1,1],[6,5,4,7,2,1,0,3],0⟩
theorem two_is:pkD ⟨[],[],2⟩ (-1) (-1) 0 false = two := by rfl
theorem least_two {f:Nat → Nat} {h:Nat} (e:f (f h) = h):Pl.Least f h ↔ h ≤ f h := by
 have key:∀ k,Pl.it f k h = h ∨ Pl.it f k h = f h:=by
  intro k
  induction k with
  | zero => exact .inl rfl
  | succ k ih =>
    show f (Pl.it f k h) = h ∨ f (Pl.it f k h) = f h
    rcases ih with ih | ih <;> rw [ih]
    ·exact .inr rfl
    ·exact .inl e
 constructor
 ·intro hl; exact hl 1
 ·intro hl k
  rcases key k with h1 | h1 <;> rw [h1]
  ·omega
  ·exact hl
theorem all_lt {p:Nat → Prop} [DecidablePred p] {n:Nat} (h:∀ k:Fin n,p k):∀ k,k < n → p k := fun k hk => h ⟨k,hk⟩
theorem two_wf:Pl.Wf two := by
 refine ⟨by decide,by decide,by decide,all_lt (n := 2) (p := fun c => two.s c = 1 ∨ two.s c = -1) (by decide),all_lt (n := 8) (p := fun c => two.m c < 4 * two.n) (by decide),all_lt (n := 8) (p := fun c => two.m c ≠ c) (by decide),all_lt (n := 8) (p := fun c => two.m (two.m c) = c) (by decide),all_lt (n := 8) (p := fun c => Pl.out two c ≠ Pl.out two (two.m c)) (by decide)⟩
theorem two_con:Pl.Comp two 0 1 ∧ Pl.Comp two 1 0 := by
 unfold Pl.Comp
 refine ⟨?_,?_⟩
 ·have h1:Pl.Con Pl.rot two.m 0 (Pl.rot (Pl.rot 0)):=.left (.left .refl)
  exact Pl.Con.right h1
 ·have h1:Pl.Con Pl.rot two.m 4 (Pl.rot (Pl.rot (two.m 4))):=.left (.left (.right .refl))
  exact h1
theorem two_valid:Pl.Valid two := by
 refine ⟨two_wf,fun c hc => ?_⟩
 have hc2:c = 0 ∨ c = 1:=by have:c < 2 := hc; omega
 have cc:∀ b,b < 2 → Pl.Comp two c b:=fun b hb => by
  have hb2:b = 0 ∨ b = 1:=by omega
  rcases hc2 with rfl | rfl <;> rcases hb2 with rfl | rfl
  ·exact .refl
  ·exact two_con.1
  ·exact two_con.2
  ·exact .refl
 have e1:Pl.cnt (fun b => Pl.Comp two c b) two.n = 2:=by
  show Pl.cnt _ 2 = 2
  rw [Pl.cnt_step_pos (cc 1 (by omega)),Pl.cnt_step_pos (cc 0 (by omega))]; rfl
 have le:∀ h,h < 8 → (Pl.Least (Pl.nx two) h ∧ Pl.Comp two c (h / 4) ↔ h ≤ Pl.nx two h):=fun h hh => by
  have e:Pl.nx two (Pl.nx two h) = h:=all_lt (n := 8) (p := fun h => Pl.nx two (Pl.nx two h) = h) (by decide) h hh
  rw [least_two e]
  exact ⟨fun h => h.1,fun h1 => ⟨h1,cc _ (by omega)⟩⟩
 have e2:Pl.cnt (fun h => Pl.Least (Pl.nx two) h ∧ Pl.Comp two c (h / 4)) (4 * two.n) = 4:=by
  show Pl.cnt _ 8 = 4
  rw [Pl.cnt_congr (q := fun h => h ≤ Pl.nx two h) 8 le]
  rw [Pl.cnt_step_neg (by decide),Pl.cnt_step_neg (by decide),Pl.cnt_step_neg (by decide),Pl.cnt_step_neg (by decide),Pl.cnt_step_pos (by decide),Pl.cnt_step_pos (by decide),Pl.cnt_step_pos (by decide),Pl.cnt_step_pos (by decide)]
  rfl
 rw [e1,e2]
theorem two_unp:unpC two 0 1 = 0 ∧ unpD two 0 1 = ⟨[],[],2⟩ ∧ (unpI two 0 1).kind = 3 := by
 refine ⟨by rfl,by rfl,by rfl⟩
end Go.Proofs.Ytobbepmlmbbamaa
end
