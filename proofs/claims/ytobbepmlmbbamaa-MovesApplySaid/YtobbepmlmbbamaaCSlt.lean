/-
 The text Slt.
-/
import Derived.Test.YtobbepmlmbbamaaB00
import Derived.Test.YtobbepmlmbbamaaB01
import Derived.Test.YtobbepmlmbbamaaB05
set_option linter.unusedVariables false
set_option linter.unusedSimpArgs false
section
namespace Go.Proofs.Ytobbepmlmbbamaa.Pl
section
variable {S:Nat → Prop} {r a t:Nat → Nat} {h0 h1 h2 p0 p1 p2 u0 u1 u2 v0 v1 v2:Nat}
theorem perm_flip:[u0,u1,u2,v0,v1,v2,h0,h1,h2,p0,p1,p2].Perm [h0,h1,h2,p0,p1,p2,u0,u1,u2,v0,v1,v2] :=
 List.perm_append_comm (l₁ := [u0,u1,u2,v0,v1,v2]) (l₂ := [h0,h1,h2,p0,p1,p2])
theorem Tri.flip (T:Tri S r a t h0 h1 h2 p0 p1 p2 u0 u1 u2 v0 v1 v2):Tri S r (cj t a) t u0 u1 u2 v0 v1 v2 h0 h1 h2 p0 p1 p2 := by
 refine ⟨fun x hx => T.mem x (perm_flip.mem_iff.1 hx),T.rp0,T.rp1,T.rp2,T.rh0,T.rh1,T.rh2,T.rv0,T.rv1,T.rv2,T.ru0,T.ru1,T.ru2,?_,?_,?_,?_,?_,?_,?_,T.th0,T.th1,T.th2,T.tv1,T.tv2,T.tv0,T.tp0,T.tp1,T.tp2,T.tu2,T.tu0,T.tu1,fun x hx => T.tx x (fun h => hx (perm_flip.mem_iff.2 h))⟩
 ·unfold cj; rw [T.tu0,T.ap1,T.th0]
 ·unfold cj; rw [T.tu1,T.ap2,T.th1]
 ·unfold cj; rw [T.tu2,T.ap0,T.th2]
 ·unfold cj; rw [T.tv1,T.ah0,T.tp1]
 ·unfold cj; rw [T.tv2,T.ah1,T.tp2]
 ·unfold cj; rw [T.tv0,T.ah2,T.tp0]
 ·exact perm_flip.nodup_iff.2 T.nd
end
structure Sj (N:Nat) (m f:Nat → Nat) (Ou In:Nat → Prop):Prop where
 lt:∀ x,x < N → m x < N
 inv:∀ x,x < N → m (m x) = x
 fl:∀ x,x < N → f x < N
 ff:∀ x,f (f x) = x
 fO:∀ x,Ou x → In (f x)
 fx:∀ x,¬ Ou x → ¬ In x → f x = x
 fI:∀ x,In x → Ou (f x)
 mI:∀ x,In x → In (m x)
 no:∀ x,Ou x → ¬ In x
variable {N:Nat} {m f:Nat → Nat} {Ou In:Nat → Prop}
theorem Sj.far (h:Sj N m f Ou In) {u:Nat} (hu:u < N) (ho:Ou u) (hm:¬ Ou (m u)):f (m u) = m u :=
 h.fx _ hm (fun hi => h.no u ho (by have := h.mI _ hi; rwa [h.inv u hu] at this))
theorem Sj.step (h:Sj N m f Ou In) {l:List Nat} {k:Nat} (hl:Half N m (cj f m) (fun x => ∃ u,u < k ∧ Ou u ∧ (x = f u ∨ x = f (m u))) l) (hk:k < N) (ho:Ou k) :
 Half N m (cj f m) (fun x => ∃ u,u < k + 1 ∧ Ou u ∧ (x = f u ∨ x = f (m u))) ((l.set (f k) (f (m k))).set (f (m k)) (f k)) := by
 refine (hl.join (h.fl _ hk) (h.fl _ (h.lt _ hk)) (by unfold cj; rw [h.ff]) (by unfold cj; rw [h.ff,h.inv k hk])).mono ?_
 rintro x ⟨u,hu,hou,hx⟩
 by_cases e:u = k
 ·subst e
  exact hx.elim (fun h => .inr (.inl h)) (fun h => .inr (.inr h))
 ·exact .inl ⟨u,by omega,hou,hx⟩
theorem Sj.skip {l:List Nat} {k:Nat} (hl:Half N m (cj f m) (fun x => ∃ u,u < k ∧ Ou u ∧ (x = f u ∨ x = f (m u))) l) (ho:¬ Ou k) :
 Half N m (cj f m) (fun x => ∃ u,u < k + 1 ∧ Ou u ∧ (x = f u ∨ x = f (m u))) l := by
 refine hl.mono ?_
 rintro x ⟨u,hu,hou,hx⟩
 by_cases e:u = k
 ·subst e; exact absurd hou ho
 ·exact ⟨u,by omega,hou,hx⟩
theorem Sj.all (h:Sj N m f Ou In) {l:List Nat} {W:Nat → Prop} (hl:Half N m (cj f m) W l) (hw:∀ u,u < N → Ou u → W (f u) ∧ W (f (m u)) ∧ W u):∀ x,x < N → l.getD x 0 = cj f m x := by
 refine hl.all (fun x hx => ?_)
 by_cases h1:Ou x
 ·exact .inl (hw x hx h1).2.2
 ·by_cases h2:In x
  ·have:=(hw (f x) (h.fl x hx) (h.fI x h2)).1
   rw [h.ff] at this
   exact .inl this
  ·have e:=h.fx x h1 h2
   by_cases h3:Ou (m x)
   ·have:=(hw (m x) (h.lt x hx) h3).2.1
    rw [h.inv x hx,e] at this
    exact .inl this
   ·have h4:¬ In (m x):=fun hi => h2 (by have := h.mI _ hi; rwa [h.inv x hx] at this)
    refine .inr ?_
    unfold cj
    rw [e,h.fx _ h3 h4]
end Go.Proofs.Ytobbepmlmbbamaa.Pl
end
