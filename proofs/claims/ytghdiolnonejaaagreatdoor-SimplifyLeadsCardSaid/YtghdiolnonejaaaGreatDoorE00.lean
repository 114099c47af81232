/-
 The texts Cls, Orb, Gen, Dg, Mem, Wa, Q, Vf, Lab, Row, Grow, Wd, Can, Iso, Pcs, Va, Num, We, Wf, Reg, Wo.
-/
import Derived.BigQuiet
import Derived.Deep.DrawnRows
import Derived.Deep.Light
import Derived.Deep.LoopGhost
import Derived.Deep.QuietTactic
import Derived.Deep.RegionHeld3
import Derived.Deep.RegionWith
import Derived.Laws.AppendOwn
import Derived.Laws.MakeOwn
import Derived.Laws.OwnMore
import Derived.Laws.Rows
import Derived.Shelf.Spec.SlicesGrow
import Derived.StillTailTactics
import Derived.Test.YtghdiolnonejaaaGreatDoorRows
import Derived.Test.YtghdiolnonejaaaGreatDoorShelf
import Derived.WalkKit
import Derived.WalkLawsBesides
import Derived.WalkSpells
set_option linter.unusedVariables false
set_option linter.unusedSimpArgs false
section
namespace Go.Proofs.YtghdiolnonejaaaGreatDoor.Pl
def Cls (S:Nat → Prop) (R:Nat → Nat → Prop) (k:Nat):Prop :=
 ∃ r:Nat → Nat,(∀ h,S h → r h < k) ∧ (∀ h g,S h → S g → (r h = r g ↔ R h g)) ∧ (∀ i,i < k → ∃ h,S h ∧ r h = i)
theorem pigeon:∀ (k k':Nat) (f:Nat → Nat),(∀ i,i < k → f i < k') → (∀ i j,i < k → j < k → f i = f j → i = j) → k ≤ k'
 | 0,_,_,_,_ => Nat.zero_le _
 | k + 1,0,f,h,_ => absurd (h 0 (by omega)) (by omega)
 | k + 1, k' + 1, f, h, hi => by
   -- send k' to the image of k
   have:=pigeon k k' (fun i => if f i = k' then f k else f i) (fun i hik => by
    have h1:=h i (by omega)
    have h2:=h k (by omega)
    by_cases e:f i = k'
    ·simp only [e,if_true]
     have:f k ≠ k':=fun e2 => by have := hi i k (by omega) (by omega) (by rw [e,e2]); omega
     omega
    ·simp only [e,if_false]; omega) (fun i j hik hjk hij => by
    by_cases e:f i = k' <;> by_cases e2:f j = k'
    ·exact hi i j (by omega) (by omega) (by rw [e,e2])
    ·simp only [e,e2,if_true,if_false] at hij
     have:=hi k j (by omega) (by omega) hij; omega
    ·simp only [e,e2,if_true,if_false] at hij
     have:=hi i k (by omega) (by omega) hij; omega
    ·simp only [e,e2,if_false] at hij
     exact hi i j (by omega) (by omega) hij)
   omega
theorem Cls.le {S S':Nat → Prop} {R R':Nat → Nat → Prop} {k k':Nat} (h:Cls S R k) (h':Cls S' R' k') (t:Nat → Nat) (hs:∀ x,S x → S' (t x)) (hr:∀ x y,S x → S y → R' (t x) (t y) → R x y):k ≤ k' := by
 obtain ⟨r,r1,r2,r3⟩:=h
 obtain ⟨q,q1,q2,q3⟩:=h'
 have hw:∀ i:Nat,∃ x:Nat,i < k → S x ∧ r x = i:=fun i => by
  by_cases hi:i < k
  ·obtain ⟨x,hx⟩:=r3 i hi; exact ⟨x,fun _ => hx⟩
  ·exact ⟨0,fun h => absurd h hi⟩
 refine pigeon k k' (fun i => q (t (Classical.choose (hw i)))) (fun i hi => ?_) (fun i j hi hj e => ?_)
 ·exact q1 _ (hs _ (Classical.choose_spec (hw i) hi).1)
 ·have ci:=Classical.choose_spec (hw i) hi
  have cj:=Classical.choose_spec (hw j) hj
  have:=hr _ _ ci.1 cj.1 ((q2 _ _ (hs _ ci.1) (hs _ cj.1)).1 e)
  rw [← ci.2,← cj.2]
  exact (r2 _ _ ci.1 cj.1).2 this
theorem Cls.unique {S:Nat → Prop} {R:Nat → Nat → Prop} {k k':Nat} (h:Cls S R k) (h':Cls S R k'):k = k' :=
 Nat.le_antisymm (h.le h' id (fun _ hx => hx) (fun _ _ _ _ e => e)) (h'.le h id (fun _ hx => hx) (fun _ _ _ _ e => e))
theorem Cls.congr {S S':Nat → Prop} {R R':Nat → Nat → Prop} {k:Nat} (h:Cls S R k) (hs:∀ x,S x ↔ S' x) (hr:∀ x y,S x → S y → (R x y ↔ R' x y)):Cls S' R' k := by
 obtain ⟨r,r1,r2,r3⟩:=h
 exact ⟨r,fun x hx => r1 x ((hs x).2 hx),fun x y hx hy => (r2 x y ((hs x).2 hx) ((hs y).2 hy)).trans (hr x y ((hs x).2 hx) ((hs y).2 hy)),
  fun i hi => let ⟨x,hx,e⟩:=r3 i hi; ⟨x,(hs x).1 hx,e⟩⟩
structure Eqv (S:Nat → Prop) (R:Nat → Nat → Prop):Prop where
 refl:∀ x,S x → R x x
 symm:∀ x y,S x → S y → R x y → R y x
 trans:∀ x y z,S x → S y → S z → R x y → R y z → R x z
theorem Cls.eqv {S:Nat → Prop} {R:Nat → Nat → Prop} {k:Nat} (h:Cls S R k):Eqv S R := by
 obtain ⟨r,_,r2,_⟩:=h
 exact ⟨fun x hx => (r2 x x hx hx).1 rfl,fun x y hx hy e => (r2 y x hy hx).1 ((r2 x y hx hy).2 e).symm,
  fun x y z hx hy hz e e' => (r2 x z hx hz).1 (((r2 x y hx hy).2 e).trans ((r2 y z hy hz).2 e'))⟩
theorem Cls.pos {S:Nat → Prop} {R:Nat → Nat → Prop} {k:Nat} (h:Cls S R k) {a:Nat} (ha:S a):0 < k := by
 obtain ⟨r,r1,_,_⟩:=h
 have:=r1 a ha; omega
theorem Cls.empty {S:Nat → Prop} {R:Nat → Nat → Prop} (h:∀ x,¬ S x):Cls S R 0 :=
 ⟨fun _ => 0,fun x hx => absurd hx (h x),fun x _ hx => absurd hx (h x),fun i hi => absurd hi (by omega)⟩
theorem Cls.two {S:Nat → Prop} {R:Nat → Nat → Prop} {k:Nat} (h:Cls S R k) {a b:Nat} (ha:S a) (hb:S b) (hn:¬ R a b):2 ≤ k := by
 obtain ⟨r,r1,r2,_⟩:=h
 have h1:=r1 a ha
 have h2:=r1 b hb
 have h3:r a ≠ r b:=fun e => hn ((r2 a b ha hb).1 e)
 omega
def Join (R:Nat → Nat → Prop) (a b:Nat) (x y:Nat):Prop := R x y ∨ (R x a ∧ R b y) ∨ (R x b ∧ R a y)
theorem Cls.join {S:Nat → Prop} {R:Nat → Nat → Prop} {k:Nat} (h:Cls S R (k + 1)) {a b:Nat} (ha:S a) (hb:S b) (hn:¬ R a b):Cls S (Join R a b) k := by
 have hE:=h.eqv
 obtain ⟨r,r1,r2,r3⟩:=h
 have hne:r a ≠ r b:=fun e => hn ((r2 a b ha hb).1 e)
 have la:=r1 a ha
 have lb:=r1 b hb
 -- the label k is given to the class of b's number; the class of b takes the label of a
 let A := if r a = k then r b else r a
 let m:Nat → Nat := fun i => if i = r b then A else if i = k then r b else i
 have hA:A < k:=by
  show (if r a = k then r b else r a) < k
  split <;> omega
 have key:∀ x y,S x → S y → (m (r x) = m (r y) ↔ Join R a b x y):=by
  intro x y hx hy
  have ex:r x = r y ↔ R x y:=r2 x y hx hy
  have exa:r x = r a ↔ R x a:=r2 x a hx ha
  have exb:r x = r b ↔ R x b:=r2 x b hx hb
  have eya:r a = r y ↔ R a y:=r2 a y ha hy
  have eyb:r b = r y ↔ R b y:=r2 b y hb hy
  unfold Join
  rw [← ex,← exa,← exb,← eya,← eyb]
  have lx:=r1 x hx
  have ly:=r1 y hy
  show (if r x = r b then (if r a = k then r b else r a) else if r x = k then r b else r x) = (if r y = r b then (if r a = k then r b else r a) else if r y = k then r b else r y) ↔ _
  constructor
  ·intro e
   split at e <;> split at e <;> (try split at e) <;> (try split at e) <;> (try split at e) <;> omega
  ·intro e
   split <;> split <;> (try split) <;> (try split) <;> (try split) <;> omega
 refine ⟨fun x => m (r x),fun x hx => ?_,key,fun i hi => ?_⟩
 ·show (if r x = r b then A else if r x = k then r b else r x) < k
  have lx:=r1 x hx
  split
  ·exact hA
  ·split <;> omega
 ·by_cases e:i = r b
  ·obtain ⟨x,hx,ex⟩:=r3 k (by omega)
   by_cases e2:r b = k
   ·omega
   ·refine ⟨x,hx,?_⟩
    show (if r x = r b then A else if r x = k then r b else r x) = i
    rw [if_neg (by omega),if_pos ex,e]
  ·obtain ⟨x,hx,ex⟩:=r3 i (by omega)
   refine ⟨x,hx,?_⟩
   show (if r x = r b then A else if r x = k then r b else r x) = i
   rw [if_neg (by omega),if_neg (by omega),ex]
theorem Cls.exists_:∀ (N:Nat) (S:Nat → Prop) (R:Nat → Nat → Prop),(∀ x,S x → x < N) → Eqv S R → ∃ k,Cls S R k
 | 0,S,R,hN,_ => ⟨0,Cls.empty fun x hx => absurd (hN x hx) (by omega)⟩
 | N + 1, S, R, hN, hE => by
   obtain ⟨k,hk⟩:=Cls.exists_ N (fun x => S x ∧ x < N) R (fun x hx => hx.2) ⟨fun x hx => hE.refl x hx.1,fun x y hx hy => hE.symm x y hx.1 hy.1,fun x y z hx hy hz => hE.trans x y z hx.1 hy.1 hz.1⟩
   by_cases hS:S N
   ·by_cases hm:∃ x,S x ∧ x < N ∧ R N x
    ·obtain ⟨x0,s0,l0,e0⟩:=hm
     obtain ⟨r,r1,r2,r3⟩:=hk
     refine ⟨k,fun x => if x = N then r x0 else r x,fun x hx => ?_,fun x y hx hy => ?_,fun i hi => ?_⟩
     ·have:=hN x hx
      by_cases e:x = N
      ·simp only [e,if_true]; exact r1 x0 ⟨s0,l0⟩
      ·simp only [e,if_false]; exact r1 x ⟨hx,by omega⟩
     ·have lx:=hN x hx
      have ly:=hN y hy
      by_cases e:x = N <;> by_cases e2:y = N
      ·subst e; subst e2; simp only [if_true,true_iff]; exact hE.refl _ hx
      ·simp only [e,e2,if_true,if_false]
       rw [r2 x0 y ⟨s0,l0⟩ ⟨hy,by omega⟩]
       exact ⟨fun h => hE.trans _ _ _ hS s0 hy e0 h,fun h => hE.trans _ _ _ s0 hS hy (hE.symm _ _ hS s0 e0) h⟩
      ·simp only [e,e2,if_true,if_false]
       rw [r2 x x0 ⟨hx,by omega⟩ ⟨s0,l0⟩]
       exact ⟨fun h => hE.trans _ _ _ hx s0 hS h (hE.symm _ _ hS s0 e0),fun h => hE.trans _ _ _ hx hS s0 h e0⟩
      ·simp only [e,e2,if_false]
       exact r2 x y ⟨hx,by omega⟩ ⟨hy,by omega⟩
     ·obtain ⟨x,hx,ex⟩:=r3 i hi
      refine ⟨x,hx.1,?_⟩
      have:x ≠ N:=by have := hx.2; omega
      simp only [this,if_false]; exact ex
    ·obtain ⟨r,r1,r2,r3⟩:=hk
     have hno:∀ y,S y → y ≠ N → ¬ R N y:=fun y hy hne h => hm ⟨y,hy,by have := hN y hy; omega,h⟩
     refine ⟨k + 1,fun x => if x = N then k else r x,fun x hx => ?_,fun x y hx hy => ?_,fun i hi => ?_⟩
     ·have:=hN x hx
      by_cases e:x = N
      ·simp only [e,if_true]; omega
      ·simp only [e,if_false]; have := r1 x ⟨hx,by omega⟩; omega
     ·have lx:=hN x hx
      have ly:=hN y hy
      by_cases e:x = N <;> by_cases e2:y = N
      ·subst e; subst e2; simp only [if_true,true_iff]; exact hE.refl _ hx
      ·simp only [e,e2,if_true,if_false]
       have:=r1 y ⟨hy,by omega⟩
       exact ⟨fun h => absurd h (by omega),fun h => absurd h (hno y hy e2)⟩
      ·simp only [e,e2,if_true,if_false]
       have:=r1 x ⟨hx,by omega⟩
       exact ⟨fun h => absurd h (by omega),fun h => absurd (hE.symm _ _ hx hS h) (hno x hx e)⟩
      ·simp only [e,e2,if_false]
       exact r2 x y ⟨hx,by omega⟩ ⟨hy,by omega⟩
     ·by_cases e:i = k
      ·exact ⟨N,hS,by simp only [if_true]; exact e.symm⟩
      ·obtain ⟨x,hx,ex⟩:=r3 i (by omega)
       refine ⟨x,hx.1,?_⟩
       have:x ≠ N:=by have := hx.2; omega
       simp only [this,if_false]; exact ex
   ·exact ⟨k, hk.congr (fun x => ⟨fun h => h.1, fun h => ⟨h, by
     have:=hN x h
     by_cases e:x = N
     ·subst e; exact absurd h hS
     ·omega⟩⟩) (fun _ _ _ _ => Iff.rfl)⟩
theorem Cls.add {S T:Nat → Prop} {R:Nat → Nat → Prop} {k l:Nat} (h:Cls S R k) (h':Cls T R l) (hd:∀ x y,S x → T y → ¬ R x y) (hd':∀ x y,S x → T y → ¬ R y x) (hdis:∀ x,S x → ¬ T x):Cls (fun x => S x ∨ T x) R (k + l) := by
 obtain ⟨r,r1,r2,r3⟩:=h
 obtain ⟨q,q1,q2,q3⟩:=h'
 refine ⟨fun x => open Classical in if S x then r x else k + q x,fun x hx => ?_,fun x y hx hy => ?_,fun i hi => ?_⟩
 ·by_cases e:S x
  ·simp only [e,if_true]; have := r1 x e; omega
  ·simp only [e,if_false]; have := q1 x (hx.resolve_left e); omega
 ·by_cases e:S x <;> by_cases e2:S y
  ·simp only [e,e2,if_true]; exact r2 x y e e2
  ·simp only [e,e2,if_true,if_false]
   have:=r1 x e
   exact ⟨fun h => absurd h (by omega),fun h => absurd h (hd x y e (hy.resolve_left e2))⟩
  ·simp only [e,e2,if_true,if_false]
   have:=r1 y e2
   exact ⟨fun h => absurd h (by omega),fun h => absurd h (hd' y x e2 (hx.resolve_left e))⟩
  ·simp only [e,e2,if_false]
   rw [← q2 x y (hx.resolve_left e) (hy.resolve_left e2)]; omega
 ·by_cases e:i < k
  ·obtain ⟨x,hx,ex⟩:=r3 i e
   exact ⟨x,.inl hx,by simp only [hx,if_true]; exact ex⟩
  ·obtain ⟨x,hx,ex⟩:=q3 (i - k) (by omega)
   have:¬ S x:=fun h => hdis x h hx
   exact ⟨x,.inr hx,by simp only [this,if_false]; omega⟩
theorem Cls.sub {S D:Nat → Prop} {R:Nat → Nat → Prop} {k:Nat} (h:Cls S R k) (hD:∀ x,D x → S x) (hm:∀ x,S x → ∃ y,D y ∧ R x y):Cls D R k := by
 obtain ⟨r,r1,r2,r3⟩:=h
 refine ⟨r,fun x hx => r1 x (hD x hx),fun x y hx hy => r2 x y (hD x hx) (hD y hy),fun i hi => ?_⟩
 obtain ⟨x,hx,ex⟩:=r3 i hi
 obtain ⟨y,hy,e⟩:=hm x hx
 exact ⟨y,hy,by rw [← ex]; exact ((r2 x y hx (hD y hy)).2 e).symm⟩
theorem Cls.sup {S D:Nat → Prop} {R:Nat → Nat → Prop} {k:Nat} (h:Cls D R k) (hE:Eqv S R) (hD:∀ x,D x → S x) (hm:∀ x,S x → ∃ y,D y ∧ R x y):Cls S R k := by
 obtain ⟨r,r1,r2,r3⟩:=h
 have hw:∀ x:Nat,∃ y:Nat,S x → D y ∧ R x y:=fun x => by
  by_cases hx:S x
  ·obtain ⟨y,hy⟩:=hm x hx; exact ⟨y,fun _ => hy⟩
  ·exact ⟨0,fun h => absurd h hx⟩
 refine ⟨fun x => r (Classical.choose (hw x)),fun x hx => r1 _ (Classical.choose_spec (hw x) hx).1,fun x y hx hy => ?_,fun i hi => ?_⟩
 ·have cx:=Classical.choose_spec (hw x) hx
  have cy:=Classical.choose_spec (hw y) hy
  refine (r2 _ _ cx.1 cy.1).trans ⟨fun e => ?_,fun e => ?_⟩
  ·exact hE.trans _ _ _ hx (hD _ cx.1) hy cx.2 (hE.trans _ _ _ (hD _ cx.1) (hD _ cy.1) hy e (hE.symm _ _ hy (hD _ cy.1) cy.2))
  ·exact hE.trans _ _ _ (hD _ cx.1) hx (hD _ cy.1) (hE.symm _ _ hx (hD _ cx.1) cx.2) (hE.trans _ _ _ hx hy (hD _ cy.1) e cy.2)
 ·obtain ⟨x,hx,ex⟩:=r3 i hi
  have cx:=Classical.choose_spec (hw x) (hD x hx)
  exact ⟨x,hD x hx,by rw [← ex]; exact ((r2 _ _ hx cx.1).2 cx.2).symm⟩
theorem Cls.map {S T:Nat → Prop} {R Q:Nat → Nat → Prop} {k:Nat} (h:Cls S R k) (t:Nat → Nat) (hs:∀ x,S x → T (t x)) (ht:∀ y,T y → ∃ x,S x ∧ t x = y) (hr:∀ x y,S x → S y → (R x y ↔ Q (t x) (t y))):Cls T Q k := by
 obtain ⟨r,r1,r2,r3⟩:=h
 have hw:∀ y:Nat,∃ x:Nat,T y → S x ∧ t x = y:=fun y => by
  by_cases hy:T y
  ·obtain ⟨x,hx⟩:=ht y hy; exact ⟨x,fun _ => hx⟩
  ·exact ⟨0,fun h => absurd h hy⟩
 refine ⟨fun y => r (Classical.choose (hw y)),fun y hy => r1 _ (Classical.choose_spec (hw y) hy).1,fun x y hx hy => ?_,fun i hi => ?_⟩
 ·have cx:=Classical.choose_spec (hw x) hx
  have cy:=Classical.choose_spec (hw y) hy
  rw [r2 _ _ cx.1 cy.1,hr _ _ cx.1 cy.1,cx.2,cy.2]
 ·obtain ⟨x,hx,ex⟩:=r3 i hi
  have cx:=Classical.choose_spec (hw (t x)) (hs x hx)
  refine ⟨t x,hs x hx,?_⟩
  rw [← ex]
  refine (r2 _ _ cx.1 hx).2 ((hr _ _ cx.1 hx).2 ?_)
  rw [cx.2]
  exact (hr x x hx hx).1 ((r2 x x hx hx).1 rfl)
end Go.Proofs.YtghdiolnonejaaaGreatDoor.Pl
end
section
namespace Go.Proofs.YtghdiolnonejaaaGreatDoor.Pl
def it (f:Nat → Nat):Nat → Nat → Nat
 | 0,x => x
 | k + 1,x => f (it f k x)
theorem it_add (f:Nat → Nat) (j:Nat):∀ (k x:Nat),it f (j + k) x = it f j (it f k x) := by
 induction j with
 | zero => intro k x; rw [Nat.zero_add]; rfl
 | succ j ih => intro k x; rw [Nat.succ_add]; show f (it f (j + k) x) = f (it f j (it f k x)); rw [ih]
theorem it_succ' (f:Nat → Nat) (k x:Nat):it f (k + 1) x = it f k (f x) := it_add f k 1 x
structure Bij (N:Nat) (S:Nat → Prop) (f:Nat → Nat):Prop where
 lt:∀ x,S x → x < N
 maps:∀ x,S x → S (f x)
 inj:∀ x y,S x → S y → f x = f y → x = y
variable {N:Nat} {S:Nat → Prop} {f:Nat → Nat}
theorem Bij.it (h:Bij N S f) (k:Nat):∀ x,S x → S (it f k x) := by
 induction k with
 | zero => intro x hx; exact hx
 | succ k ih => intro x hx; exact h.maps _ (ih x hx)
theorem Bij.it_inj (h:Bij N S f) (k:Nat):∀ x y,S x → S y → Pl.it f k x = Pl.it f k y → x = y := by
 induction k with
 | zero => intro x y _ _ e; exact e
 | succ k ih => intro x y hx hy e; exact ih x y hx hy (h.inj _ _ (h.it k x hx) (h.it k y hy) e)
theorem Bij.back (h:Bij N S f) {x:Nat} (hx:S x):∃ p,0 < p ∧ p ≤ N ∧ Pl.it f p x = x := by
 by_cases hc:∃ i j,i < j ∧ j ≤ N ∧ Pl.it f i x = Pl.it f j x
 ·obtain ⟨i,j,hij,hj,e⟩:=hc
  refine ⟨j - i,by omega,by omega,?_⟩
  have e2:j = i + (j - i):=by omega
  rw [e2,it_add] at e
  exact (h.it_inj i _ _ hx (h.it _ x hx) e).symm
 ·have := pigeon (N + 1) N (fun i => Pl.it f i x) (fun i _ => h.lt _ (h.it i x hx)) (fun i j hi hj e => by
   rcases Nat.lt_trichotomy i j with h1 | h1 | h1
   ·exact absurd ⟨i,j,h1,by omega,e⟩ hc
   ·exact h1
   ·exact absurd ⟨j,i,h1,by omega,e.symm⟩ hc)
  omega
def Orb (f:Nat → Nat) (x y:Nat):Prop := ∃ k,it f k x = y
theorem Orb.refl (f:Nat → Nat) (x:Nat):Orb f x x := ⟨0,rfl⟩
theorem Orb.step (f:Nat → Nat) (x:Nat):Orb f x (f x) := ⟨1,rfl⟩
theorem Orb.trans {f:Nat → Nat} {x y z:Nat} (h:Orb f x y) (h':Orb f y z):Orb f x z := by
 obtain ⟨k,rfl⟩:=h
 obtain ⟨j,rfl⟩:=h'
 exact ⟨j + k,it_add f j k x⟩
theorem Bij.orb_mem (h:Bij N S f) {x y:Nat} (hx:S x) (e:Orb f x y):S y := by
 obtain ⟨k,rfl⟩:=e
 exact h.it k x hx
theorem it_mul (f:Nat → Nat) (p x:Nat) (h:it f p x = x):∀ m,it f (m * p) x = x
 | 0 => by rw [Nat.zero_mul]; rfl
 | m + 1 => by rw [Nat.succ_mul,it_add,h,it_mul f p x h m]
theorem Bij.symm (h:Bij N S f) {x y:Nat} (hx:S x) (e:Orb f x y):Orb f y x := by
 obtain ⟨k,rfl⟩:=e
 obtain ⟨p,hp,_,e⟩:=h.back hx
 refine ⟨k * p - k,?_⟩
 rw [← it_add,show k * p - k + k = k * p from Nat.sub_add_cancel (Nat.le_mul_of_pos_right k hp),it_mul f p x e]
theorem Bij.eqv (h:Bij N S f):Eqv S (Orb f) :=
 ⟨fun x _ => Orb.refl f x,fun _ _ hx _ e => h.symm hx e,fun _ _ _ _ _ _ e e' => e.trans e'⟩
theorem orb_closed {f:Nat → Nat} {P:Nat → Prop} (hP:∀ x,P x → P (f x)) {x y:Nat} (hx:P x) (e:Orb f x y):P y := by
 obtain ⟨k,rfl⟩:=e
 induction k with
 | zero => exact hx
 | succ k ih => exact hP _ ih
theorem orb_sub {f:Nat → Nat} {R:Nat → Nat → Prop} (h:Bij N S f) (hE:Eqv S R) (hs:∀ x,S x → R x (f x)) {x y:Nat} (hx:S x) (e:Orb f x y):R x y := by
 obtain ⟨k,rfl⟩:=e
 induction k with
 | zero => exact hE.refl x hx
 | succ k ih => exact hE.trans _ _ _ hx (h.it k x hx) (h.it (k + 1) x hx) ih (hs _ (h.it k x hx))
def tr (f:Nat → Nat) (a b x:Nat):Nat := if x = a then f b else if x = b then f a else f x
theorem tr_a (f:Nat → Nat) (a b:Nat):tr f a b a = f b := by simp [tr]
theorem tr_b (f:Nat → Nat) (a b:Nat):tr f a b b = f a := by
 unfold tr
 by_cases h:b = a
 ·rw [if_pos h,h]
 ·rw [if_neg h,if_pos rfl]
theorem tr_ne {f:Nat → Nat} {a b x:Nat} (h1:x ≠ a) (h2:x ≠ b):tr f a b x = f x := by unfold tr; rw [if_neg h1,if_neg h2]
theorem tr_tr (f:Nat → Nat) (a b:Nat):tr (tr f a b) a b = f := by
 funext x
 by_cases h1:x = a
 ·subst h1; rw [tr_a,tr_b]
 ·by_cases h2:x = b
  ·subst h2; rw [tr_b,tr_a]
  ·rw [tr_ne h1 h2,tr_ne h1 h2]
theorem Bij.tr (h:Bij N S f) {a b:Nat} (ha:S a) (hb:S b):Bij N S (tr f a b) := by
 refine ⟨h.lt,fun x hx => ?_,fun x y hx hy e => ?_⟩
 ·unfold Pl.tr
  split
  ·exact h.maps b hb
  ·split
   ·exact h.maps a ha
   ·exact h.maps x hx
 ·unfold Pl.tr at e
  split at e <;> split at e <;> (try split at e) <;> (try split at e) <;>
   first
    | (have := h.inj _ _ ha hb e; omega)
    | (have := h.inj _ _ hb ha e; omega)
    | (have := h.inj _ _ ha hy e; omega)
    | (have := h.inj _ _ hb hy e; omega)
    | (have := h.inj _ _ hx ha e; omega)
    | (have := h.inj _ _ hx hb e; omega)
    | exact h.inj _ _ hx hy e
    | omega
theorem Bij.join_eqv {R:Nat → Nat → Prop} (hE:Eqv S R) {a b:Nat} (ha:S a) (hb:S b):Eqv S (Join R a b) := by
 refine ⟨fun x hx => .inl (hE.refl x hx),fun x y hx hy e => ?_,fun x y z hx hy hz e e' => ?_⟩
 ·rcases e with e | ⟨e1,e2⟩ | ⟨e1,e2⟩
  ·exact .inl (hE.symm _ _ hx hy e)
  ·exact .inr (.inr ⟨hE.symm _ _ hb hy e2,hE.symm _ _ hx ha e1⟩)
  ·exact .inr (.inl ⟨hE.symm _ _ ha hy e2,hE.symm _ _ hx hb e1⟩)
 ·rcases e with e | ⟨e1,e2⟩ | ⟨e1,e2⟩ <;> rcases e' with e' | ⟨e3,e4⟩ | ⟨e3,e4⟩
  ·exact .inl (hE.trans _ _ _ hx hy hz e e')
  ·exact .inr (.inl ⟨hE.trans _ _ _ hx hy ha e e3,e4⟩)
  ·exact .inr (.inr ⟨hE.trans _ _ _ hx hy hb e e3,e4⟩)
  ·exact .inr (.inl ⟨e1,hE.trans _ _ _ hb hy hz e2 e'⟩)
  ·exact .inr (.inl ⟨e1,e4⟩)
  ·exact .inl (hE.trans _ _ _ hx ha hz e1 e4)
  ·exact .inr (.inr ⟨e1,hE.trans _ _ _ ha hy hz e2 e'⟩)
  ·exact .inl (hE.trans _ _ _ hx hb hz e1 e4)
  ·exact .inr (.inr ⟨e1,e4⟩)
theorem Bij.run (h:Bij N S f) {a b:Nat} (hb:S b) (hn:¬ Orb f a b) (ha:S a):Orb (Pl.tr f a b) a b := by
 obtain ⟨p,hp,hle,e⟩:=h.back hb
 clear hle
 -- the least period of b
 have hmin:∃ p,0 < p ∧ Pl.it f p b = b ∧ ∀ i,0 < i → i < p → Pl.it f i b ≠ b:=by
  revert hp e
  induction p using Nat.strongRecOn with
  | _ p ih =>
    intro hp e
    by_cases hx:∃ i,0 < i ∧ i < p ∧ Pl.it f i b = b
    ·obtain ⟨i,h1,h2,h3⟩:=hx
     exact ih i h2 h1 h3
    ·exact ⟨p,hp,e,fun i h1 h2 h3 => hx ⟨i,h1,h2,h3⟩⟩
 obtain ⟨q,hq,e,hm⟩:=hmin
 have hna:∀ i,Pl.it f i b ≠ a:=fun i ei => hn (h.symm hb ⟨i,ei⟩)
 have key:∀ i,i < q → Pl.it (Pl.tr f a b) (i + 1) a = Pl.it f (i + 1) b:=by
  intro i
  induction i with
  | zero => intro _; exact tr_a f a b
  | succ i ih =>
    intro hi
    show Pl.tr f a b (Pl.it (Pl.tr f a b) (i + 1) a) = f (Pl.it f (i + 1) b)
    rw [ih (by omega),tr_ne (hna _) (hm _ (by omega) (by omega))]
 refine ⟨q,?_⟩
 have:=key (q - 1) (by omega)
 rw [show q - 1 + 1 = q by omega,e] at this
 exact this
theorem Bij.merge (h:Bij N S f) {a b:Nat} (ha:S a) (hb:S b) (hn:¬ Orb f a b) {x y:Nat} (hx:S x):Orb (Pl.tr f a b) x y ↔ Join (Orb f) a b x y := by
 have hg:=h.tr ha hb
 have gab:=h.run hb hn ha
 have gba:=hg.symm ha gab
 have fsub:∀ {x y},S x → Orb f x y → Orb (Pl.tr f a b) x y:=by
  intro x y hx e
  refine orb_sub h hg.eqv (fun z hz => ?_) hx e
  by_cases h1:z = a
  ·subst h1
   have:=gab.trans (Orb.step (Pl.tr f z b) b)
   rwa [tr_b] at this
  ·by_cases h2:z = b
   ·subst h2
    have:=gba.trans (Orb.step (Pl.tr f a z) a)
    rwa [tr_a] at this
   ·have:=Orb.step (Pl.tr f a b) z
    rwa [tr_ne h1 h2] at this
 constructor
 ·intro e
  refine orb_sub hg (Bij.join_eqv h.eqv ha hb) (fun z hz => ?_) hx e
  by_cases h1:z = a
  ·subst h1; rw [tr_a]; exact .inr (.inl ⟨Orb.refl f z,Orb.step f b⟩)
  ·by_cases h2:z = b
   ·subst h2; rw [tr_b]; exact .inr (.inr ⟨Orb.refl f z,Orb.step f a⟩)
   ·rw [tr_ne h1 h2]; exact .inl (Orb.step f z)
 ·rintro (e | ⟨e1,e2⟩ | ⟨e1,e2⟩)
  ·exact fsub hx e
  ·exact (fsub hx e1).trans (gab.trans (fsub hb e2))
  ·exact (fsub hx e1).trans (gba.trans (fsub ha e2))
theorem Bij.part (h:Bij N S f) {a b:Nat} (ha:S a) (hb:S b) (hne:a ≠ b) (ho:Orb f a b):¬ Orb (Pl.tr f a b) a b := by
 obtain ⟨k0,e0⟩:=ho
 have hmin:∃ k,Pl.it f k a = b ∧ ∀ i,i < k → Pl.it f i a ≠ b:=by
  revert e0
  induction k0 using Nat.strongRecOn with
  | _ p ih =>
    intro e
    by_cases hx:∃ i,i < p ∧ Pl.it f i a = b
    ·obtain ⟨i,h2,h3⟩:=hx
     exact ih i h2 h3
    ·exact ⟨p,e,fun i h2 h3 => hx ⟨i,h2,h3⟩⟩
 obtain ⟨k,e,hm⟩:=hmin
 have hk:0 < k:=by
  rcases Nat.eq_zero_or_pos k with h0 | h0
  ·subst h0; exact absurd e hne
  ·exact h0
 have hg:=h.tr ha hb
 intro ho
 have hba:=hg.symm ha ho
 have:∃ i,0 < i ∧ i ≤ k ∧ Pl.it f i a = a:=by
  refine orb_closed (f := Pl.tr f a b) (P := fun z => ∃ i,0 < i ∧ i ≤ k ∧ Pl.it f i a = z) (fun z hz => ?_) ⟨k,hk,Nat.le_refl _,e⟩ hba
  obtain ⟨i,h1,h2,rfl⟩:=hz
  by_cases e1:Pl.it f i a = b
  ·refine ⟨1,by omega,by omega,?_⟩
   rw [e1,tr_b]; rfl
  ·by_cases e2:Pl.it f i a = a
   ·-- then b comes earlier
    have hik:i < k:=by
     rcases Nat.lt_or_ge i k with h3 | h3
     ·exact h3
     ·have:i = k:=by omega
      subst this; exact absurd e e1
    have:Pl.it f (k - i) a = b:=by
     rw [← e]
     conv => rhs; rw [show k = (k - i) + i by omega,it_add,e2]
    exact absurd this (hm _ (by omega))
   ·have hik : i < k := by
     rcases Nat.lt_or_ge i k with h3 | h3
     ·exact h3
     ·have:i = k:=by omega
      subst this; exact absurd e e1
    exact ⟨i + 1,by omega,by omega,by rw [tr_ne e2 e1]; rfl⟩
 obtain ⟨i,h1,h2,h3⟩:=this
 have hik:i < k:=by
  rcases Nat.lt_or_ge i k with h4 | h4
  ·exact h4
  ·have:i = k:=by omega
   subst this; rw [e] at h3; exact absurd h3.symm hne
 have:Pl.it f (k - i) a = b:=by
  rw [← e]
  conv => rhs; rw [show k = (k - i) + i by omega,it_add,h3]
 exact absurd this (hm _ (by omega))
theorem Cls.merge (h:Bij N S f) {a b k:Nat} (ha:S a) (hb:S b) (hn:¬ Orb f a b) (hc:Cls S (Orb f) (k + 1)):Cls S (Orb (Pl.tr f a b)) k :=
 (hc.join ha hb hn).congr (fun _ => Iff.rfl) (fun _ _ hx _ => (h.merge ha hb hn hx).symm)
theorem Cls.part (h:Bij N S f) {a b k:Nat} (ha:S a) (hb:S b) (hne:a ≠ b) (ho:Orb f a b) (hc:Cls S (Orb f) k):Cls S (Orb (Pl.tr f a b)) (k + 1) := by
 have hg:=h.tr ha hb
 have hn:=h.part ha hb hne ho
 obtain ⟨l,hl⟩:=Cls.exists_ N S (Orb (Pl.tr f a b)) h.lt hg.eqv
 have h2:=hl.two ha hb hn
 obtain ⟨l,rfl⟩:∃ j,l = j + 1 := ⟨l - 1,by omega⟩
 have:=Cls.merge hg ha hb hn hl
 rw [tr_tr] at this
 rw [hc.unique this]
 exact hl
end Go.Proofs.YtghdiolnonejaaaGreatDoor.Pl
end
section
namespace Go.Proofs.YtghdiolnonejaaaGreatDoor.Pl
inductive Con (f g:Nat → Nat) (x:Nat):Nat → Prop
 | refl:Con f g x x
 | left {y:Nat}:Con f g x y → Con f g x (f y)
 | right {y:Nat}:Con f g x y → Con f g x (g y)
theorem Con.trans {f g:Nat → Nat} {x y z:Nat} (h:Con f g x y) (h':Con f g y z):Con f g x z := by
 induction h' with
 | refl => exact h
 | left _ ih => exact ih.left
 | right _ ih => exact ih.right
theorem orb_con_left {f:Nat → Nat} (g:Nat → Nat) {x y:Nat} (h:Orb f x y):Con f g x y := by
 obtain ⟨k,rfl⟩:=h
 induction k with
 | zero => exact .refl
 | succ k ih => exact ih.left
theorem orb_con_right (f:Nat → Nat) {g:Nat → Nat} {x y:Nat} (h:Orb g x y):Con f g x y := by
 obtain ⟨k,rfl⟩:=h
 induction k with
 | zero => exact .refl
 | succ k ih => exact ih.right
structure Hm (N:Nat) (S:Nat → Prop) (r a:Nat → Nat):Prop where
 rb:Bij N S r
 ab:Bij N S a
 inv:∀ x,S x → a (a x) = x
variable {N:Nat} {S:Nat → Prop} {r a:Nat → Nat}
def phi (r a:Nat → Nat) (x:Nat):Nat := r (a x)
theorem Hm.pb (h:Hm N S r a):Bij N S (phi r a) :=
 ⟨h.rb.lt,fun x hx => h.rb.maps _ (h.ab.maps x hx),fun x y hx hy e => h.ab.inj _ _ hx hy (h.rb.inj _ _ (h.ab.maps x hx) (h.ab.maps y hy) e)⟩
theorem Hm.con_mem (h:Hm N S r a) {x y:Nat} (hx:S x) (e:Con r a x y):S y := by
 induction e with
 | refl => exact hx
 | left _ ih => exact h.rb.maps _ ih
 | right _ ih => exact h.ab.maps _ ih
theorem Hm.con_symm (h:Hm N S r a) {x y:Nat} (hx:S x) (e:Con r a x y):Con r a y x := by
 induction e with
 | refl => exact .refl
 | left e' ih => exact (orb_con_left a (h.rb.symm (h.con_mem hx e') (Orb.step r _))).trans ih
 | right e' ih => exact (orb_con_right r (h.ab.symm (h.con_mem hx e') (Orb.step a _))).trans ih
theorem Hm.ceqv (h:Hm N S r a):Eqv S (Con r a) :=
 ⟨fun _ _ => .refl,fun _ _ hx _ e => h.con_symm hx e,fun _ _ _ _ _ _ e e' => e.trans e'⟩
theorem orb_phi_con {x y:Nat} (e:Orb (phi r a) x y):Con r a x y := by
 obtain ⟨k,rfl⟩:=e
 induction k with
 | zero => exact .refl
 | succ k ih => exact ih.right.left
theorem con_sub (h:Hm N S r a) {R:Nat → Nat → Prop} (hE:Eqv S R) (h1:∀ x,S x → R x (r x)) (h2:∀ x,S x → R x (a x)) {x y:Nat} (hx:S x) (e:Con r a x y):R x y := by
 induction e with
 | refl => exact hE.refl x hx
 | left e' ih => exact hE.trans _ _ _ hx (h.con_mem hx e') (h.rb.maps _ (h.con_mem hx e')) ih (h1 _ (h.con_mem hx e'))
 | right e' ih => exact hE.trans _ _ _ hx (h.con_mem hx e') (h.ab.maps _ (h.con_mem hx e')) ih (h2 _ (h.con_mem hx e'))
def Gen (S:Nat → Prop) (r a:Nat → Nat) (z:Int):Prop :=
 ∃ v d k f c:Nat,Cls S (Orb r) v ∧ Cls S Eq d ∧ Cls S (Orb a) k ∧ Cls S (Orb (phi r a)) f ∧ Cls S (Con r a) c ∧ z = 2 * (c:Int) - v + d - k - f
theorem Gen.unique {z z':Int} (h:Gen S r a z) (h':Gen S r a z'):z = z' := by
 obtain ⟨v,d,k,f,c,h1,h2,h3,h4,h5,rfl⟩:=h
 obtain ⟨v',d',k',f',c',g1,g2,g3,g4,g5,rfl⟩:=h'
 rw [h1.unique g1,h2.unique g2,h3.unique g3,h4.unique g4,h5.unique g5]
theorem Hm.gen (h:Hm N S r a):∃ z,Gen S r a z := by
 obtain ⟨v,h1⟩:=Cls.exists_ N S _ h.rb.lt h.rb.eqv
 obtain ⟨d,h2⟩:=Cls.exists_ N S Eq h.rb.lt ⟨fun _ _ => rfl,fun _ _ _ _ e => e.symm,fun _ _ _ _ _ _ e e' => e.trans e'⟩
 obtain ⟨k,h3⟩:=Cls.exists_ N S _ h.ab.lt h.ab.eqv
 obtain ⟨f,h4⟩:=Cls.exists_ N S _ h.pb.lt h.pb.eqv
 obtain ⟨c,h5⟩:=Cls.exists_ N S _ h.rb.lt h.ceqv
 exact ⟨_,v,d,k,f,c,h1,h2,h3,h4,h5,rfl⟩
theorem phi_tr (r a:Nat → Nat) (x y:Nat):phi r (tr a x y) = tr (phi r a) x y := by
 funext z
 unfold phi tr
 split
 ·rfl
 ·split <;> rfl
theorem free_orb {x y:Nat} (fx:a x = x) (e:Orb a x y):y = x :=
 orb_closed (P := fun z => z = x) (fun z hz => by rw [hz]; exact fx) rfl e
theorem Hm.tr (h:Hm N S r a) {x y:Nat} (hx:S x) (hy:S y) (fx:a x = x) (fy:a y = y):Hm N S r (Pl.tr a x y) := by
 refine ⟨h.rb,h.ab.tr hx hy,fun z hz => ?_⟩
 by_cases h1:z = x
 ·subst h1; rw [tr_a,fy,tr_b,fx]
 ·by_cases h2:z = y
  ·subst h2; rw [tr_b,fx,tr_a,fy]
  ·rw [tr_ne h1 h2]
   have e:=h.inv z hz
   have n1:a z ≠ x:=fun e1 => h1 (by rw [← e,e1,fx])
   have n2:a z ≠ y:=fun e1 => h2 (by rw [← e,e1,fy])
   rw [tr_ne n1 n2,e]
theorem Hm.con_tr (h:Hm N S r a) {x y:Nat} (hx:S x) (hy:S y) (fx:a x = x) (fy:a y = y) {u v:Nat} (hu:S u):Con r (Pl.tr a x y) u v ↔ Join (Con r a) x y u v := by
 have hg:=h.tr hx hy fx fy
 have exy:Con r (Pl.tr a x y) x y:=by
  have:=(Con.refl (f := r) (g := Pl.tr a x y) (x := x)).right
  rwa [tr_a,fy] at this
 have eyx:=hg.con_symm hx exy
 have sub:∀ {u v},S u → Con r a u v → Con r (Pl.tr a x y) u v:=by
  intro u v hu e
  refine con_sub h hg.ceqv (fun z _ => (Con.refl).left) (fun z hz => ?_) hu e
  by_cases h1:z = x
  ·subst h1; rw [fx]; exact .refl
  ·by_cases h2:z = y
   ·subst h2; rw [fy]; exact .refl
   ·have:=(Con.refl (f := r) (g := Pl.tr a x y) (x := z)).right
    rwa [tr_ne h1 h2] at this
 constructor
 ·intro e
  refine con_sub hg (Bij.join_eqv h.ceqv hx hy) (fun z _ => .inl (Con.refl).left) (fun z hz => ?_) hu e
  by_cases h1:z = x
  ·subst h1; rw [tr_a,fy]; exact .inr (.inl ⟨.refl,.refl⟩)
  ·by_cases h2:z = y
   ·subst h2; rw [tr_b,fx]; exact .inr (.inr ⟨.refl,.refl⟩)
   ·rw [tr_ne h1 h2]; exact .inl (Con.refl).right
 ·rintro (e | ⟨e1,e2⟩ | ⟨e1,e2⟩)
  ·exact sub hu e
  ·exact (sub hu e1).trans (exy.trans (sub hy e2))
  ·exact (sub hu e1).trans (eyx.trans (sub hx e2))
theorem join_same {R:Nat → Nat → Prop} (hE:Eqv S R) {x y:Nat} (hx:S x) (hy:S y) (e:R x y) {u v:Nat} (hu:S u) (hv:S v):Join R x y u v ↔ R u v := by
 constructor
 ·rintro (e0 | ⟨e1,e2⟩ | ⟨e1,e2⟩)
  ·exact e0
  ·exact hE.trans _ _ _ hu hx hv e1 (hE.trans _ _ _ hx hy hv e e2)
  ·exact hE.trans _ _ _ hu hy hv e1 (hE.trans _ _ _ hy hx hv (hE.symm _ _ hx hy e) e2)
 ·exact .inl
theorem Gen.within (h:Hm N S r a) {x y:Nat} {z:Int} (hx:S x) (hy:S y) (hne:x ≠ y) (fx:a x = x) (fy:a y = y) (ho:Orb (phi r a) x y) (hz:Gen S r a z):Gen S r (tr a x y) z := by
 obtain ⟨v,d,k,f,c,h1,h2,h3,h4,h5,rfl⟩:=hz
 have hn:¬ Orb a x y:=fun e => hne (free_orb fx e).symm
 have h3':2 ≤ k:=h3.two hx hy hn
 obtain ⟨k,rfl⟩:∃ j,k = j + 1 := ⟨k - 1,by omega⟩
 refine ⟨v,d,k,f + 1,c,h1,h2,Cls.merge h.ab hx hy hn h3,?_,h5.congr (fun _ => Iff.rfl) (fun u v hu hv => ?_),by omega⟩
 ·rw [phi_tr]; exact Cls.part h.pb hx hy hne ho h4
 ·rw [h.con_tr hx hy fx fy hu]
  exact (join_same h.ceqv hx hy (orb_phi_con ho) hu hv).symm
theorem Gen.between (h:Hm N S r a) {x y:Nat} {z:Int} (hx:S x) (hy:S y) (fx:a x = x) (fy:a y = y) (hc:¬ Con r a x y) (hz:Gen S r a z):Gen S r (tr a x y) z := by
 obtain ⟨v,d,k,f,c,h1,h2,h3,h4,h5,rfl⟩:=hz
 have hne:x ≠ y:=fun e => hc (e ▸ .refl)
 have hn:¬ Orb a x y:=fun e => hne (free_orb fx e).symm
 have ho:¬ Orb (phi r a) x y:=fun e => hc (orb_phi_con e)
 have h3':2 ≤ k:=h3.two hx hy hn
 have h4':2 ≤ f:=h4.two hx hy ho
 have h5':2 ≤ c:=h5.two hx hy hc
 obtain ⟨k,rfl⟩:∃ j,k = j + 1 := ⟨k - 1,by omega⟩
 obtain ⟨f,rfl⟩:∃ j,f = j + 1 := ⟨f - 1,by omega⟩
 obtain ⟨c,rfl⟩:∃ j,c = j + 1 := ⟨c - 1,by omega⟩
 refine ⟨v,d,k,f,c,h1,h2,Cls.merge h.ab hx hy hn h3,?_,(h5.join hx hy hc).congr (fun _ => Iff.rfl) (fun u v hu _ => (h.con_tr hx hy fx fy hu).symm),by omega⟩
 rw [phi_tr]; exact Cls.merge h.pb hx hy ho h4
theorem Gen.handle (h:Hm N S r a) {x y:Nat} {z:Int} (hx:S x) (hy:S y) (fx:a x = x) (fy:a y = y) (ho:¬ Orb (phi r a) x y) (hc:Con r a x y) (hz:Gen S r a z):Gen S r (tr a x y) (z + 2) := by
 obtain ⟨v,d,k,f,c,h1,h2,h3,h4,h5,rfl⟩:=hz
 have hne:x ≠ y:=fun e => ho (e ▸ Orb.refl _ _)
 have hn:¬ Orb a x y:=fun e => hne (free_orb fx e).symm
 have h3':2 ≤ k:=h3.two hx hy hn
 have h4':2 ≤ f:=h4.two hx hy ho
 obtain ⟨k,rfl⟩:∃ j,k = j + 1 := ⟨k - 1,by omega⟩
 obtain ⟨f,rfl⟩:∃ j,f = j + 1 := ⟨f - 1,by omega⟩
 refine ⟨v,d,k,f,c,h1,h2,Cls.merge h.ab hx hy hn h3,?_,h5.congr (fun _ => Iff.rfl) (fun u v hu hv => ?_),by omega⟩
 ·rw [phi_tr]; exact Cls.merge h.pb hx hy ho h4
 ·rw [h.con_tr hx hy fx fy hu]
  exact (join_same h.ceqv hx hy hc hu hv).symm
theorem Hm.cut (h:Hm N S r a) {x:Nat} (hx:S x) (hne:a x ≠ x):Hm N S r (Pl.tr a x (a x)) ∧ Pl.tr a x (a x) x = x ∧ Pl.tr a x (a x) (a x) = a x := by
 have hy:=h.ab.maps x hx
 have e:=h.inv x hx
 have e1:Pl.tr a x (a x) x = x:=by rw [tr_a,e]
 have e2:Pl.tr a x (a x) (a x) = a x:=by rw [tr_b]
 refine ⟨⟨h.rb,h.ab.tr hx hy,fun z hz => ?_⟩,e1,e2⟩
 by_cases h1:z = x
 ·subst h1; rw [e1,e1]
 ·by_cases h2:z = a x
  ·rw [h2,e2,e2]
  ·rw [tr_ne h1 h2]
   have ez:=h.inv z hz
   have n1:a z ≠ x:=fun e3 => h2 (by rw [← ez,e3])
   have n2:a z ≠ a x:=fun e3 => h1 (h.ab.inj _ _ hz hx e3)
   rw [tr_ne n1 n2,ez]
noncomputable def edged (a:Nat → Nat) (S:Nat → Prop):Nat → Nat
 | 0 => 0
 | m + 1 => edged a S m + (open Classical in if S m ∧ a m ≠ m then 1 else 0)
theorem edged_le {a b:Nat → Nat} {S:Nat → Prop} (h:∀ x,S x → b x ≠ x → a x ≠ x):∀ m,edged b S m ≤ edged a S m
 | 0 => Nat.le_refl _
 | m + 1 => by
   have:=edged_le h m
   unfold edged
   by_cases h1:S m ∧ b m ≠ m
   ·rw [if_pos h1,if_pos ⟨h1.1,h m h1.1 h1.2⟩]; omega
   ·rw [if_neg h1]; omega
theorem edged_lt {a b:Nat → Nat} {S:Nat → Prop} (h:∀ x,S x → b x ≠ x → a x ≠ x) {x:Nat} (hx:S x) (h1:a x ≠ x) (h2:b x = x):∀ m,x < m → edged b S m < edged a S m
 | 0,hm => absurd hm (by omega)
 | m + 1, hm => by
   unfold edged
   by_cases e:x = m
   ·subst e
    have:=edged_le h x
    rw [if_neg (fun h3 => h3.2 h2),if_pos ⟨hx,h1⟩]; omega
   ·have:=edged_lt h hx h1 h2 m (by omega)
    by_cases h3:S m ∧ b m ≠ m
    ·rw [if_pos h3,if_pos ⟨h3.1,h m h3.1 h3.2⟩]; omega
    ·rw [if_neg h3]; omega
theorem Hm.nonneg:∀ (n:Nat) (a:Nat → Nat),Hm N S r a → edged a S N ≤ n → ∀ z,Gen S r a z → 0 ≤ z
 | n, a, h, hn, z, hz => by
   by_cases hx:∃ x,S x ∧ a x ≠ x
   ·obtain ⟨x,hx,hne⟩:=hx
    obtain ⟨h0,f1,f2⟩:=h.cut hx hne
    have hy:=h.ab.maps x hx
    have hlt:=edged_lt (a := a) (b := Pl.tr a x (a x)) (S := S) (fun u hu hb ha => hb (by
     by_cases e1:u = x
     ·subst e1; exact f1
     ·by_cases e2:u = a x
      ·rw [e2]; exact f2
      ·rw [tr_ne e1 e2,ha])) hx hne f1 N (h.ab.lt x hx)
    match n,hn with
    | 0,hn => omega
    | n + 1, hn =>
      obtain ⟨z0,hz0⟩:=h0.gen
      have i0:=Hm.nonneg n _ h0 (by omega) z0 hz0
      have hh:Pl.tr (Pl.tr a x (a x)) x (a x) = a:=tr_tr _ _ _
      by_cases ho:Orb (phi r (Pl.tr a x (a x))) x (a x)
      ·have:=Gen.within h0 hx hy (Ne.symm hne) f1 f2 ho hz0
       rw [hh] at this
       rw [hz.unique this]; exact i0
      ·by_cases hc:Con r (Pl.tr a x (a x)) x (a x)
       ·have:=Gen.handle h0 hx hy f1 f2 ho hc hz0
        rw [hh] at this
        rw [hz.unique this]; omega
       ·have:=Gen.between h0 hx hy f1 f2 hc hz0
        rw [hh] at this
        rw [hz.unique this]; exact i0
   ·have hid:∀ x,S x → a x = x:=fun x h1 => Classical.byContradiction fun h2 => hx ⟨x,h1,h2⟩
    obtain ⟨v,d,k,f,c,h1,h2,h3,h4,h5,rfl⟩:=hz
    have e1:d = k:=h2.unique (h3.congr (fun _ => Iff.rfl) (fun x y hx _ => ⟨fun e => (free_orb (hid x hx) e).symm,fun e => e ▸ Orb.refl a x⟩))
    have hp:∀ x y,S x → (Orb (phi r a) x y ↔ Orb r x y):=fun x y hx =>
     ⟨fun e => orb_sub h.pb h.rb.eqv (fun z hz => by unfold phi; rw [hid z hz]; exact Orb.step r z) hx e,
      fun e => orb_sub h.rb h.pb.eqv (fun z hz => by have := Orb.step (phi r a) z; unfold phi at this; rw [hid z hz] at this; exact this) hx e⟩
    have e2:f = v:=h4.unique (h1.congr (fun _ => Iff.rfl) (fun x y hx _ => (hp x y hx).symm))
    have e3:c = v:=h5.unique (h1.congr (fun _ => Iff.rfl) (fun x y hx _ => ⟨fun e => orb_con_left a e,fun e => con_sub h h.rb.eqv (fun z _ => Orb.step r z) (fun z hz => by rw [hid z hz]; exact Orb.refl r z) hx e⟩))
    omega
theorem Gen.nonneg (h:Hm N S r a) {z:Int} (hz:Gen S r a z):0 ≤ z := Hm.nonneg _ a h (Nat.le_refl _) z hz
def Flat (S:Nat → Prop) (r a:Nat → Nat):Prop := Gen S r a 0
theorem Flat.add (h:Hm N S r a) {x y:Nat} (hx:S x) (hy:S y) (hne:x ≠ y) (fx:a x = x) (fy:a y = y) (hc:Con r a x y → Orb (phi r a) x y) (hf:Flat S r a):Flat S r (tr a x y) := by
 by_cases h1:Con r a x y
 ·exact Gen.within h hx hy hne fx fy (hc h1) hf
 ·exact Gen.between h hx hy fx fy h1 hf
theorem Flat.del (h:Hm N S r a) {x y:Nat} (hx:S x) (hy:S y) (hne:x ≠ y) (fx:a x = x) (fy:a y = y) (hf:Flat S r (tr a x y)):Flat S r a ∧ (Con r a x y → Orb (phi r a) x y) := by
 obtain ⟨z,hz⟩:=h.gen
 have h0:=Gen.nonneg h hz
 by_cases ho:Orb (phi r a) x y
 ·have:=hf.unique (Gen.within h hx hy hne fx fy ho hz)
  subst this
  exact ⟨hz,fun _ => ho⟩
 ·by_cases hc:Con r a x y
  ·have:=hf.unique (Gen.handle h hx hy fx fy ho hc hz)
   omega
  ·have:=hf.unique (Gen.between h hx hy fx fy hc hz)
   subst this
   exact ⟨hz,fun e => absurd e hc⟩
theorem Gen.add {T:Nat → Prop} (h:Hm N S r a) (h':Hm N T r a) (hd:∀ x,S x → ¬ T x) {z z':Int} (hz:Gen S r a z) (hz':Gen T r a z'):Gen (fun x => S x ∨ T x) r a (z + z') := by
 obtain ⟨v,d,k,f,c,h1,h2,h3,h4,h5,rfl⟩:=hz
 obtain ⟨v',d',k',f',c',g1,g2,g3,g4,g5,rfl⟩:=hz'
 have o:∀ {f:Nat → Nat},Bij N S f → Bij N T f → (∀ x y,S x → T y → ¬ Orb f x y) ∧ (∀ x y,S x → T y → ¬ Orb f y x):=fun b b' =>
  ⟨fun x y hx hy e => hd y (b.orb_mem hx e) hy,fun x y hx hy e => hd x hx (b'.orb_mem hy e)⟩
 exact ⟨v + v',d + d',k + k',f + f',c + c',h1.add g1 (o h.rb h'.rb).1 (o h.rb h'.rb).2 hd,h2.add g2 (fun x y hx hy e => hd x hx (e ▸ hy)) (fun x y hx hy e => hd x hx (e ▸ hy)) hd,
  h3.add g3 (o h.ab h'.ab).1 (o h.ab h'.ab).2 hd,h4.add g4 (o h.pb h'.pb).1 (o h.pb h'.pb).2 hd,
  h5.add g5 (fun x y hx hy e => hd y (h.con_mem hx e) hy) (fun x y hx hy e => hd x hx (h'.con_mem hy e)) hd,by omega⟩
end Go.Proofs.YtghdiolnonejaaaGreatDoor.Pl
end
section
namespace Go.Proofs.YtghdiolnonejaaaGreatDoor.Pl
structure Dg where
 sg:List Int
 mt:List Nat
 lp:Nat
deriving DecidableEq
namespace Dg
def n (d:Dg):Nat := d.sg.length
def s (d:Dg) (c:Nat):Int := d.sg.getD c 0
def m (d:Dg) (h:Nat):Nat := d.mt.getD h h
end Dg
def tn (h k:Nat):Nat := h / 4 * 4 + (h % 4 + k) % 4
theorem tn_div (h k:Nat):tn h k / 4 = h / 4 := by unfold tn; omega
theorem tn_mod (h k:Nat):tn h k % 4 = (h % 4 + k) % 4 := by unfold tn; omega
theorem tn_lt {h k n:Nat} (hh:h < 4 * n):tn h k < 4 * n := by unfold tn; omega
theorem tn_tn (h j k:Nat):tn (tn h j) k = tn h (j + k) := by unfold tn; omega
theorem tn_four (h:Nat):tn h 4 = h := by unfold tn; omega
theorem tn_zero (h:Nat):tn h 0 = h := by unfold tn; omega
theorem tn_inj {g h k:Nat} (e:tn g k = tn h k):g = h := by unfold tn at e; omega
theorem tn_mod4 (h k:Nat):tn h (k % 4) = tn h k := by unfold tn; omega
def out (d:Dg) (h:Nat):Bool := h % 4 == 2 || (h % 4 == 1 && d.s (h / 4) == 1) || (h % 4 == 3 && d.s (h / 4) == -1)
def nx (d:Dg) (h:Nat):Nat := tn (d.m h) 3
def st (d:Dg) (h:Nat):Nat := tn (d.m h) 2
def rot (h:Nat):Nat := tn h 3
structure Wf (d:Dg):Prop where
 few:d.n ≤ 64
 len:d.mt.length = 4 * d.n
 lp:d.lp ≤ 64
 sign:∀ c,c < d.n → d.s c = 1 ∨ d.s c = -1
 lt:∀ h,h < 4 * d.n → d.m h < 4 * d.n
 ne:∀ h,h < 4 * d.n → d.m h ≠ h
 inv:∀ h,h < 4 * d.n → d.m (d.m h) = h
 way:∀ h,h < 4 * d.n → out d h ≠ out d (d.m h)
def dart (d:Dg) (h:Nat):Prop := h < 4 * d.n
theorem rot_bij (k:Nat):Bij (4 * k) (fun h => h < 4 * k) rot :=
 ⟨fun _ h => h,fun _ h => tn_lt h,fun _ _ _ _ e => tn_inj e⟩
theorem Wf.bij {d:Dg} (h:Wf d):Bij (4 * d.n) (dart d) d.m :=
 ⟨fun _ h => h,fun x hx => h.lt x hx,fun x y hx hy e => by rw [← h.inv x hx,← h.inv y hy,e]⟩
theorem Wf.hm {d:Dg} (h:Wf d):Hm (4 * d.n) (dart d) rot d.m := ⟨rot_bij d.n,h.bij,h.inv⟩
def Comp (d:Dg) (a b:Nat):Prop := Con rot d.m (4 * a) (4 * b)
theorem orb_rot (h:Nat):∀ k,Orb rot (4 * (h / 4) + k % 4) h := by
 intro k
 have h1:k % 4 = 0 ∨ k % 4 = 1 ∨ k % 4 = 2 ∨ k % 4 = 3:=by omega
 have h2:h % 4 = 0 ∨ h % 4 = 1 ∨ h % 4 = 2 ∨ h % 4 = 3:=by omega
 refine ⟨(k % 4 + 4 - h % 4) % 4,?_⟩
 have key:∀ j x:Nat,it rot j x = tn x (3 * j):=by
  intro j
  induction j with
  | zero => intro x; exact (tn_zero x).symm
  | succ j ih => intro x; show rot (it rot j x) = _; rw [ih]; unfold rot; rw [tn_tn]; congr 1
 rw [key]
 unfold tn
 omega
theorem orb_rot0 (h:Nat):Orb rot (4 * (h / 4)) h := orb_rot h 0
theorem con_comp {d:Dg} (hd:Wf d) {g h:Nat} (hg:g < 4 * d.n) (hh:h < 4 * d.n):Con rot d.m g h ↔ Comp d (g / 4) (h / 4) := by
 have H:=hd.hm
 have e1:Con rot d.m (4 * (g / 4)) g:=orb_con_left _ (orb_rot0 g)
 have e2:Con rot d.m (4 * (h / 4)) h:=orb_con_left _ (orb_rot0 h)
 have s1:dart d (4 * (g / 4)):=by unfold dart; omega
 have s2:dart d (4 * (h / 4)):=by unfold dart; omega
 constructor
 ·intro e; exact (e1.trans e).trans (H.con_symm s2 e2)
 ·intro e; exact (H.con_symm s1 e1).trans (e.trans e2)
def Least (f:Nat → Nat) (h:Nat):Prop := ∀ k,h ≤ it f k h
open Classical in
noncomputable def cnt (p:Nat → Prop):Nat → Nat
 | 0 => 0
 | k + 1 => cnt p k + if p k then 1 else 0
structure Valid (d:Dg):Prop where
 wf:Wf d
 flat:∀ c,c < d.n → cnt (fun h => Least (nx d) h ∧ Comp d c (h / 4)) (4 * d.n) = cnt (fun b => Comp d c b) d.n + 2
end Go.Proofs.YtghdiolnonejaaaGreatDoor.Pl
end
section
namespace Go.Proofs.YtghdiolnonejaaaGreatDoor
open Go.RowKit
theorem hide {p:Prop} (h:p):Hid p := h
theorem ret_bool {a b:Bool} (h:a = b):Ending.returned (.bool a) = Ending.returned (.bool b) := by rw [h]
theorem ret_int {k:IntKind} {a b:Int} (h:a = b):Ending.returned (.int k a) = Ending.returned (.int k b) := by rw [h]
theorem lt_of_cell {w:World} {p:Addr} {v:Value} (h:w.cell? p = some v):p.block < w.heap.size := by
 rcases Nat.lt_or_ge p.block w.heap.size with h1 | h1
 ·exact h1
 ·unfold World.cell? at h
  rw [Array.getElem?_eq_none h1] at h
  cases h
theorem cell_below {w w':World} {p:Addr} {v:Value} (h:w.cell? p = some v) (hb:Below w.heap.size w w'):w'.cell? p = some v :=
 (hb.cell (lt_of_cell h)).trans h
def RowAt (w:World) (A:Option Addr) (n:Nat) (xs:List Value):Prop :=
 xs.length = n ∧ (0 < n → ∃ b o,A = some ⟨b,o,none⟩ ∧ ∀ (j:Nat) u,xs[j]? = some u → w.cell? ⟨b,o + j,none⟩ = some u)
theorem RowAt.nil (w:World):RowAt w none 0 [] := ⟨rfl,fun h => absurd h (by omega)⟩
theorem RowAt.keep {w w':World} {A:Option Addr} {n:Nat} {xs:List Value} (h:RowAt w A n xs) (hb:Below w.heap.size w w'):RowAt w' A n xs :=
 ⟨h.1,fun hn => let ⟨b,o,e,hc⟩:=h.2 hn; ⟨b,o,e,fun j u hu => cell_below (hc j u hu) hb⟩⟩
theorem RowAt.at_ {w:World} {A:Option Addr} {n k:Nat} {xs:List Value} (h:RowAt w A n xs) (hk:k < n) :
 ∃ b o,A = some ⟨b,o,none⟩ ∧ w.cell? ⟨b,o + k,none⟩ = some (xs[k]'(by have := h.1; omega)) := by
 obtain ⟨b,o,e,hc⟩:=h.2 (by omega)
 have:=h.1
 exact ⟨b,o,e,hc k _ (List.getElem?_eq_getElem (by omega))⟩
def RowT (w:World) (t:TypeId) (A:Option Addr) (n:Nat) (xs:List Value):Prop :=
 xs.length = n ∧ (0 < n → ∃ b o cs fr,A = some ⟨b,o,none⟩ ∧ w.heap[b]? = some (.cells cs t fr) ∧ ∀ (j:Nat) u,xs[j]? = some u → cs[o + j]? = some u)
theorem RowT.row {w:World} {t:TypeId} {A:Option Addr} {n:Nat} {xs:List Value} (h:RowT w t A n xs):RowAt w A n xs :=
 ⟨h.1,fun hn => let ⟨b,o,cs,fr,e,hb,hc⟩:=h.2 hn; ⟨b,o,e,fun j u hu => by rw [cell_of_row w b _ cs t fr hb]; exact hc j u hu⟩⟩
theorem RowT.keep {w w':World} {t:TypeId} {A:Option Addr} {n:Nat} {xs:List Value} (h:RowT w t A n xs) (hb:Below w.heap.size w w'):RowT w' t A n xs :=
 ⟨h.1, fun hn => let ⟨b, o, cs, fr, e, hg, hc⟩ := h.2 hn; ⟨b, o, cs, fr, e, (hb.block b (by
   rcases Nat.lt_or_ge b w.heap.size with h1 | h1
   ·exact h1
   ·rw [Array.getElem?_eq_none h1] at hg; cases hg)).trans hg,hc⟩⟩
theorem RowT.grown {w w':World} {t t':TypeId} {A:Option Addr} {n:Nat} {xs:List Value} {row:Option Nat} (h:RowT w t A n xs) (hg:w.grownBy w' row) (hr:∀ g,row = some g → ∃ cs fr,w.heap[g]? = some (.cells cs t' fr)) (hne:t ≠ t'):RowT w' t A n xs :=
 ⟨h.1, fun hn => let ⟨b, o, cs, fr, e, hb, hc⟩ := h.2 hn; ⟨b, o, cs, fr, e, (hg.block b (by
   rcases Nat.lt_or_ge b w.heap.size with h1 | h1
   ·exact h1
   ·rw [Array.getElem?_eq_none h1] at hb; cases hb) (fun he => by
    obtain ⟨cs',fr',h3⟩:=hr b he.symm
    rw [hb] at h3
    injection h3 with h3
    injection h3 with _ h4
    exact hne h4)).trans hb,hc⟩⟩
theorem ownsRow_block {w:World} {base:Nat} {e:TypeId} {size:Nat} {v:Value} {n:Nat} {xs:List Value} (h:w.ownsRow base e size v n xs):∀ g,v.ownBlock = some g → ∃ cs fr,w.heap[g]? = some (.cells cs e fr) := by
 intro g hg
 rcases h.2 with ⟨rfl,_⟩ | ⟨g',cap,cur,rfl,_,h3,_⟩
 ·simp [Value.ownBlock] at hg
 ·simp [Value.ownBlock] at hg
  subst hg
  exact ⟨_,_,h3⟩
def IntsAt (w:World) (A:Option Addr) (n:Nat) (zs:List Int):Prop := RowAt w A n (zs.map (.int .i64))
theorem IntsAt.keep {w w':World} {A:Option Addr} {n:Nat} {zs:List Int} (h:IntsAt w A n zs) (hb:Below w.heap.size w w'):IntsAt w' A n zs := RowAt.keep h hb
theorem IntsAt.len {w:World} {A:Option Addr} {n:Nat} {zs:List Int} (h:IntsAt w A n zs):zs.length = n := by have := h.1; simpa using this
theorem IntsAt.at_ {w:World} {A:Option Addr} {n k:Nat} {zs:List Int} (h:IntsAt w A n zs) (hk:k < n) :
 ∃ b o,A = some ⟨b,o,none⟩ ∧ w.cell? ⟨b,o + k,none⟩ = some (.int .i64 (zs.getD k 0)) := by
 obtain ⟨b,o,e,hc⟩:=RowAt.at_ h hk
 refine ⟨b,o,e,hc.trans ?_⟩
 have:=h.len
 rw [List.getElem_map,List.getD_eq_getElem?_getD,List.getElem?_eq_getElem (by omega)]; rfl
def nats (l:List Nat):List Int := l.map (fun m:Nat => (m:Int))
structure DgAt (w:World) (A:Option Addr) (B:Option Addr) (d:Pl.Dg):Prop where
 s:IntsAt w A d.n d.sg
 m:IntsAt w B (4 * d.n) (nats d.mt)
theorem DgAt.keep {w w':World} {A B:Option Addr} {d:Pl.Dg} (h:DgAt w A B d) (hb:Below w.heap.size w w'):DgAt w' A B d := ⟨h.s.keep hb,h.m.keep hb⟩
theorem sign_at {w:World} {A:Option Addr} {d:Pl.Dg} (h:IntsAt w A d.n d.sg) {c:Nat} (hc:c < d.n) :
 ∃ b o,A = some ⟨b,o,none⟩ ∧ w.cell? ⟨b,o + c,none⟩ = some (.int .i64 (d.s c)) := h.at_ hc
theorem mate_at {w:World} {B:Option Addr} {d:Pl.Dg} (h:IntsAt w B (4 * d.n) (nats d.mt)) {k:Nat} (hk:k < 4 * d.n) :
 ∃ b o,B = some ⟨b,o,none⟩ ∧ w.cell? ⟨b,o + k,none⟩ = some (.int .i64 (d.m k:Nat)) := by
 obtain ⟨b,o,e,hc⟩:=h.at_ hk
 refine ⟨b,o,e,hc.trans ?_⟩
 have hl:=h.len
 unfold nats at hl
 rw [List.length_map] at hl
 unfold nats Pl.Dg.m
 rw [List.getD_eq_getElem?_getD,List.getD_eq_getElem?_getD,List.getElem?_map,List.getElem?_eq_getElem (by omega)]; rfl
theorem DgAt.mate {w:World} {A B:Option Addr} {d:Pl.Dg} (h:DgAt w A B d) {k:Nat} (hk:k < 4 * d.n) :
 ∃ b o,B = some ⟨b,o,none⟩ ∧ w.cell? ⟨b,o + k,none⟩ = some (.int .i64 (d.m k:Nat)) := mate_at h.m hk
end Go.Proofs.YtghdiolnonejaaaGreatDoor
end
section
namespace Go.Proofs.YtghdiolnonejaaaGreatDoor
open Go.RowKit
theorem turn_back (h:Nat) (w:World) (hh:h ≤ 1000000) :
 Calls Tryz.prog 41 #[.int .i64 (h:Int),.int .i64 (-1)] w fun e w' => e = .returned (.int .i64 (Pl.tn h 3:Nat)) ∧ w = w' := by
 go_enter Tryz.func41,Tryz.ntmps41
 go_wp2
 go_ret
 exact ⟨ret_int (by unfold Pl.tn; omega),rfl⟩
theorem turn_opp (h:Nat) (w:World) (hh:h ≤ 1000000) :
 Calls Tryz.prog 41 #[.int .i64 (h:Int),.int .i64 2] w fun e w' => e = .returned (.int .i64 (Pl.tn h 2:Nat)) ∧ w = w' := by
 go_enter Tryz.func41,Tryz.ntmps41
 go_wp2
 go_ret
 exact ⟨ret_int (by unfold Pl.tn; omega),rfl⟩
theorem opposite_any (h:Nat) (w:World) (hh:h ≤ 1000000) :
 Calls Tryz.prog 60 #[.int .i64 (h:Int)] w fun e w' => e = .returned (.int .i64 (Pl.tn h 2:Nat)) ∧ w = w' := by
 go_enter Tryz.func60,Tryz.ntmps60
 go_wp2_with fail
 refine (turn_opp h _ hh).mono ?_
 rintro e w1 ⟨rfl,rfl⟩
 go_wp2
 go_ret
 exact ⟨rfl,rfl⟩
theorem out_zero {d:Pl.Dg} {h:Nat} (e:h % 4 = 0):Pl.out d h = false := by unfold Pl.out; simp [e]
theorem out_one {d:Pl.Dg} {h:Nat} (e:h % 4 = 1):Pl.out d h = (d.s (h / 4) == 1) := by unfold Pl.out; simp [e]
theorem out_two {d:Pl.Dg} {h:Nat} (e:h % 4 = 2):Pl.out d h = true := by unfold Pl.out; simp [e]
theorem out_three {d:Pl.Dg} {h:Nat} (e:h % 4 = 3):Pl.out d h = (d.s (h / 4) == -1) := by unfold Pl.out; simp [e]
theorem out_any (d:Pl.Dg) (A B:Option Addr) (cp q cq:Nat) (l:Value) (h:Nat) (w:World) (hh:h < 4 * d.n) (hn:d.n ≤ 1000) (hs:IntsAt w A d.n d.sg) :
 Calls Tryz.prog 20 #[.agg #[.slice A d.n cp,.slice B q cq,l],.int .i64 (h:Int)] w fun e w' => e = .returned (.bool (Pl.out d h)) ∧ Below w.heap.size w w' := by
 obtain ⟨b,o,rfl,hc⟩:=sign_at hs (c := h / 4) (by omega)
 have hb:Below w.heap.size w (w.alloc (.cells #[.slice (some ⟨b,o,none⟩) d.n cp,.slice B q cq,l] 24)):=(Below.refl _ _).alloc (Nat.le_refl _) _
 have hc2:=cell_below hc hb
 go_enter Tryz.func20,Tryz.ntmps20
 go_wp2
 all_goals
  go_ret
  refine ⟨ret_bool ?_,hb⟩
  simp only [beq_iff_eq,beq_eq_false_iff_ne,ne_eq] at *
 ·rw [out_one (by omega)]
 ·rw [out_two (by omega)]
 ·rw [out_three (by omega)]
 ·rw [out_zero (by omega)]
theorem out_n (d:Pl.Dg) (A B:Option Addr) (n cp q cq:Nat) (l:Value) (h:Nat) (w:World) (e:n = d.n) (hh:h < 4 * n) (hn:n ≤ 1000) (hs:IntsAt w A n d.sg) :
 Calls Tryz.prog 20 #[.agg #[.slice A n cp,.slice B q cq,l],.int .i64 (h:Int)] w fun e w' => e = .returned (.bool (Pl.out d h)) ∧ Below w.heap.size w w' := by
 subst e; exact out_any d A B cp q cq l h w hh hn hs
theorem out2_any (d:Pl.Dg) (A B:Option Addr) (cp q cq:Nat) (l:Value) (h:Nat) (w:World) (hh:h < 4 * d.n) (hn:d.n ≤ 1000) (hs:IntsAt w A d.n d.sg) :
 Calls Tryz.prog 105 #[.agg #[.slice A d.n cp,.slice B q cq,l],.int .i64 (h:Int)] w fun e w' => e = .returned (.bool (Pl.out d h)) ∧ Below w.heap.size w w' := by
 obtain ⟨b,o,rfl,hc⟩:=sign_at hs (c := h / 4) (by omega)
 have hb:Below w.heap.size w (w.alloc (.cells #[.slice (some ⟨b,o,none⟩) d.n cp,.slice B q cq,l] 24)):=(Below.refl _ _).alloc (Nat.le_refl _) _
 have hc2:=cell_below hc hb
 go_enter Tryz.func105,Tryz.ntmps105
 go_wp2
 all_goals
  go_ret
  refine ⟨ret_bool ?_,hb⟩
 ·rw [out_two (by omega)]
 ·rename_i e1
  rw [out_one (by omega)]; try simp [e1]
 ·rename_i e1
  rw [out_one (by omega)]; try simp [e1]
 ·rw [out_three (by omega)]
 ·rw [out_zero (by omega)]; simp; omega
theorem out2_n (d:Pl.Dg) (A B:Option Addr) (n cp q cq:Nat) (l:Value) (h:Nat) (w:World) (e:n = d.n) (hh:h < 4 * n) (hn:n ≤ 1000) (hs:IntsAt w A n d.sg) :
 Calls Tryz.prog 105 #[.agg #[.slice A n cp,.slice B q cq,l],.int .i64 (h:Int)] w fun e w' => e = .returned (.bool (Pl.out d h)) ∧ Below w.heap.size w w' := by
 subst e; exact out2_any d A B cp q cq l h w hh hn hs
theorem next_any (d:Pl.Dg) (B:Option Addr) (cq:Nat) (h:Nat) (w:World) (hh:h < 4 * d.n) (hn:d.n ≤ 1000) (hm:IntsAt w B (4 * d.n) (nats d.mt)) (hlt:d.m h < 4 * d.n) :
 Calls Tryz.prog 91 #[.slice B (4 * d.n) cq,.int .i64 (h:Int)] w fun e w' => e = .returned (.int .i64 (Pl.nx d h:Nat)) ∧ w = w' := by
 obtain ⟨b,o,rfl,hc⟩:=mate_at hm hh
 go_enter Tryz.func91,Tryz.ntmps91
 go_wp2_with fail
 refine (turn_back _ _ (by omega)).mono ?_
 rintro e w1 ⟨rfl,rfl⟩
 go_wp2
 go_ret
 exact ⟨rfl,rfl⟩
end Go.Proofs.YtghdiolnonejaaaGreatDoor
end
section
namespace Go.Proofs.YtghdiolnonejaaaGreatDoor
open Go Go.RowKit
def OwnT (w:World) (base:Nat) (e:TypeId) (v:Value) (n:Nat) (xs:List Value):Prop :=
 xs.length = n ∧ ∃ g off cap cur,v = .slice (some ⟨g,off,none⟩) n cap ∧ base ≤ g ∧ w.heap[g]? = some (.cells cur e (0,0)) ∧ n ≤ cap ∧ cap ≤ maxLen ∧ off + cap ≤ cur.size ∧ (cur.toList.drop off).take n = xs
theorem lt_of_heap {w:World} {g:Nat} {o:Obj} (h:w.heap[g]? = some o):g < w.heap.size := by
 rcases Nat.lt_or_ge g w.heap.size with h1 | h1
 ·exact h1
 ·rw [Array.getElem?_eq_none h1] at h; cases h
theorem OwnT.keep {w w':World} {base:Nat} {e:TypeId} {v:Value} {n:Nat} {xs:List Value} (h:OwnT w base e v n xs) (hb:∀ g,base ≤ g → g < w.heap.size → v.ownBlock = some g → w'.heap[g]? = w.heap[g]?):OwnT w' base e v n xs := by
 obtain ⟨h0,g,off,cap,cur,rfl,h1,h2,h3⟩:=h
 exact ⟨h0,g,off,cap,cur,rfl,h1,(hb g h1 (lt_of_heap h2) rfl).trans h2,h3⟩
theorem OwnT.below {w w':World} {base:Nat} {e:TypeId} {v:Value} {n:Nat} {xs:List Value} (h:OwnT w base e v n xs) (hb:Below w.heap.size w w'):OwnT w' base e v n xs :=
 h.keep fun g _ h2 _ => hb.block g h2
theorem OwnT.cells {w:World} {base:Nat} {e:TypeId} {v:Value} {n:Nat} {xs:List Value} (h:OwnT w base e v n xs):∃ g off cap,v = .slice (some ⟨g,off,none⟩) n cap ∧ base ≤ g ∧ g < w.heap.size ∧ n ≤ cap ∧ cap ≤ maxLen ∧ ∀ (j:Nat) u,xs[j]? = some u → w.cell? ⟨g,off + j,none⟩ = some u := by
 obtain ⟨h0,g,off,cap,cur,rfl,h1,h2,h3,h4,h5,h6⟩:=h
 refine ⟨g,off,cap,rfl,h1,lt_of_heap h2,h3,h4,fun j u hu => ?_⟩
 rw [cell_of_row w g _ cur e (0,0) h2]
 rw [← h6,List.getElem?_take] at hu
 split at hu
 ·rw [List.getElem?_drop] at hu
  rw [← Array.getElem?_toList]; exact hu
 ·cases hu
theorem OwnT.tail0 {w:World} {base:Nat} {e:TypeId} {g off n cap:Nat} {x:Value} {xs:List Value} (h:OwnT w base e (.slice (some ⟨g,off,none⟩) (n + 1) cap) (n + 1) (x :: xs)) (hc:cap = 1):OwnT w base e (.slice (some ⟨g,off,none⟩) n (cap - 1)) n xs := by
 obtain ⟨h0,g',off',cap',cur,e1,h1,h2,h3,h4,h5,h6⟩:=h
 injection e1 with e1 _ e2
 injection e1 with e1
 injection e1 with e3 e4
 subst e2; subst e3; subst e4
 have hl:xs.length = n:=by simpa using h0
 obtain rfl:n = 0 := by omega
 exact ⟨hl,g,off,cap - 1,cur,rfl,h1,h2,by omega,by omega,by omega,by rw [List.take_zero]; exact (List.eq_nil_of_length_eq_zero hl).symm⟩
theorem OwnT.tail {w:World} {base:Nat} {e:TypeId} {g off n cap:Nat} {x:Value} {xs:List Value} (h:OwnT w base e (.slice (some ⟨g,off,none⟩) (n + 1) cap) (n + 1) (x :: xs)):OwnT w base e (.slice (some ⟨g,off + 1,none⟩) n (cap - 1)) n xs := by
 obtain ⟨h0,g',off',cap',cur,e1,h1,h2,h3,h4,h5,h6⟩:=h
 injection e1 with e1 _ e2
 injection e1 with e1
 injection e1 with e3 e4
 subst e2; subst e3; subst e4
 have hl:xs.length = n:=by simpa using h0
 refine ⟨hl,g,off + 1,cap - 1,cur,rfl,h1,h2,by omega,by omega,by omega,?_⟩
 have e5:cur.toList.drop off = (cur.toList.drop off).head?.getD x :: cur.toList.drop (off + 1):=by
  have:cur.toList.drop off ≠ []:=by
   intro e; rw [e] at h6; simp at h6
  rw [List.drop_eq_getElem_cons (by simp; omega)]
  simp
 rw [e5,List.take_succ_cons] at h6
 injection h6
section
variable {P:Program} (w:World)
theorem run_append_tail (base:Nat) (t ty e:TypeId) (i:TypeInfo) (z:Value) (bytes:Nat) (ht:P.underlying t = some (.slice e)) (hi:P.info? e = some i) (hz:i.zero = some z)
 (hsize:i.size = 1) (hby:i.bytes = bytes) (hzs:z.cells.size = 1)
 (v:Value) (n:Nat) (xs:List Value) (hown:OwnT w base e v n xs)
 (a:Addr) (c:Nat) (x:Value) (hnews:w.cell? (a.add 0) = some x) (h1:x.oneCell' = true)
 (h63:n + 1 ≤ maxLen) (hbytes:(n + 1) * bytes ≤ 140737488355328) (hbase:base ≤ w.heap.size) :
 ∃ v' w',(Builtin.append_ #[t,t] ty #[v,.slice (some a) 1 c]).run P w = .ok v' w' ∧ OwnT w' base e v' (n + 1) (xs ++ [x]) ∧ w.grownBy w' v.ownBlock := by
 subst hby
 have hsmall:n + 1 ≤ 9223372036854775807:=by simp only [maxLen] at h63; omega
 have hlen:(xs ++ [x]).length = n + 1:=by rw [List.length_append,hown.1]; rfl
 have hn1:∀ (j:Nat) u,[x][j]? = some u → w.cell? (a.add j) = some u:=by
  intro j u hu
  match j,hu with
  | 0,hu => simp at hu; subst hu; exact hnews
 obtain ⟨h0,g,off,cap,cur,rfl,hbg,hg,hnc,hcm,hcs,htake⟩:=hown
 by_cases hroom:n + 1 ≤ cap
 ·have hf:=run_firstCells_some (P := P) w i.size 1 a 1 c [x] (by rw [hsize]; rfl) hn1
  have hst:=run_storeCells_at P g (off + n) e [x] 0 cur w hg (by simp; omega) (by simpa using h1)
  simp only [Nat.add_zero] at hst
  rw [hsize] at hf
  have hr:(Builtin.append_ #[t,t] ty #[.slice (some ⟨g,off,none⟩) n cap,.slice (some a) 1 c]).run P w = .ok (.slice (some ⟨g,off,none⟩) (n + 1) cap) (w.setRow g (cur.toList.take (off + n) ++ [x] ++ cur.toList.drop (off + n + [x].length)).toArray):=by
   simp only [List.length_singleton] at hst ⊢
   simp [Builtin.append_,run_underlying ht,sizeOf,typeInfo,hi,hsize,Builtin.lenOf,hroom,hf,Addr.add_lit,hst]
  refine ⟨_,_,hr,⟨hlen,g,off,cap,_,rfl,hbg,setRow_heap w g cur _ e _ hg,hroom,hcm,?_,?_⟩,⟨rfl,rfl,rfl,by simp,fun k _ hk => setRow_other w g k _ (fun e => hk (by simp [Value.ownBlock,e]))⟩⟩
  ·simp only [List.size_toArray,List.length_append,List.length_take,List.length_drop,Array.length_toList,List.length_cons,List.length_nil]
   omega
  ·have e1 : cur.toList.take (off + n) = cur.toList.take off ++ xs := by
    rw [← htake,List.take_add]
   rw [e1]
   simp only [List.append_assoc]
   have e2:(cur.toList.take off).length = off:=by rw [List.length_take,Array.length_toList]; omega
   rw [List.drop_append,e2,Nat.sub_self,List.drop_zero,List.drop_eq_nil_of_le (by omega),List.nil_append,← List.append_assoc,← hlen,List.take_left]
 ·have holds : ∀ (j : Nat) u, xs[j]? = some u → w.cell? ((⟨g, off, none⟩ : Addr).add j) = some u := by
   intro j u hu
   have:(⟨g,off,none⟩:Addr).add j = ⟨g,off + j,none⟩:=by unfold Addr.add; split <;> simp_all
   rw [this,cell_of_row w g _ cur e (0,0) hg]
   rw [← htake,List.getElem?_take] at hu
   split at hu
   ·rw [List.getElem?_drop] at hu
    rw [← Array.getElem?_toList]; exact hu
   ·cases hu
  have hr:=run_append_grow (P := P) w t ty e i z ht hi hz ⟨g,off,none⟩ n cap xs (by rw [hsize,h0]; omega) holds a 1 c [x] (by rw [hsize]; rfl) hn1 (by omega) (by omega) (growslice_fits (by omega) hbytes)
  have hge:=grownCap_ge w (n + 1) cap e
  have hcm':grownCap w (n + 1) cap e ≤ maxLen:=grownCap_le_maxLen w (n + 1) cap e h63
  refine ⟨_,_,hr,⟨hlen,w.heap.size,0,_,_,rfl,hbase,heap_alloc_new w.drew _,hge,hcm',?_,?_⟩,⟨rfl,rfl,rfl,by simp,fun k hk _ => Below.heap_alloc w.drew _ k hk⟩⟩
  ·simp only [Array.size_append,List.size_toArray,size_zeroCells,hzs,h0,List.length_cons,List.length_nil]
   omega
  ·simp only [Array.toList_append,List.drop_zero]
   rw [← hlen]
   exact List.take_left
theorem wp_append_tail {o:Oper} {a:Act} {K:Act → World → Prop} {Q:Exit → Act → World → Prop} (s x:Operand) (t:TypeId)
 (ho:o.op = .call { callee := .builtin .append,args := #[s,x],argTypes := #[t,t] })
 (base:Nat) (e:TypeId) (i:TypeInfo) (z:Value) (bytes:Nat) (ht:P.underlying t = some (.slice e)) (hi:P.info? e = some i) (hz:i.zero = some z)
 (hsize:i.size = 1) (hby:i.bytes = bytes) (hzs:z.cells.size = 1)
 (v:Value) (n:Nat) (xs:List Value) (hs:a.eval s = v) (hown:OwnT w base e v n xs)
 (ad:Addr) (c:Nat) (u:Value) (hx:a.eval x = .slice (some ad) 1 c) (hnews:w.cell? (ad.add 0) = some u) (h1:u.oneCell' = true)
 (h63:n + 1 ≤ maxLen) (hbytes:(n + 1) * bytes ≤ 140737488355328) (hbase:base ≤ w.heap.size)
 (h:∀ v' w',OwnT w' base e v' (n + 1) (xs ++ [u]) → w.grownBy w' v.ownBlock → K (a.put o.dst v') w'):o.wp P a w K Q := by
 obtain ⟨v',w',hr,h2,h3⟩:=run_append_tail (P := P) w base t o.type e i z bytes ht hi hz hsize hby hzs v n xs hown ad c u hnews h1 h63 hbytes hbase
 unfold Oper.wp execOp
 simp only [ho,resolve,invoke,builtin,Sem.run_bind,Sem.run_pure,Result.andThen_ok,List.map_toArray,List.map_cons,List.map_nil,hs,hx,hr]
 exact h v' w' h2 h3
theorem wpList_append_tail {ops:Array Oper} {rest:List Oper} {o:Oper} {a:Act} {Q:Exit → Act → World → Prop} (hgd:o.guard = none) (s x:Operand) (t:TypeId)
 (ho:o.op = .call { callee := .builtin .append,args := #[s,x],argTypes := #[t,t] })
 (base:Nat) (e:TypeId) (i:TypeInfo) (z:Value) (bytes:Nat) (ht:P.underlying t = some (.slice e)) (hi:P.info? e = some i) (hz:i.zero = some z)
 (hsize:i.size = 1) (hby:i.bytes = bytes) (hzs:z.cells.size = 1)
 (v:Value) (n:Nat) (xs:List Value) (hs:a.eval s = v) (hown:OwnT w base e v n xs)
 (ad:Addr) (c:Nat) (u:Value) (hx:a.eval x = .slice (some ad) 1 c) (hnews:w.cell? (ad.add 0) = some u) (h1:u.oneCell' = true)
 (h63:n + 1 ≤ maxLen) (hbytes:(n + 1) * bytes ≤ 140737488355328) (hbase:base ≤ w.heap.size)
 (h:∀ v' w',OwnT w' base e v' (n + 1) (xs ++ [u]) → w.grownBy w' v.ownBlock → wpList P ops Q rest (a.put o.dst v') w'):wpList P ops Q (o :: rest) a w :=
 wpList_plain hgd fun _ hK => wp_append_tail w s x t ho base e i z bytes ht hi hz hsize hby hzs v n xs hs hown ad c u hx hnews h1 h63 hbytes hbase fun v' w' h2 h3 => hK _ _ (h v' w' h2 h3)
end
end Go.Proofs.YtghdiolnonejaaaGreatDoor
end
section
namespace Go.Proofs.YtghdiolnonejaaaGreatDoor.Pl
def Lst (S:Nat → Prop) (R:Nat → Nat → Prop) (h:Nat):Prop := S h ∧ ∀ g,S g → R h g → h ≤ g
theorem cnt_step_pos {p:Nat → Prop} {k:Nat} (h:p k):cnt p (k + 1) = cnt p k + 1 := by rw [cnt,if_pos h]
theorem cnt_step_neg {p:Nat → Prop} {k:Nat} (h:¬ p k):cnt p (k + 1) = cnt p k := by rw [cnt,if_neg h]; omega
theorem cnt_le (p:Nat → Prop) (j:Nat):∀ k,cnt p j ≤ cnt p (j + k)
 | 0 => Nat.le_refl _
 | k + 1 => by
   have:=cnt_le p j k
   by_cases h:p (j + k)
   ·rw [← Nat.add_assoc,cnt_step_pos h]; omega
   ·rw [← Nat.add_assoc,cnt_step_neg h]; omega
theorem cnt_mono (p:Nat → Prop) {j k:Nat} (h:j ≤ k):cnt p j ≤ cnt p k := by
 have:=cnt_le p j (k - j)
 rwa [Nat.add_sub_cancel' h] at this
theorem cnt_lt {p:Nat → Prop} {j k:Nat} (hj:p j) (h:j < k):cnt p j < cnt p k := by
 have h1:=cnt_mono p (show j + 1 ≤ k by omega)
 rw [cnt_step_pos hj] at h1
 omega
theorem cnt_surj (p:Nat → Prop):∀ (N i:Nat),i < cnt p N → ∃ x,x < N ∧ p x ∧ cnt p x = i
 | 0,i,h => by simp [cnt] at h
 | N + 1, i, h => by
   by_cases hp:p N
   ·rw [cnt_step_pos hp] at h
    by_cases e:i = cnt p N
    ·exact ⟨N,by omega,hp,e.symm⟩
    ·obtain ⟨x,h1,h2,h3⟩:=cnt_surj p N i (by omega)
     exact ⟨x,by omega,h2,h3⟩
   ·rw [cnt_step_neg hp] at h
    obtain ⟨x,h1,h2,h3⟩:=cnt_surj p N i h
    exact ⟨x,by omega,h2,h3⟩
theorem cnt_congr {p q:Nat → Prop}:∀ (N:Nat),(∀ x,x < N → (p x ↔ q x)) → cnt p N = cnt q N
 | 0,_ => rfl
 | N + 1, h => by
   have ih:=cnt_congr N (fun x hx => h x (by omega))
   by_cases hp:p N
   ·rw [cnt_step_pos hp,cnt_step_pos ((h N (by omega)).1 hp),ih]
   ·rw [cnt_step_neg hp,cnt_step_neg (fun hq => hp ((h N (by omega)).2 hq)),ih]
theorem cnt_top (p:Nat → Prop):∀ N,cnt p N ≤ N
 | 0 => Nat.le_refl _
 | N + 1 => by
   have:=cnt_top p N
   by_cases h:p N
   ·rw [cnt_step_pos h]; omega
   ·rw [cnt_step_neg h]; omega
theorem least_of {p:Nat → Prop} (x:Nat) (hx:p x):∃ y,p y ∧ ∀ z,p z → y ≤ z := by
 induction x using Nat.strongRecOn with
 | _ x ih =>
   by_cases h:∃ z,p z ∧ z < x
   ·obtain ⟨z,h1,h2⟩:=h; exact ih z h2 h1
   ·exact ⟨x,hx,fun z hz => Nat.le_of_not_lt fun h1 => h ⟨z,hz,h1⟩⟩
theorem Cls.count {S:Nat → Prop} {R:Nat → Nat → Prop} (N:Nat) (hN:∀ x,S x → x < N) (hE:Eqv S R):Cls S R (cnt (Lst S R) N) := by
 have hw:∀ x:Nat,∃ y:Nat,S x → Lst S R y ∧ R x y:=fun x => by
  by_cases hx:S x
  ·obtain ⟨y,hy,hm⟩:=least_of (p := fun y => S y ∧ R x y) x ⟨hx,hE.refl x hx⟩
   exact ⟨y,fun _ => ⟨⟨hy.1,fun g hg e => hm g ⟨hg,hE.trans _ _ _ hx hy.1 hg hy.2 e⟩⟩,hy.2⟩⟩
  ·exact ⟨0,fun h => absurd h hx⟩
 have un:∀ y z,Lst S R y → Lst S R z → R y z → y = z:=fun y z hy hz e => Nat.le_antisymm (hy.2 z hz.1 e) (hz.2 y hy.1 (hE.symm _ _ hy.1 hz.1 e))
 refine ⟨fun x => cnt (Lst S R) (Classical.choose (hw x)),fun x hx => ?_,fun x y hx hy => ?_,fun i hi => ?_⟩
 ·have c:=Classical.choose_spec (hw x) hx
  exact cnt_lt c.1 (hN _ c.1.1)
 ·have c:=Classical.choose_spec (hw x) hx
  have c':=Classical.choose_spec (hw y) hy
  constructor
  ·intro e
   have e2:Classical.choose (hw x) = Classical.choose (hw y):=by
    rcases Nat.lt_trichotomy (Classical.choose (hw x)) (Classical.choose (hw y)) with h | h | h
    ·have:=cnt_lt c.1 h; exact absurd (show cnt (Lst S R) (Classical.choose (hw x)) = cnt (Lst S R) (Classical.choose (hw y)) from e) (by omega)
    ·exact h
    ·have:=cnt_lt c'.1 h; exact absurd (show cnt (Lst S R) (Classical.choose (hw x)) = cnt (Lst S R) (Classical.choose (hw y)) from e) (by omega)
   exact hE.trans _ _ _ hx c.1.1 hy c.2 (e2 ▸ hE.symm _ _ hy c'.1.1 c'.2)
  ·intro e
   have e2:=un _ _ c.1 c'.1 (hE.trans _ _ _ c.1.1 hx c'.1.1 (hE.symm _ _ hx c.1.1 c.2) (hE.trans _ _ _ hx hy c'.1.1 e c'.2))
   show cnt (Lst S R) (Classical.choose (hw x)) = cnt (Lst S R) (Classical.choose (hw y))
   rw [e2]
 ·obtain ⟨x,h1,h2,h3⟩:=cnt_surj _ N i hi
  have c:=Classical.choose_spec (hw x) h2.1
  have e2:=un _ _ h2 c.1 c.2
  refine ⟨x,h2.1,?_⟩
  show cnt (Lst S R) (Classical.choose (hw x)) = i
  rw [← e2]; exact h3
theorem eq_eqv (S:Nat → Prop):Eqv S Eq := ⟨fun _ _ => rfl,fun _ _ _ _ e => e.symm,fun _ _ _ _ _ _ e e' => e.trans e'⟩
theorem Cls.card {S:Nat → Prop} (N:Nat) (hN:∀ x,S x → x < N):Cls S Eq (cnt S N) := by
 have:=Cls.count (R := Eq) N hN (eq_eqv S)
 rwa [cnt_congr N (fun x _ => ⟨fun h => h.1,fun h => ⟨h,fun g _ e => Nat.le_of_eq e⟩⟩)] at this
def part (d:Dg) (c h:Nat):Prop := h < 4 * d.n ∧ Comp d c (h / 4)
variable {d:Dg}
theorem comp_mem (hd:Wf d) {a b:Nat} (ha:a < d.n) (e:Comp d a b):b < d.n := by
 have:=hd.hm.con_mem (x := 4 * a) (by unfold dart; omega) e
 unfold dart at this; omega
theorem comp_symm (hd:Wf d) {a b:Nat} (ha:a < d.n) (e:Comp d a b):Comp d b a := hd.hm.con_symm (by unfold dart; omega) e
theorem part_con (hd:Wf d) {c g h:Nat} (_:c < d.n) (hg:part d c g) (e:Con rot d.m g h):part d c h := by
 have hh:=hd.hm.con_mem (x := g) hg.1 e
 exact ⟨hh,hg.2.trans ((con_comp hd hg.1 hh).1 e)⟩
theorem part_hm (hd:Wf d) {c:Nat} (hc:c < d.n):Hm (4 * d.n) (part d c) rot d.m :=
 ⟨⟨fun _ h => h.1,fun x hx => part_con hd hc hx (Con.refl.left),fun _ _ _ _ e => tn_inj e⟩,
  ⟨fun _ h => h.1,fun x hx => part_con hd hc hx (Con.refl.right),fun x y hx hy e => hd.bij.inj x y hx.1 hy.1 e⟩,fun x hx => hd.inv x hx.1⟩
theorem part_one (hd:Wf d) {c g h:Nat} (hc:c < d.n) (hg:part d c g) (hh:part d c h):Con rot d.m g h :=
 (con_comp hd hg.1 hh.1).2 ((comp_symm hd hc hg.2).trans hh.2)
theorem out_way (hd:Wf d) {h:Nat} (hh:h < 4 * d.n):out d (d.m h) = !out d h := by
 have:=hd.way h hh
 cases h1:out d h <;> cases h2:out d (d.m h) <;> simp_all
theorem orb_div {x y:Nat} (e:Orb rot x y):y / 4 = x / 4 := orb_closed (P := fun z => z / 4 = x / 4) (fun z hz => by show rot z / 4 = _; unfold rot; rw [tn_div,hz]) rfl e
theorem part_gen (hd:Wf d) {c:Nat} (hc:c < d.n) :
 Gen (part d c) rot d.m (2 + (cnt (fun b => Comp d c b) d.n:Int) - (cnt (fun h => Least (nx d) h ∧ Comp d c (h / 4)) (4 * d.n):Int)) := by
 have H:=part_hm hd hc
 -- crossings
 have cb:Cls (fun b => b < d.n ∧ Comp d c b) Eq (cnt (fun b => Comp d c b) d.n):=by
  have:=Cls.card (S := fun b => b < d.n ∧ Comp d c b) d.n (fun _ h => h.1)
  rwa [cnt_congr (q := fun b => Comp d c b) d.n (fun x hx => ⟨fun h => h.2,fun h => ⟨hx,h⟩⟩)] at this
 have slot:∀ k,k < 4 → Cls (fun h => part d c h ∧ h % 4 = k) Eq (cnt (fun b => Comp d c b) d.n):=fun k hk =>
  cb.map (fun b => 4 * b + k) (fun x hx => by
   refine ⟨⟨by have := hx.1; omega,?_⟩,by omega⟩
   rw [show (4 * x + k) / 4 = x by omega]; exact hx.2) (fun y hy => ⟨y / 4,⟨by have := hy.1.1; omega,hy.1.2⟩,by have := hy.2; omega⟩) (fun x y _ _ => by omega)
 have hv:Cls (part d c) (Orb rot) (cnt (fun b => Comp d c b) d.n):=by
  refine Cls.sup (D := fun h => part d c h ∧ h % 4 = 0) ((slot 0 (by omega)).congr (fun _ => Iff.rfl) (fun x y hx hy => ⟨fun e => e ▸ Orb.refl _ _,fun e => ?_⟩)) H.rb.eqv (fun _ h => h.1) (fun x hx => ?_)
  ·have h1:=orb_div e
   have h2:=hx.2
   have h3:=hy.2
   omega
  ·have h1:=H.rb.lt x hx
   refine ⟨4 * (x / 4),⟨⟨by omega,?_⟩,by omega⟩,(rot_bij d.n).symm (show 4 * (x / 4) < 4 * d.n by omega) (orb_rot0 x)⟩
   rw [show 4 * (x / 4) / 4 = x / 4 by omega]; exact hx.2
 have hdn:Cls (part d c) Eq (cnt (fun b => Comp d c b) d.n * 4):=by
  have e0:=slot 0 (by omega)
  have e1:=e0.add (slot 1 (by omega)) (fun x y hx hy e => by have h1 := hx.2; have h2 := hy.2; omega) (fun x y hx hy e => by have h1 := hx.2; have h2 := hy.2; omega) (fun x hx hy => by have h1 := hx.2; have h2 := hy.2; omega)
  have e2:=e1.add (slot 2 (by omega)) (fun x y hx hy e => by have h2 := hy.2; rcases hx with hx | hx <;> have h1 := hx.2 <;> omega) (fun x y hx hy e => by have h2 := hy.2; rcases hx with hx | hx <;> have h1 := hx.2 <;> omega) (fun x hx hy => by have h2 := hy.2; rcases hx with hx | hx <;> have h1 := hx.2 <;> omega)
  have e3:=e2.add (slot 3 (by omega)) (fun x y hx hy e => by have h2 := hy.2; rcases hx with (hx | hx) | hx <;> have h1 := hx.2 <;> omega) (fun x y hx hy e => by have h2 := hy.2; rcases hx with (hx | hx) | hx <;> have h1 := hx.2 <;> omega) (fun x hx hy => by have h2 := hy.2; rcases hx with (hx | hx) | hx <;> have h1 := hx.2 <;> omega)
  have:=e3.congr (S' := part d c) (R' := Eq) (fun x => ⟨fun h => by rcases h with ((h | h) | h) | h <;> exact h.1,fun h => by
   have:x % 4 = 0 ∨ x % 4 = 1 ∨ x % 4 = 2 ∨ x % 4 = 3:=by omega
   rcases this with e | e | e | e
   ·exact .inl (.inl (.inl ⟨h,e⟩))
   ·exact .inl (.inl (.inr ⟨h,e⟩))
   ·exact .inl (.inr ⟨h,e⟩)
   ·exact .inr ⟨h,e⟩⟩) (fun _ _ _ _ => Iff.rfl)
  rwa [show cnt (fun b => Comp d c b) d.n + cnt (fun b => Comp d c b) d.n + cnt (fun b => Comp d c b) d.n + cnt (fun b => Comp d c b) d.n = cnt (fun b => Comp d c b) d.n * 4 by omega] at this
 -- edges
 have ho:Cls (fun h => part d c h ∧ out d h = true) Eq (cnt (fun h => part d c h ∧ out d h = true) (4 * d.n)):=Cls.card _ (fun _ h => h.1.1)
 have hi:Cls (fun h => part d c h ∧ out d h = false) Eq (cnt (fun h => part d c h ∧ out d h = true) (4 * d.n)) :=
  ho.map d.m (fun x hx => ⟨H.ab.maps x hx.1,by rw [out_way hd hx.1.1,hx.2]; rfl⟩)
   (fun y hy => ⟨d.m y,⟨H.ab.maps y hy.1,by rw [out_way hd hy.1.1,hy.2]; rfl⟩,hd.inv y hy.1.1⟩) (fun x y hx hy => ⟨fun e => by rw [e],fun e => hd.bij.inj x y hx.1.1 hy.1.1 e⟩)
 have hboth:=ho.add hi (fun x y hx hy e => by have h1 := hx.2; have h2 := hy.2; rw [e,h2] at h1; cases h1) (fun x y hx hy e => by have h1 := hx.2; have h2 := hy.2; rw [e,h1] at h2; cases h2) (fun x hx hy => by have h1 := hx.2; rw [hy.2] at h1; cases h1)
 have hda:=hdn.unique (hboth.congr (S' := part d c) (fun x => ⟨fun h => by rcases h with h | h <;> exact h.1,fun h => by
  rcases Bool.eq_false_or_eq_true (out d x) with e | e
  ·exact .inl ⟨h,e⟩
  ·exact .inr ⟨h,e⟩⟩) (fun _ _ _ _ => Iff.rfl))
 have hk:Cls (part d c) (Orb d.m) (cnt (fun h => part d c h ∧ out d h = true) (4 * d.n)):=by
  refine Cls.sup (D := fun h => part d c h ∧ out d h = true) (ho.congr (fun _ => Iff.rfl) (fun x y hx hy => ⟨fun e => e ▸ Orb.refl _ _,fun e => ?_⟩)) H.ab.eqv (fun _ h => h.1) (fun x hx => ?_)
  ·have : y = x ∨ y = d.m x := orb_closed (P := fun z => z = x ∨ z = d.m x) (fun z hz => by
    rcases hz with rfl | rfl
    ·exact .inr rfl
    ·exact .inl (hd.inv x hx.1.1)) (.inl rfl) e
   rcases this with h | h
   ·exact h.symm
   ·have h2:=hy.2; rw [h,out_way hd hx.1.1,hx.2] at h2; cases h2
  ·rcases Bool.eq_false_or_eq_true (out d x) with e | e
   ·exact ⟨x,⟨hx,e⟩,Orb.refl _ _⟩
   ·exact ⟨d.m x,⟨H.ab.maps x hx,by rw [out_way hd hx.1,e]; rfl⟩,Orb.step _ _⟩
 -- faces
 have hf:Cls (part d c) (Orb (phi rot d.m)) (cnt (fun h => Least (nx d) h ∧ Comp d c (h / 4)) (4 * d.n)):=by
  have:=Cls.count (4 * d.n) H.pb.lt H.pb.eqv
  rwa [cnt_congr (q := fun h => Least (nx d) h ∧ Comp d c (h / 4)) (4 * d.n) (fun x hx => ⟨fun h => ⟨fun k => h.2 _ (H.pb.it k x h.1) ⟨k,rfl⟩,h.1.2⟩,fun h => ⟨⟨hx,h.2⟩,fun g _ e => by
   obtain ⟨k,rfl⟩:=e
   exact h.1 k⟩⟩)] at this
 -- one component
 have hc1:Cls (part d c) (Con rot d.m) 1 :=
  ⟨fun _ => 0,fun _ _ => Nat.zero_lt_one,fun x y hx hy => ⟨fun _ => part_one hd hc hx hy,fun _ => rfl⟩,fun i hi => ⟨4 * c,⟨by omega,by rw [show 4 * c / 4 = c by omega]; exact .refl⟩,show 0 = i by omega⟩⟩
 exact ⟨_,_,_,_,_,hv,hdn,hk,hf,hc1,by omega⟩
theorem flat_iff (hd:Wf d):(∀ c,c < d.n → cnt (fun h => Least (nx d) h ∧ Comp d c (h / 4)) (4 * d.n) = cnt (fun b => Comp d c b) d.n + 2) ↔ Flat (dart d) rot d.m := by
 constructor
 ·intro h
  -- by crossings
  have key:∀ k,k ≤ d.n → Gen (fun h => h < 4 * d.n ∧ ∃ c,c < k ∧ Comp d c (h / 4)) rot d.m 0 ∧ Hm (4 * d.n) (fun h => h < 4 * d.n ∧ ∃ c,c < k ∧ Comp d c (h / 4)) rot d.m:=by
   intro k hk
   refine ⟨?_,⟨⟨fun _ h => h.1,fun x hx => ⟨tn_lt hx.1,?_⟩,fun _ _ _ _ e => tn_inj e⟩,⟨fun _ h => h.1,fun x hx => ?_,fun x y hx hy e => hd.bij.inj x y hx.1 hy.1 e⟩,fun x hx => hd.inv x hx.1⟩⟩
   ·induction k with
    | zero =>
      have e:∀ x,¬ (x < 4 * d.n ∧ ∃ c,c < 0 ∧ Comp d c (x / 4)):=fun x hx => by obtain ⟨_,c,h,_⟩:=hx; omega
      exact ⟨0,0,0,0,0,Cls.empty e,Cls.empty e,Cls.empty e,Cls.empty e,Cls.empty e,rfl⟩
    | succ k ih =>
      have ih:=ih (by omega)
      by_cases hx:∃ c,c < k ∧ Comp d c k
      ·obtain ⟨c0,h1,h2⟩:=hx
       have e:(fun h => h < 4 * d.n ∧ ∃ c,c < k + 1 ∧ Comp d c (h / 4)) = (fun h => h < 4 * d.n ∧ ∃ c,c < k ∧ Comp d c (h / 4)):=by
        funext x
        refine propext ⟨fun ⟨a,c,h3,h4⟩ => ⟨a,?_⟩,fun ⟨a,c,h3,h4⟩ => ⟨a,c,by omega,h4⟩⟩
        by_cases e:c = k
        ·subst e; exact ⟨c0,h1,h2.trans h4⟩
        ·exact ⟨c,by omega,h4⟩
       rw [e]; exact ih
      ·have hp:=part_gen hd (c := k) (by omega)
       rw [h k (by omega),show (2:Int) + (cnt (fun b => Comp d k b) d.n:Int) - ((cnt (fun b => Comp d k b) d.n + 2:Nat):Int) = 0 by omega] at hp
       have hh:Hm (4 * d.n) (fun h => h < 4 * d.n ∧ ∃ c,c < k ∧ Comp d c (h / 4)) rot d.m:=by
        refine ⟨⟨fun _ h => h.1,fun x hx => ⟨tn_lt hx.1,?_⟩,fun _ _ _ _ e => tn_inj e⟩,⟨fun _ h => h.1,fun x hx => ?_,fun x y hx hy e => hd.bij.inj x y hx.1 hy.1 e⟩,fun x hx => hd.inv x hx.1⟩
        ·obtain ⟨_,c,h1,h2⟩:=hx
         exact ⟨c,h1,by unfold rot; rw [tn_div]; exact h2⟩
        ·obtain ⟨h0,c,h1,h2⟩:=hx
         have:=part_con hd (c := c) (g := x) (by omega) ⟨h0,h2⟩ (Con.refl.right)
         exact ⟨this.1,c,h1,this.2⟩
       have:=Gen.add hh (part_hm hd (c := k) (by omega)) (fun x hx1 hx2 => by
        obtain ⟨h0,c,h1,h2⟩:=hx1
        exact hx ⟨c,h1,h2.trans (comp_symm hd (by omega) hx2.2)⟩) ih hp
       have e:(fun h => h < 4 * d.n ∧ ∃ c,c < k + 1 ∧ Comp d c (h / 4)) = (fun x => (x < 4 * d.n ∧ ∃ c,c < k ∧ Comp d c (x / 4)) ∨ part d k x):=by
        funext x
        refine propext ⟨fun ⟨a,c,h3,h4⟩ => ?_,fun h => ?_⟩
        ·by_cases e:c = k
         ·subst e; exact .inr ⟨a,h4⟩
         ·exact .inl ⟨a,c,by omega,h4⟩
        ·rcases h with ⟨a,c,h3,h4⟩ | ⟨a,h4⟩
         ·exact ⟨a,c,by omega,h4⟩
         ·exact ⟨a,k,by omega,h4⟩
       rw [e]
       simpa using this
   ·obtain ⟨_,c,h1,h2⟩:=hx
    exact ⟨c,h1,by unfold rot; rw [tn_div]; exact h2⟩
   ·obtain ⟨h0,c,h1,h2⟩:=hx
    have:=part_con hd (c := c) (g := x) (by omega) ⟨h0,h2⟩ (Con.refl.right)
    exact ⟨this.1,c,h1,this.2⟩
  have:=(key d.n (Nat.le_refl _)).1
  have e:(fun h => h < 4 * d.n ∧ ∃ c,c < d.n ∧ Comp d c (h / 4)) = dart d:=by
   funext x
   exact propext ⟨fun h => h.1,fun h => ⟨h,x / 4,by unfold dart at h; omega,.refl⟩⟩
  rw [e] at this
  exact this
 ·intro hf c hc
  have hp:=part_gen hd hc
  -- the others
  have hr:Hm (4 * d.n) (fun h => h < 4 * d.n ∧ ¬ Comp d c (h / 4)) rot d.m:=by
   refine ⟨⟨fun _ h => h.1,fun x hx => ⟨tn_lt hx.1,by unfold rot; rw [tn_div]; exact hx.2⟩,fun _ _ _ _ e => tn_inj e⟩,⟨fun _ h => h.1,fun x hx => ⟨hd.lt x hx.1,fun e => hx.2 ?_⟩,fun x y hx hy e => hd.bij.inj x y hx.1 hy.1 e⟩,fun x hx => hd.inv x hx.1⟩
   have:=part_con hd (c := c) (g := d.m x) hc ⟨hd.lt x hx.1,e⟩ (Con.refl.right)
   rw [hd.inv x hx.1] at this
   exact this.2
  obtain ⟨z,hz⟩:=hr.gen
  have hs:=Gen.add (part_hm hd hc) hr (fun x h1 h2 => h2.2 h1.2) hp hz
  have e:(fun x => part d c x ∨ (x < 4 * d.n ∧ ¬ Comp d c (x / 4))) = dart d:=by
   funext x
   refine propext ⟨fun h => by rcases h with h | h <;> exact h.1,fun h => ?_⟩
   by_cases e:Comp d c (x / 4)
   ·exact .inl ⟨h,e⟩
   ·exact .inr ⟨h,e⟩
  rw [e] at hs
  have h1:=hf.unique hs
  have h2:=Gen.nonneg (part_hm hd hc) hp
  have h3:=Gen.nonneg hr hz
  omega
theorem Valid.iff:Valid d ↔ Wf d ∧ Flat (dart d) rot d.m :=
 ⟨fun h => ⟨h.wf,(flat_iff h.wf).1 h.flat⟩,fun h => ⟨h.1,(flat_iff h.1).2 h.2⟩⟩
end Go.Proofs.YtghdiolnonejaaaGreatDoor.Pl
end
section
namespace Go.Proofs.YtghdiolnonejaaaGreatDoor.Pl
def pv (ps:List Int) (a:Nat):Int := ps.getD a 0
theorem pv_set {ps:List Int} {i:Nat} (hi:i < ps.length) (v:Int) (a:Nat):pv (ps.set i v) a = if a = i then v else pv ps a := by
 unfold pv
 rw [List.getD_eq_getElem?_getD,List.getD_eq_getElem?_getD,List.getElem?_set]
 by_cases h:i = a
 ·subst h; simp [hi]
 ·rw [if_neg h,if_neg (fun e => h e.symm)]
def unl (ps:List Int):Nat := ps.countP (fun z => decide (z < 0))
theorem unl_set {ps:List Int} {i:Nat} (hi:i < ps.length) (hn:pv ps i < 0) {v:Int} (hv:0 ≤ v):unl (ps.set i v) + 1 = unl ps := by
 have e:pv ps i = ps[i]:=by unfold pv; rw [List.getD_eq_getElem?_getD,List.getElem?_eq_getElem hi]; rfl
 have hp:0 < unl ps:=by
  unfold unl
  rw [List.countP_pos_iff]
  exact ⟨ps[i],List.getElem_mem hi,by rw [← e]; simpa using hn⟩
 unfold unl at hp ⊢
 rw [List.countP_set hi]
 have h1:decide (ps[i] < 0) = true:=by rw [← e]; simpa using hn
 have h2:decide (v < 0) = false:=by simpa using hv
 rw [h1,h2]
 simp only [if_true,Bool.false_eq_true,if_false]
 omega
theorem fill_set {k n:Nat} (h:k < n):(List.replicate k (-1:Int) ++ List.replicate (n - k) 0).set k (-1) = List.replicate (k + 1) (-1) ++ List.replicate (n - (k + 1)) 0 := by
 refine List.ext_getElem (by simp; omega) (fun i h1 h2 => ?_)
 simp only [List.getElem_set,List.getElem_append,List.getElem_replicate,List.length_replicate]
 split <;> split <;> (try split) <;> omega
variable {d:Dg}
def nb (d:Dg) (a t:Nat):Nat := d.m (4 * a + t) / 4
theorem nb_lt (hd:Wf d) {a t:Nat} (ha:a < d.n) (ht:t < 4):nb d a t < d.n := by
 have:=hd.lt (4 * a + t) (by omega)
 unfold nb; omega
theorem nb_comp (hd:Wf d) {a t:Nat} (ha:a < d.n) (ht:t < 4):Comp d a (nb d a t) := by
 have h1:=(con_comp hd (g := 4 * a + t) (h := d.m (4 * a + t)) (by omega) (hd.lt _ (by omega))).1 (Con.refl.right)
 rwa [show (4 * a + t) / 4 = a by omega] at h1
theorem comp_closed (hd:Wf d) {P:Nat → Prop} (hP:∀ a,a < d.n → P a → ∀ t,t < 4 → P (nb d a t)) {a b:Nat} (ha:a < d.n) (h:P a) (e:Comp d a b):P b := by
 have:∀ y,Con rot d.m (4 * a) y → y < 4 * d.n ∧ P (y / 4):=by
  intro y e
  induction e with
  | refl => exact ⟨by omega,by rw [show 4 * a / 4 = a by omega]; exact h⟩
  | left _ ih => exact ⟨tn_lt ih.1,by unfold rot; rw [tn_div]; exact ih.2⟩
  | right _ ih =>
    rename_i y _
    refine ⟨hd.lt y ih.1,?_⟩
    have:=hP (y / 4) (by omega) ih.2 (y % 4) (by omega)
    unfold nb at this
    rwa [show 4 * (y / 4) + y % 4 = y by omega] at this
 have:=(this _ e).2
 rwa [show 4 * b / 4 = b by omega] at this
structure LB (d:Dg) (ps:List Int) (P:Nat):Prop where
 len:ps.length = d.n
 lo:∀ a,a < d.n → -1 ≤ pv ps a ∧ pv ps a < P
 same:∀ a b,a < d.n → Comp d a b → 0 ≤ pv ps a → pv ps b = pv ps a
 conn:∀ a b,a < d.n → b < d.n → 0 ≤ pv ps a → pv ps a = pv ps b → Comp d a b
 all:∀ p:Nat,p < P → ∃ a,a < d.n ∧ pv ps a = p
theorem LB.le {ps:List Int} {P:Nat} (h:LB d ps P):P ≤ d.n := by
 have hw:∀ p:Nat,∃ a:Nat,p < P → a < d.n ∧ pv ps a = p:=fun p => by
  by_cases hp:p < P
  ·obtain ⟨a,ha⟩:=h.all p hp; exact ⟨a,fun _ => ha⟩
  ·exact ⟨0,fun e => absurd e hp⟩
 refine pigeon P d.n (fun p => Classical.choose (hw p)) (fun p hp => (Classical.choose_spec (hw p) hp).1) (fun p q hp hq e => ?_)
 have e1:=(Classical.choose_spec (hw p) hp).2
 have e2:=(Classical.choose_spec (hw q) hq).2
 have e':Classical.choose (hw p) = Classical.choose (hw q):=e
 rw [e',e2] at e1
 omega
theorem LB.start (d:Dg):LB d (List.replicate d.n (-1)) 0 := by
 have e:∀ a,a < d.n → pv (List.replicate d.n (-1)) a = -1:=fun a ha => by
  unfold pv; rw [List.getD_eq_getElem?_getD,List.getElem?_replicate,if_pos ha]; rfl
 exact ⟨by simp,fun a ha => by rw [e a ha]; omega,fun a b ha _ h => by rw [e a ha] at h; omega,fun a b ha _ h => by rw [e a ha] at h; omega,fun p hp => by omega⟩
theorem LB.none (hd:Wf d) {ps:List Int} {P:Nat} (h:LB d ps P) {c b:Nat} (hc:c < d.n) (hn:pv ps c < 0) (e:Comp d c b):pv ps b < 0 := by
 have hb:=comp_mem hd hc e
 by_cases h0:0 ≤ pv ps b
 ·have:=h.same b c hb (comp_symm hd hc e) h0
  omega
 ·omega
structure LQ (d:Dg) (c:Nat) (p0:List Int) (P:Nat) (ps:List Int) (qs:List Nat) (u s:Nat):Prop where
 base:LB d p0 P
 hc:c < d.n
 new:pv p0 c < 0
 len:ps.length = d.n
 me:pv ps c = P
 mine:∀ a,a < d.n → pv ps a = P → Comp d c a
 old:∀ a,a < d.n → pv ps a ≠ P → pv ps a = pv p0 a
 wait:∀ q,q ∈ qs → q < d.n ∧ pv ps q = P
 brd:∀ a,a < d.n → pv ps a = P → a ∈ qs ∨ ∀ t,t < 4 → (a = u → t < s) → 0 ≤ pv ps (nb d a t)
theorem LQ.start {c:Nat} {p0:List Int} {P:Nat} (h:LB d p0 P) (hc:c < d.n) (hn:pv p0 c < 0):LQ d c p0 P (p0.set c P) [c] d.n 0 := by
 have hl:c < p0.length:=by rw [h.len]; exact hc
 refine ⟨h,hc,hn,by rw [List.length_set,h.len],by rw [pv_set hl,if_pos rfl],fun a ha e => ?_,fun a ha e => ?_,fun q hq => ?_,fun a ha e => ?_⟩
 ·rw [pv_set hl] at e
  by_cases h1:a = c
  ·subst h1; exact .refl
  ·rw [if_neg h1] at e; have := (h.lo a ha).2; omega
 ·rw [pv_set hl] at e ⊢
  by_cases h1:a = c
  ·rw [if_pos h1] at e; exact absurd rfl e
  ·rw [if_neg h1]
 ·rw [List.mem_singleton] at hq; subst hq; exact ⟨hc,by rw [pv_set hl,if_pos rfl]⟩
 ·rw [pv_set hl] at e
  by_cases h1:a = c
  ·exact .inl (by rw [h1]; simp)
  ·rw [if_neg h1] at e; have := (h.lo a ha).2; omega
theorem LQ.pop {c:Nat} {p0 ps:List Int} {P q s u:Nat} {qs:List Nat} (h:LQ d c p0 P ps (q :: qs) u s) (hu:u = d.n):LQ d c p0 P ps qs q 0 := by
 refine ⟨h.base,h.hc,h.new,h.len,h.me,h.mine,h.old,fun x hx => h.wait x (by simp [hx]),fun a ha e => ?_⟩
 rcases h.brd a ha e with h1 | h1
 ·by_cases h2:a = q
  ·exact .inr fun t _ h3 => absurd (h3 h2) (by omega)
  ·exact .inl (by simpa [h2] using h1)
 ·exact .inr fun t ht _ => h1 t ht (fun e => absurd e (by omega))
theorem LQ.ge {c:Nat} {p0 ps:List Int} {P s u:Nat} {qs:List Nat} (h:LQ d c p0 P ps qs u s) {a:Nat} (ha:a < d.n):-1 ≤ pv ps a ∧ pv ps a < (P + 1:Nat) := by
 by_cases e:pv ps a = P
 ·omega
 ·rw [h.old a ha e]; have := h.base.lo a ha; omega
theorem LQ.skip {c:Nat} {p0 ps:List Int} {P s u:Nat} {qs:List Nat} (h:LQ d c p0 P ps qs u s) (hn:0 ≤ pv ps (nb d u s)):LQ d c p0 P ps qs u (s + 1) := by
 refine ⟨h.base,h.hc,h.new,h.len,h.me,h.mine,h.old,h.wait,fun a ha e => ?_⟩
 rcases h.brd a ha e with h1 | h1
 ·exact .inl h1
 ·refine .inr fun t ht h2 => ?_
  by_cases h3:a = u ∧ t = s
  ·obtain ⟨rfl,rfl⟩:=h3; exact hn
  ·exact h1 t ht (fun e => by
    have:=h2 e
    have:t ≠ s:=fun e2 => h3 ⟨e,e2⟩
    omega)
theorem LQ.push (hd:Wf d) {c:Nat} {p0 ps:List Int} {P s u:Nat} {qs:List Nat} (h:LQ d c p0 P ps qs u s) (hu:u < d.n) (hup:pv ps u = P) (hs:s < 4) (_:pv ps (nb d u s) < 0) :
 LQ d c p0 P (ps.set (nb d u s) P) (qs ++ [nb d u s]) u (s + 1) := by
 have hb:=nb_lt hd hu hs
 have hl:nb d u s < ps.length:=by rw [h.len]; exact hb
 have hcb:Comp d c (nb d u s):=(h.mine u hu hup).trans (nb_comp hd hu hs)
 refine ⟨h.base,h.hc,h.new,by rw [List.length_set,h.len],?_,fun a ha e => ?_,fun a ha e => ?_,fun q hq => ?_,fun a ha e => ?_⟩
 ·rw [pv_set hl]; split
  ·rfl
  ·exact h.me
 ·rw [pv_set hl] at e
  by_cases h1:a = nb d u s
  ·rw [h1]; exact hcb
  ·rw [if_neg h1] at e; exact h.mine a ha e
 ·rw [pv_set hl] at e ⊢
  by_cases h1:a = nb d u s
  ·rw [if_pos h1] at e; exact absurd rfl e
  ·rw [if_neg h1] at e ⊢; exact h.old a ha e
 ·rw [List.mem_append,List.mem_singleton] at hq
  rw [pv_set hl]
  rcases hq with hq | hq
  ·exact ⟨(h.wait q hq).1,by split; rfl; exact (h.wait q hq).2⟩
  ·subst hq; exact ⟨hb,by rw [if_pos rfl]⟩
 ·by_cases h1:a = nb d u s
  ·exact .inl (by rw [h1]; simp)
  ·rw [pv_set hl,if_neg h1] at e
   rcases h.brd a ha e with h2 | h2
   ·exact .inl (by simp [h2])
   ·refine .inr fun t ht h3 => ?_
    rw [pv_set hl]
    split
    ·omega
    ·rename_i h4
     refine h2 t ht (fun e => ?_)
     have:=h3 e
     have:t ≠ s:=fun e2 => h4 (by rw [e,e2])
     omega
theorem LQ.rest {c:Nat} {p0 ps:List Int} {P u:Nat} {qs:List Nat} (h:LQ d c p0 P ps qs u 4):LQ d c p0 P ps qs d.n 0 :=
 ⟨h.base,h.hc,h.new,h.len,h.me,h.mine,h.old,h.wait,fun a ha e => (h.brd a ha e).imp id fun h1 t ht _ => h1 t ht (fun _ => ht)⟩
theorem LQ.done (hd:Wf d) {c:Nat} {p0 ps:List Int} {P s:Nat} (h:LQ d c p0 P ps [] d.n s):LB d ps (P + 1) ∧ (∀ a,a < d.n → 0 ≤ pv p0 a → 0 ≤ pv ps a) ∧ 0 ≤ pv ps c := by
 have full:∀ b,Comp d c b → pv ps b = P:=by
  intro b e
  have:b < d.n ∧ pv ps b = P:=by
   refine comp_closed hd (P := fun a => a < d.n ∧ pv ps a = P) (fun a ha ⟨_,h2⟩ t ht => ?_) h.hc ⟨h.hc,h.me⟩ e
   refine ⟨nb_lt hd ha ht,?_⟩
   rcases h.brd a ha h2 with h3 | h3
   ·cases h3
   ·have h4:=h3 t ht (fun e => absurd e (by omega))
    by_cases h5:pv ps (nb d a t) = P
    ·exact h5
    ·have h6:=h.old _ (nb_lt hd ha ht) h5
     have:=h.base.none hd h.hc h.new ((h.mine a ha h2).trans (nb_comp hd ha ht))
     omega
  exact this.2
 have cls:∀ a,a < d.n → (pv ps a = P ↔ Comp d c a):=fun a ha => ⟨h.mine a ha,full a⟩
 refine ⟨⟨h.len,fun a ha => h.ge ha,fun a b ha e h0 => ?_,fun a b ha hb h0 e => ?_,fun p hp => ?_⟩,fun a ha h0 => ?_,by rw [h.me]; omega⟩
 ·have hb:=comp_mem hd ha e
  by_cases h1:pv ps a = P
  ·rw [h1]; exact full b ((h.mine a ha h1).trans e)
  ·have h2:pv ps b ≠ P:=fun h3 => h1 ((cls a ha).2 ((h.mine b hb h3).trans (comp_symm hd ha e)))
   rw [h.old a ha h1,h.old b hb h2]
   rw [h.old a ha h1] at h0
   exact h.base.same a b ha e h0
 ·by_cases h1:pv ps a = P
  ·rw [h1] at e
   exact (comp_symm hd h.hc (h.mine a ha h1)).trans (h.mine b hb e.symm)
  ·have h2:pv ps b ≠ P:=fun h3 => h1 (by rw [e,h3])
   rw [h.old a ha h1,h.old b hb h2] at e
   rw [h.old a ha h1] at h0
   exact h.base.conn a b ha hb h0 e
 ·by_cases h1:p = P
  ·exact ⟨c,h.hc,by rw [h.me,h1]⟩
  ·obtain ⟨a,ha,e⟩:=h.base.all p (by omega)
   refine ⟨a,ha,?_⟩
   by_cases h2:pv ps a = P
   ·have:=h.base.none hd h.hc h.new (h.mine a ha h2)
    omega
   ·rw [h.old a ha h2,e]
 ·by_cases h1:pv ps a = P
  ·rw [h1]; omega
  ·rw [h.old a ha h1]; exact h0
end Go.Proofs.YtghdiolnonejaaaGreatDoor.Pl
end
section
namespace Go.Proofs.YtghdiolnonejaaaGreatDoor
open Go Go.RowKit
def Row (w:World) (g:Nat) (t:TypeId) (vs:List Value):Prop := w.heap[g]? = some (.cells vs.toArray t (0,0))
theorem Row.lt {w:World} {g:Nat} {t:TypeId} {vs:List Value} (h:Row w g t vs):g < w.heap.size := lt_of_heap h
theorem Row.cell {w:World} {g:Nat} {t:TypeId} {vs:List Value} (h:Row w g t vs) {i:Nat} (hi:i < vs.length):w.cell? ⟨g,i,none⟩ = some (vs[i]'hi) := by
 rw [cell_of_row w g i _ t (0,0) h]; simp [hi]
theorem Row.free {w:World} {g:Nat} {t:TypeId} {vs:List Value} (h:Row w g t vs) (i:Nat):w.frozen? ⟨g,i,none⟩ = false := frozen_of_row w g i _ t h
theorem Row.set {w:World} {g:Nat} {t:TypeId} {vs:List Value} (h:Row w g t vs) (i:Nat) (v:Value):Row (w.setCell ⟨g,i,none⟩ v) g t (vs.set i v) := by
 unfold Row
 rw [Go.heap_setCell_same w g i _ t v h]
 simp
theorem Row.other {w:World} {g:Nat} {t:TypeId} {vs:List Value} (h:Row w g t vs) {a:Addr} (ha:g ≠ a.block) (v:Value):Row (w.setCell a v) g t vs := (Below.heap_setCell w a v g ha).trans h
theorem Row.alloc {w:World} {g:Nat} {t:TypeId} {vs:List Value} (h:Row w g t vs) (o:Obj):Row (w.alloc o) g t vs := (Below.heap_alloc w o g h.lt).trans h
theorem Row.drew {w:World} {g:Nat} {t:TypeId} {vs:List Value} (h:Row w g t vs):Row w.drew g t vs := h
theorem Row.below {w w':World} {g:Nat} {t:TypeId} {vs:List Value} (h:Row w g t vs) (hb:Below w.heap.size w w'):Row w' g t vs := (hb.block g h.lt).trans h
theorem Row.grown {w w':World} {g:Nat} {t:TypeId} {vs:List Value} {r:Option Nat} (h:Row w g t vs) (hg:w.grownBy w' r) (hr:some g ≠ r):Row w' g t vs := (hg.block g h.lt hr).trans h
theorem Row.new (w:World) (t:TypeId) (vs:List Value):Row (w.alloc (.cells vs.toArray t)) w.heap.size t vs := heap_alloc_new w _
def IRow (w:World) (g:Nat) (zs:List Int):Prop := Row w g 3 (zs.map (.int .i64))
theorem IRow.cell {w:World} {g:Nat} {zs:List Int} (h:IRow w g zs) {i:Nat} (hi:i < zs.length):w.cell? ⟨g,i,none⟩ = some (.int .i64 (Pl.pv zs i)) := by
 refine (Row.cell h (i := i) (by simpa using hi)).trans ?_
 unfold Pl.pv
 rw [List.getElem_map,List.getD_eq_getElem?_getD,List.getElem?_eq_getElem hi]; rfl
theorem IRow.set {w:World} {g:Nat} {zs:List Int} (h:IRow w g zs) (i:Nat) (v:Int):IRow (w.setCell ⟨g,i,none⟩ (.int .i64 v)) g (zs.set i v) := by
 unfold IRow
 rw [List.map_set]
 exact Row.set h i _
theorem IRow.ints {w:World} {g:Nat} {zs:List Int} (h:IRow w g zs):IntsAt w (some ⟨g,0,none⟩) zs.length zs := by
 refine ⟨by simp,fun _ => ⟨g,0,rfl,fun j u hu => ?_⟩⟩
 rw [Nat.zero_add]
 refine (cell_of_row w g j _ _ (0,0) h).trans ?_
 simpa using hu
def BRow (w:World) (g:Nat) (bs:List Bool):Prop := Row w g 4 (bs.map .bool)
theorem BRow.cell {w:World} {g:Nat} {bs:List Bool} (h:BRow w g bs) {i:Nat} (hi:i < bs.length):w.cell? ⟨g,i,none⟩ = some (.bool (bs.getD i false)) := by
 refine (Row.cell h (i := i) (by simpa using hi)).trans ?_
 rw [List.getElem_map,List.getD_eq_getElem?_getD,List.getElem?_eq_getElem hi]; rfl
theorem BRow.set {w:World} {g:Nat} {bs:List Bool} (h:BRow w g bs) (i:Nat) (v:Bool):BRow (w.setCell ⟨g,i,none⟩ (.bool v)) g (bs.set i v) := by
 unfold BRow
 rw [List.map_set]
 exact Row.set h i _
theorem made_rep (v:Value) (n:Nat):madeCells #[v] n = (List.replicate n v).toArray := by
 apply Array.ext'
 simp only [madeCells,Array.toList_map,Array.toList_range]
 refine List.ext_getElem (by simp) (fun i h1 h2 => ?_)
 have:i % 1 = 0:=Nat.mod_one i
 simp [this]
theorem IRow.made (w:World) (n:Nat):IRow (w.alloc (.cells (Array.replicate n (Value.int .i64 0)) 3)) w.heap.size (List.replicate n 0) := by
 unfold IRow Row
 rw [List.map_replicate]
 exact heap_alloc_new w _
theorem BRow.made (w:World) (n:Nat):BRow (w.alloc (.cells (Array.replicate n (Value.bool false)) 4)) w.heap.size (List.replicate n false) := by
 unfold BRow Row
 rw [List.map_replicate]
 exact heap_alloc_new w _
theorem intInfo:(Tryz.prog.info? 3).map (fun i => (i.zero,i.size,i.bytes)) = some (some (.int .i64 0),1,8) := by kernel_rfl
theorem boolInfo:(Tryz.prog.info? 4).map (fun i => (i.zero,i.size,i.bytes)) = some (some (.bool false),1,1) := by kernel_rfl
theorem run_ints (n:Nat) (hn:n ≤ 100000) (w:World):(Instr.makeSlice 22 (.int .i64 (n:Int)) (.int .i64 (n:Int))).run Tryz.prog w = .ok (.slice (some ⟨w.heap.size,0,none⟩) n n) (w.alloc (.cells (Array.replicate n (Value.int .i64 0)) 3)) := by
 obtain ⟨i0,hi,hz0,hz1,hz2⟩:=info_parts intInfo
 have:=run_make (P := Tryz.prog) w 22 3 i0 (.int .i64 0) Tryz.underlying22 hi hz0 .i64 .i64 n n (by omega) (Int.le_refl _) (by rw [hz2]; omega) (by omega)
 rw [hz1,Nat.mul_one,Int.toNat_natCast,show madeCells (Value.cells (.int .i64 0)) n = (List.replicate n (.int .i64 0)).toArray from made_rep _ _] at this
 exact this
theorem run_bools (n:Nat) (hn:n ≤ 100000) (w:World):(Instr.makeSlice 72 (.int .i64 (n:Int)) (.int .i64 (n:Int))).run Tryz.prog w = .ok (.slice (some ⟨w.heap.size,0,none⟩) n n) (w.alloc (.cells (Array.replicate n (Value.bool false)) 4)) := by
 obtain ⟨i0,hi,hz0,hz1,hz2⟩:=info_parts boolInfo
 have:=run_make (P := Tryz.prog) w 72 4 i0 (.bool false) Tryz.underlying72 hi hz0 .i64 .i64 n n (by omega) (Int.le_refl _) (by rw [hz2]; omega) (by omega)
 rw [hz1,Nat.mul_one,Int.toNat_natCast,show madeCells (Value.cells (.bool false)) n = (List.replicate n (.bool false)).toArray from made_rep _ _] at this
 exact this
end Go.Proofs.YtghdiolnonejaaaGreatDoor
end
section
namespace Go.Proofs.YtghdiolnonejaaaGreatDoor
open Go Go.RowKit
section
variable {P:Program} (w:World)
theorem run_append_ints (base:Nat) (t ty e:TypeId) (i:TypeInfo) (z:Value) (bytes:Nat) (ht:P.underlying t = some (.slice e)) (hi:P.info? e = some i) (hz:i.zero = some z)
 (hsize:i.size = 1) (hby:i.bytes = bytes) (hzs:z.cells.size = 1)
 (v:Value) (n:Nat) (xs:List Value) (hown:w.ownsRow base e 1 v n xs)
 (A:Option Addr) (m c:Nat) (zs:List Int) (hin:IntsAt w A m zs)
 (h63:n + m ≤ maxLen) (hbytes:(n + m) * bytes ≤ 140737488355328) (hbase:base ≤ w.heap.size) :
 ∃ v' w',(Builtin.append_ #[t,t] ty #[v,.slice A m c]).run P w = .ok v' w' ∧ w'.ownsRow base e 1 v' (n + m) (xs ++ zs.map (.int .i64)) ∧ w.grownBy w' v.ownBlock := by
 have hl:=hin.len
 rcases Nat.eq_zero_or_pos m with h0 | h0
 ·subst h0
  obtain rfl:zs = [] := List.eq_nil_of_length_eq_zero hl
  have hr:(Builtin.append_ #[t,t] ty #[v,.slice A 0 c]).run P w = .ok v w:=by
   rcases hown.2 with ⟨rfl,rfl⟩ | ⟨g,cap,cur,rfl,_,_,hnc,_⟩
   ·cases A <;> simp [Builtin.append_,run_underlying ht,sizeOf,typeInfo,hi,Builtin.lenOf,Builtin.firstCells,loadCells,loadCellsFrom]
   ·cases A <;> simp [Builtin.append_,run_underlying ht,sizeOf,typeInfo,hi,Builtin.lenOf,Builtin.firstCells,hnc,storeCells,loadCells,loadCellsFrom]
  refine ⟨v,w,hr,by simpa using hown,⟨rfl,rfl,rfl,Nat.le_refl _,fun _ _ _ => rfl⟩⟩
 ·obtain ⟨b,o,rfl,hc⟩:=hin.2 h0
  obtain ⟨v',w',hr,h2,h3,_⟩:=run_append_own (P := P) w base t ty e i z 1 bytes ht hi hz hsize hby hzs (by omega) v n xs hown ⟨b,o,none⟩ m c (zs.map (.int .i64)) (by rw [List.length_map,hl,Nat.mul_one]) (fun j u hu => by
   have:(⟨b,o,none⟩:Addr).add j = ⟨b,o + j,none⟩:=by unfold Addr.add; split <;> simp_all
   rw [this]; exact hc j u hu) (fun u hu => by
   obtain ⟨x,_,rfl⟩:=List.mem_map.1 hu; rfl) h63 hbytes hbase
  exact ⟨v',w',hr,h2,h3⟩
theorem wp_append_ints {o:Oper} {a:Act} {K:Act → World → Prop} {Q:Exit → Act → World → Prop} (s x:Operand) (t:TypeId)
 (ho:o.op = .call { callee := .builtin .append,args := #[s,x],argTypes := #[t,t] })
 (base:Nat) (e:TypeId) (i:TypeInfo) (z:Value) (bytes:Nat) (ht:P.underlying t = some (.slice e)) (hi:P.info? e = some i) (hz:i.zero = some z)
 (hsize:i.size = 1) (hby:i.bytes = bytes) (hzs:z.cells.size = 1)
 (v:Value) (n:Nat) (xs:List Value) (hs:a.eval s = v) (hown:w.ownsRow base e 1 v n xs)
 (A:Option Addr) (m c:Nat) (zs:List Int) (hx:a.eval x = .slice A m c) (hin:IntsAt w A m zs)
 (h63:n + m ≤ maxLen) (hbytes:(n + m) * bytes ≤ 140737488355328) (hbase:base ≤ w.heap.size)
 (h:∀ v' w',w'.ownsRow base e 1 v' (n + m) (xs ++ zs.map (.int .i64)) → w.grownBy w' v.ownBlock → K (a.put o.dst v') w'):o.wp P a w K Q := by
 obtain ⟨v',w',hr,h2,h3⟩:=run_append_ints (P := P) w base t o.type e i z bytes ht hi hz hsize hby hzs v n xs hown A m c zs hin h63 hbytes hbase
 unfold Oper.wp execOp
 simp only [ho,resolve,invoke,builtin,Sem.run_bind,Sem.run_pure,Result.andThen_ok,List.map_toArray,List.map_cons,List.map_nil,hs,hx,hr]
 exact h v' w' h2 h3
theorem wpList_append_ints {ops:Array Oper} {rest:List Oper} {o:Oper} {a:Act} {Q:Exit → Act → World → Prop} (hgd:o.guard = none) (s x:Operand) (t:TypeId)
 (ho:o.op = .call { callee := .builtin .append,args := #[s,x],argTypes := #[t,t] })
 (base:Nat) (e:TypeId) (i:TypeInfo) (z:Value) (bytes:Nat) (ht:P.underlying t = some (.slice e)) (hi:P.info? e = some i) (hz:i.zero = some z)
 (hsize:i.size = 1) (hby:i.bytes = bytes) (hzs:z.cells.size = 1)
 (v:Value) (n:Nat) (xs:List Value) (hs:a.eval s = v) (hown:w.ownsRow base e 1 v n xs)
 (A:Option Addr) (m c:Nat) (zs:List Int) (hx:a.eval x = .slice A m c) (hin:IntsAt w A m zs)
 (h63:n + m ≤ maxLen) (hbytes:(n + m) * bytes ≤ 140737488355328) (hbase:base ≤ w.heap.size)
 (h:∀ v' w',w'.ownsRow base e 1 v' (n + m) (xs ++ zs.map (.int .i64)) → w.grownBy w' v.ownBlock → wpList P ops Q rest (a.put o.dst v') w'):wpList P ops Q (o :: rest) a w :=
 wpList_plain hgd fun _ hK => wp_append_ints w s x t ho base e i z bytes ht hi hz hsize hby hzs v n xs hs hown A m c zs hx hin h63 hbytes hbase fun v' w' h2 h3 => hK _ _ (h v' w' h2 h3)
end
end Go.Proofs.YtghdiolnonejaaaGreatDoor
end
section
namespace Go.Proofs.YtghdiolnonejaaaGreatDoor
open Go.RowKit
def pre (xs ys:List Int) (k:Nat):List Int := if k = 0 then [] else if k = 1 then xs else xs ++ ys
theorem owns_slice {w:World} {base:Nat} {e:TypeId} {size:Nat} {v:Value} {n:Nat} {xs:List Value} (h:w.ownsRow base e size v n xs):∃ A c,v = .slice A n c := by
 rcases h.2 with ⟨rfl,rfl⟩ | ⟨g,cap,cur,rfl,_⟩
 ·exact ⟨_,_,rfl⟩
 ·exact ⟨_,_,rfl⟩
def OwnN (w:World) (base g n cap:Nat) (l:List Nat):Prop := w.ownsRow base 3 1 (.slice (some ⟨g,0,none⟩) n cap) n (l.map (fun k:Nat => Value.int .i64 k))
theorem OwnN.len {w:World} {base g n cap:Nat} {l:List Nat} (h:OwnN w base g n cap l):l.length = n := by have := h.1; simpa using this
theorem OwnN.cell {w:World} {base g n cap:Nat} {l:List Nat} (h:OwnN w base g n cap l) {k:Nat} (hk:k < n):w.cell? ⟨g,k,none⟩ = some (.int .i64 (l.getD k 0:Nat)) := by
 have hl:=h.len
 rw [World.ownsRow.cellAt h k (by omega),List.getElem?_map,List.getElem?_eq_getElem (by omega),List.getD_eq_getElem?_getD,List.getElem?_eq_getElem (by omega)]; rfl
theorem OwnN.free {w:World} {base g n cap:Nat} {l:List Nat} (h:OwnN w base g n cap l) (k:Nat):w.frozen? ⟨g,k,none⟩ = false := World.ownsRow.frozenAt h k
theorem OwnN.set {w:World} {base g n cap:Nat} {l:List Nat} (h:OwnN w base g n cap l) (k v:Nat):OwnN (w.setCell ⟨g,k,none⟩ (.int .i64 (v:Nat))) base g n cap (l.set k v) ∧ w.grownBy (w.setCell ⟨g,k,none⟩ (.int .i64 (v:Nat))) (some g) := by
 have:=World.ownsRow.stored h k (.int .i64 (v:Nat))
 refine ⟨?_,this.2⟩
 unfold OwnN
 rw [List.map_set]
 exact this.1
theorem grownBy_trans {w w1 w2:World} {r:Option Nat} (h:w.grownBy w1 r) (h2:w1.grownBy w2 r):w.grownBy w2 r :=
 ⟨h2.os.trans h.os,h2.tape.trans h.tape,h2.output.trans h.output,Nat.le_trans h.size h2.size,fun k hk hr => (h2.block k (Nat.lt_of_lt_of_le hk h.size) hr).trans (h.block k hk hr)⟩
def jn (l:List Nat) (a b:Nat):List Nat := (l.set a b).set b a
theorem join_any (base g n cap a b:Nat) (l:List Nat) (w:World) (h:OwnN w base g n cap l) (ha:a < n) (hb:b < n) (hn:n ≤ 100000) :
 Calls Tryz.prog 75 #[.slice (some ⟨g,0,none⟩) n cap,.int .i64 (a:Int),.int .i64 (b:Int)] w fun e w' => e = .returned (.tuple #[]) ∧ OwnN w' base g n cap (jn l a b) ∧ w.grownBy w' (some g) := by
 have c1:=h.cell ha
 have f1:=h.free a
 obtain ⟨h2,g2⟩:=h.set a b
 have c2:=h2.cell hb
 have f2:=h2.free b
 obtain ⟨h3,g3⟩:=h2.set b a
 have H3:=hide h3
 have G3:=hide (grownBy_trans g2 g3)
 clear h h2 h3 g2 g3
 go_enter Tryz.func75,Tryz.ntmps75
 go_wp2
 go_end0
 exact ⟨rfl,H3.out,G3.out⟩
end Go.Proofs.YtghdiolnonejaaaGreatDoor
end
section
namespace Go.Proofs.YtghdiolnonejaaaGreatDoor.Pl
variable {d:Dg}
def addN (o:List Nat) (b:Nat):List Nat := if b ∈ o then o else o ++ [b]
def addS (d:Dg) (o:List Nat) (c:Nat):Nat → List Nat
 | 0 => o
 | s + 1 => addN (addS d o c s) (nb d c s)
def ordK (d:Dg) (r:Nat):Nat → List Nat
 | 0 => [r]
 | k + 1 => match (ordK d r k)[k]? with
   | some c => addS d (ordK d r k) c 4
   | none => ordK d r k
def ord (d:Dg) (r:Nat):List Nat := ordK d r d.n
theorem addN_pre (o:List Nat) (b:Nat):o <+: addN o b := by
 unfold addN; split
 ·exact List.prefix_refl _
 ·exact List.prefix_append _ _
theorem addN_mem (o:List Nat) (b:Nat):b ∈ addN o b := by
 unfold addN; split
 ·assumption
 ·simp
theorem mem_addN {o:List Nat} {b x:Nat} (h:x ∈ addN o b):x ∈ o ∨ x = b := by
 unfold addN at h; split at h
 ·exact .inl h
 ·simpa using h
theorem addN_nodup {o:List Nat} (h:o.Nodup) (b:Nat):(addN o b).Nodup := by
 unfold addN; split
 ·exact h
 ·rename_i hb
  rw [List.nodup_append]
  exact ⟨h,by simp,fun x hx y hy => by simp at hy; subst hy; exact fun e => hb (e ▸ hx)⟩
theorem addS_pre (o:List Nat) (c:Nat):∀ s,o <+: addS d o c s
 | 0 => List.prefix_refl _
 | s + 1 => (addS_pre o c s).trans (addN_pre _ _)
theorem addS_mono (o:List Nat) (c:Nat) (s:Nat):∀ k,addS d o c s <+: addS d o c (s + k)
 | 0 => List.prefix_refl _
 | k + 1 => (addS_mono o c s k).trans (addN_pre _ _)
theorem addS_mem (o:List Nat) (c:Nat) {t s:Nat} (h:t < s):nb d c t ∈ addS d o c s := by
 obtain ⟨k,rfl⟩:∃ k,s = t + 1 + k := ⟨s - (t + 1),by omega⟩
 exact (addS_mono o c (t + 1) k).subset (addN_mem _ _)
theorem mem_addS {o:List Nat} {c x:Nat}:∀ {s:Nat},x ∈ addS d o c s → x ∈ o ∨ ∃ t,t < s ∧ x = nb d c t
 | 0,h => .inl h
 | s + 1, h => by
   rcases mem_addN h with h | h
   ·rcases mem_addS h with h | ⟨t,h1,h2⟩
    ·exact .inl h
    ·exact .inr ⟨t,by omega,h2⟩
   ·exact .inr ⟨s,by omega,h⟩
theorem addS_nodup {o:List Nat} (h:o.Nodup) (c:Nat):∀ s,(addS d o c s).Nodup
 | 0 => h
 | s + 1 => addN_nodup (addS_nodup h c s) _
theorem ordK_pre (r k:Nat):ordK d r k <+: ordK d r (k + 1) := by
 conv => rhs; rw [ordK]
 split
 ·exact addS_pre _ _ _
 ·exact List.prefix_refl _
theorem ordK_mono (r k:Nat):∀ j,ordK d r k <+: ordK d r (k + j)
 | 0 => List.prefix_refl _
 | j + 1 => (ordK_mono r k j).trans (ordK_pre r (k + j))
theorem ordK_some {r k c:Nat} (h:(ordK d r k)[k]? = some c):ordK d r (k + 1) = addS d (ordK d r k) c 4 := by
 rw [ordK,h]
theorem ordK_none {r k:Nat} (h:(ordK d r k).length ≤ k):ordK d r (k + 1) = ordK d r k := by
 rw [ordK,List.getElem?_eq_none h]
theorem ordK_stop {r k:Nat} (h:(ordK d r k).length ≤ k):∀ j,ordK d r (k + j) = ordK d r k
 | 0 => rfl
 | j + 1 => by
   have ih:=ordK_stop h j
   rw [show k + (j + 1) = k + j + 1 by omega,ordK_none (by rw [ih]; omega),ih]
structure OK (d:Dg) (r k:Nat) (o:List Nat):Prop where
 nd:o.Nodup
 mem:∀ c,c ∈ o → c < d.n ∧ Comp d r c
 root:r ∈ o
 done:∀ i c,i < k → o[i]? = some c → ∀ t,t < 4 → nb d c t ∈ o
theorem OK.start {r:Nat} (hr:r < d.n):OK d r 0 [r] :=
 ⟨by simp,fun c hc => by simp at hc; subst hc; exact ⟨hr,.refl⟩,by simp,fun i c h => absurd h (by omega)⟩
theorem OK.step (hd:Wf d) {r k c:Nat} {o:List Nat} (h:OK d r k o) (hc:o[k]? = some c):OK d r (k + 1) (addS d o c 4) := by
 have hcm:=h.mem c (List.mem_of_getElem? hc)
 have hpre:=addS_pre (d := d) o c 4
 refine ⟨addS_nodup h.nd c 4,fun x hx => ?_,hpre.subset h.root,fun i x hi hx t ht => ?_⟩
 ·rcases mem_addS hx with hx | ⟨t,ht,rfl⟩
  ·exact h.mem x hx
  ·exact ⟨nb_lt hd hcm.1 ht,hcm.2.trans (nb_comp hd hcm.1 ht)⟩
 ·have hik : i < o.length := by
   have:k < o.length:=by
    rcases Nat.lt_or_ge k o.length with h1 | h1
    ·exact h1
    ·rw [List.getElem?_eq_none h1] at hc; cases hc
   omega
  obtain ⟨l,hl⟩:=hpre
  rw [← hl,List.getElem?_append_left hik] at hx
  by_cases e:i = k
  ·subst e
   rw [hx] at hc
   injection hc with hc
   subst hc
   exact addS_mem _ _ ht
  ·rw [← hl]; exact List.mem_append_left _ (h.done i x (by omega) hx t ht)
theorem ordK_ok (hd:Wf d) {r:Nat} (hr:r < d.n):∀ k,OK d r k (ordK d r k)
 | 0 => OK.start hr
 | k + 1 => by
   have ih:=ordK_ok hd hr k
   cases hc:(ordK d r k)[k]? with
   | some c => rw [ordK_some hc]; exact ih.step hd hc
   | none =>
     have hl:(ordK d r k).length ≤ k:=by
      rcases Nat.lt_or_ge k (ordK d r k).length with h1 | h1
      ·rw [List.getElem?_eq_getElem h1] at hc; cases hc
      ·exact h1
     rw [ordK_none hl]
     refine ⟨ih.nd,ih.mem,ih.root,fun i c hi hx t ht => ih.done i c ?_ hx t ht⟩
     have:i < (ordK d r k).length:=by
      rcases Nat.lt_or_ge i (ordK d r k).length with h1 | h1
      ·exact h1
      ·rw [List.getElem?_eq_none h1] at hx; cases hx
     omega
theorem nodup_len {o:List Nat} {n:Nat} (h:o.Nodup) (hl:∀ c,c ∈ o → c < n):o.length ≤ n := by
 refine pigeon o.length n (fun i => o.getD i 0) (fun i hi => ?_) (fun i j hi hj e => ?_)
 ·rw [List.getD_eq_getElem?_getD,List.getElem?_eq_getElem hi]
  exact hl _ (List.getElem_mem hi)
 ·simp only [List.getD_eq_getElem?_getD,List.getElem?_eq_getElem hi,List.getElem?_eq_getElem hj,Option.getD_some] at e
  exact (List.getElem_inj h).1 e
theorem OK.len {r k:Nat} {o:List Nat} (h:OK d r k o):o.length ≤ d.n := nodup_len h.nd (fun c hc => (h.mem c hc).1)
theorem ord_ok (hd:Wf d) {r:Nat} (hr:r < d.n):OK d r (ord d r).length (ord d r) := by
 have h:=ordK_ok hd hr d.n
 exact ⟨h.nd,h.mem,h.root,fun i c hi hx => h.done i c (by have := h.len; unfold ord at hi; omega) hx⟩
theorem ord_mem (hd:Wf d) {r:Nat} (hr:r < d.n) (c:Nat):c ∈ ord d r ↔ Comp d r c := by
 have h:=ord_ok hd hr
 refine ⟨fun hc => (h.mem c hc).2,fun e => ?_⟩
 refine comp_closed hd (P := fun c => c ∈ ord d r) (fun a ha hm t ht => ?_) hr h.root e
 obtain ⟨i,hi,rfl⟩:=List.getElem_of_mem hm
 exact h.done i _ hi (List.getElem?_eq_getElem hi) t ht
theorem ord_len (hd:Wf d) {r:Nat} (hr:r < d.n):(ord d r).length ≤ d.n := (ord_ok hd hr).len
theorem ord_eq {r k:Nat} (hk:k ≤ d.n) (h:(ordK d r k).length ≤ k):ordK d r k = ord d r := by
 have:=ordK_stop h (d.n - k)
 rw [show k + (d.n - k) = d.n by omega] at this
 exact this.symm
theorem ordK_ord (r:Nat) {k:Nat} (hk:k ≤ d.n):ordK d r k <+: ord d r := by
 have:=ordK_mono (d := d) r k (d.n - k)
 rwa [show k + (d.n - k) = d.n by omega] at this
theorem idx_pre {o o':List Nat} (h:o <+: o') {b:Nat} (hb:b ∈ o):o'.idxOf b = o.idxOf b := by
 obtain ⟨l,rfl⟩:=h
 rw [List.idxOf_append,if_pos hb]
def chk (d:Dg) (o:List Nat) (c:Nat):List Int :=
 [d.s c,((4 * o.idxOf (nb d c 0) + d.m (4 * c) % 4:Nat):Int),((4 * o.idxOf (nb d c 1) + d.m (4 * c + 1) % 4:Nat):Int),((4 * o.idxOf (nb d c 2) + d.m (4 * c + 2) % 4:Nat):Int),((4 * o.idxOf (nb d c 3) + d.m (4 * c + 3) % 4:Nat):Int)]
theorem chk_len (o:List Nat) (c:Nat):(chk d o c).length = 5 := rfl
def code (d:Dg) (r:Nat):List Int := (ord d r).flatMap (chk d (ord d r))
theorem flat5 (o l:List Nat):(l.flatMap (chk d o)).length = 5 * l.length := by
 induction l with
 | nil => rfl
 | cons c l ih => rw [List.flatMap_cons,List.length_append,ih,chk_len,List.length_cons]; omega
theorem code_len (r:Nat):(code d r).length = 5 * (ord d r).length := flat5 _ _
end Go.Proofs.YtghdiolnonejaaaGreatDoor.Pl
end
section
namespace Go.Proofs.YtghdiolnonejaaaGreatDoor.Pl
def hf (σ:Nat → Nat) (h:Nat):Nat := 4 * σ (h / 4) + h % 4
theorem hf_div (σ:Nat → Nat) (h:Nat):hf σ h / 4 = σ (h / 4) := by unfold hf; omega
theorem hf_mod (σ:Nat → Nat) (h:Nat):hf σ h % 4 = h % 4 := by unfold hf; omega
theorem hf_at (σ:Nat → Nat) (c:Nat) {t:Nat} (ht:t < 4):hf σ (4 * c + t) = 4 * σ c + t := by
 unfold hf; rw [show (4 * c + t) / 4 = c by omega,show (4 * c + t) % 4 = t by omega]
structure Iso (a b:Dg) (σ:Nat → Nat):Prop where
 n:a.n = b.n
 lp:a.lp = b.lp
 lt:∀ c,c < a.n → σ c < a.n
 inj:∀ c c',c < a.n → c' < a.n → σ c = σ c' → c = c'
 s:∀ c,c < a.n → b.s (σ c) = a.s c
 m:∀ h,h < 4 * a.n → b.m (hf σ h) = hf σ (a.m h)
section
variable {a b:Dg} {σ:Nat → Nat}
theorem Iso.refl (a:Dg):Iso a a (fun c => c) :=
 ⟨rfl, rfl, fun _ h => h, fun _ _ _ _ h => h, fun _ _ => rfl, fun h _ => by
   have e:∀ x,hf (fun c => c) x = x:=fun x => by unfold hf; show 4 * (x / 4) + x % 4 = x; omega
   rw [e,e]⟩
theorem Iso.hlt (I:Iso a b σ) {h:Nat} (hh:h < 4 * a.n):hf σ h < 4 * a.n := by
 have:=I.lt (h / 4) (by omega); unfold hf; omega
theorem Iso.hinj (I:Iso a b σ) {g h:Nat} (hg:g < 4 * a.n) (hh:h < 4 * a.n) (e:hf σ g = hf σ h):g = h := by
 have h1:=congrArg (· / 4) e
 have h2:=congrArg (· % 4) e
 simp only [hf_div,hf_mod] at h1 h2
 have:=I.inj (g / 4) (h / 4) (by omega) (by omega) h1
 omega
theorem Iso.bij (I:Iso a b σ):Bij a.n (fun c => c < a.n) σ := ⟨fun _ h => h,I.lt,I.inj⟩
theorem Iso.symm (I:Iso a b σ) (hd:Wf a):∃ τ,Iso b a τ ∧ (∀ c,c < a.n → τ (σ c) = c) ∧ ∀ c,c < a.n → σ (τ c) = c := by
 have hx:∀ c,∃ q,c < a.n → q < a.n ∧ σ q = c:=fun c => by
  by_cases h:c < a.n
  ·obtain ⟨p,hp,_,e⟩:=I.bij.back h
   refine ⟨it σ (p - 1) c,fun _ => ⟨I.bij.it _ c h,?_⟩⟩
   have:p = (p - 1) + 1:=by omega
   rw [this] at e
   exact e
  ·exact ⟨0,fun h' => absurd h' h⟩
 let τ := fun c => Classical.choose (hx c)
 have t1:∀ c,c < a.n → τ c < a.n ∧ σ (τ c) = c:=fun c hc => Classical.choose_spec (hx c) hc
 have t2:∀ c,c < a.n → τ (σ c) = c:=fun c hc => I.inj _ _ (t1 _ (I.lt c hc)).1 hc (t1 _ (I.lt c hc)).2
 have t3:∀ h,h < 4 * a.n → hf σ (hf τ h) = h:=fun h hh => by
  unfold hf; rw [show (4 * τ (h / 4) + h % 4) / 4 = τ (h / 4) by omega,(t1 (h / 4) (by omega)).2]; omega
 refine ⟨τ,⟨I.n.symm,I.lp.symm,fun c hc => ?_,fun c c' hc hc' e => ?_,fun c hc => ?_,fun h hh => ?_⟩,t2,fun c hc => (t1 c hc).2⟩
 ·rw [← I.n] at hc ⊢; exact (t1 c hc).1
 ·rw [← I.n] at hc hc'; rw [← (t1 c hc).2,← (t1 c' hc').2,e]
 ·rw [← I.n] at hc; rw [← I.s _ (t1 c hc).1,(t1 c hc).2]
 ·rw [← I.n] at hh
  have hl:hf τ h < 4 * a.n:=by have := (t1 (h / 4) (by omega)).1; unfold hf; omega
  have e:=I.m _ hl
  rw [t3 h hh] at e
  refine I.hinj (hd.lt _ hl) ?_ ?_
  ·have h1:b.m h < 4 * a.n:=by rw [e]; exact I.hlt (hd.lt _ hl)
   have:=(t1 (b.m h / 4) (by omega)).1; unfold hf; omega
  ·rw [← e,t3 _ (by rw [e]; exact I.hlt (hd.lt _ hl))]
theorem Iso.nb (I:Iso a b σ) {c t:Nat} (hc:c < a.n) (ht:t < 4):Pl.nb b (σ c) t = σ (Pl.nb a c t) := by
 unfold Pl.nb
 rw [← hf_at σ c ht,I.m _ (by omega),hf_div]
theorem Iso.mm (I:Iso a b σ) {c t:Nat} (hc:c < a.n) (ht:t < 4):b.m (4 * σ c + t) % 4 = a.m (4 * c + t) % 4 := by
 rw [← hf_at σ c ht,I.m _ (by omega),hf_mod]
theorem mem_map_inj {o:List Nat} {x n:Nat} (inj:∀ c c',c < n → c' < n → σ c = σ c' → c = c') (ho:∀ c,c ∈ o → c < n) (hx:x < n):σ x ∈ o.map σ ↔ x ∈ o := by
 rw [List.mem_map]
 constructor
 ·rintro ⟨y,hy,e⟩; rwa [← inj y x (ho y hy) hx e]
 ·intro h; exact ⟨x,h,rfl⟩
theorem idx_map {n:Nat} (inj:∀ c c',c < n → c' < n → σ c = σ c' → c = c') {x:Nat} (hx:x < n):∀ {o:List Nat},(∀ c,c ∈ o → c < n) → (o.map σ).idxOf (σ x) = o.idxOf x
 | [],_ => rfl
 | y :: o, ho => by
   rw [List.map_cons,List.idxOf_cons,List.idxOf_cons,idx_map inj hx (fun c hc => ho c (by simp [hc]))]
   by_cases e:y = x
   ·subst e; simp
   ·have:σ y ≠ σ x:=fun e' => e (inj y x (ho y (by simp)) hx e')
    rw [beq_false_of_ne this,beq_false_of_ne e]
theorem Iso.addN (I:Iso a b σ) {o:List Nat} {x:Nat} (ho:∀ c,c ∈ o → c < a.n) (hx:x < a.n):Pl.addN (o.map σ) (σ x) = (Pl.addN o x).map σ := by
 unfold Pl.addN
 by_cases h:x ∈ o
 ·rw [if_pos h,if_pos ((mem_map_inj I.inj ho hx).2 h)]
 ·rw [if_neg h,if_neg (fun e => h ((mem_map_inj I.inj ho hx).1 e))]; simp
theorem addS_lt (hd:Wf a) {o:List Nat} {c s:Nat} (ho:∀ c,c ∈ o → c < a.n) (hc:c < a.n) (hs:s ≤ 4):∀ x,x ∈ Pl.addS a o c s → x < a.n := fun x hx => by
 rcases mem_addS hx with hx | ⟨t,ht,rfl⟩
 ·exact ho x hx
 ·exact nb_lt hd hc (by omega)
theorem Iso.addS (I:Iso a b σ) (hd:Wf a) {o:List Nat} {c:Nat} (ho:∀ c,c ∈ o → c < a.n) (hc:c < a.n):∀ s,s ≤ 4 → Pl.addS b (o.map σ) (σ c) s = (Pl.addS a o c s).map σ
 | 0,_ => rfl
 | s + 1, h => by
   unfold Pl.addS
   rw [I.addS hd ho hc s (by omega),I.nb hc (by omega)]
   exact I.addN (addS_lt hd ho hc (by omega)) (nb_lt hd hc (by omega))
theorem Iso.ordK (I:Iso a b σ) (hd:Wf a) {r:Nat} (hr:r < a.n):∀ k,Pl.ordK b (σ r) k = (Pl.ordK a r k).map σ
 | 0 => rfl
 | k + 1 => by
   have ih:=I.ordK hd hr k
   have hm:=fun c hc => ((ordK_ok hd hr k).mem c hc).1
   cases hc:(Pl.ordK a r k)[k]? with
   | some c =>
     have h2:(Pl.ordK b (σ r) k)[k]? = some (σ c):=by rw [ih,List.getElem?_map,hc]; rfl
     rw [ordK_some hc,ordK_some h2,ih]
     exact I.addS hd hm (hm c (List.mem_of_getElem? hc)) 4 (Nat.le_refl _)
   | none =>
     have hl:(Pl.ordK a r k).length ≤ k:=by
      rcases Nat.lt_or_ge k (Pl.ordK a r k).length with h1 | h1
      ·rw [List.getElem?_eq_getElem h1] at hc; cases hc
      ·exact h1
     rw [ordK_none hl,ordK_none (by rw [ih,List.length_map]; exact hl),ih]
theorem Iso.ord (I:Iso a b σ) (hd:Wf a) {r:Nat} (hr:r < a.n):Pl.ord b (σ r) = (Pl.ord a r).map σ := by
 unfold Pl.ord; rw [← I.n]; exact I.ordK hd hr a.n
theorem Iso.chk (I:Iso a b σ) (hd:Wf a) {o:List Nat} {c:Nat} (ho:∀ c,c ∈ o → c < a.n) (hc:c < a.n):Pl.chk b (o.map σ) (σ c) = Pl.chk a o c := by
 have e:∀ t,t < 4 → (o.map σ).idxOf (Pl.nb b (σ c) t) = o.idxOf (Pl.nb a c t):=fun t ht => by
  rw [I.nb hc ht]; exact idx_map I.inj (nb_lt hd hc ht) ho
 have m0:=I.mm hc (t := 0) (by omega)
 rw [Nat.add_zero,Nat.add_zero] at m0
 unfold Pl.chk
 rw [I.s c hc,e 0 (by omega),e 1 (by omega),e 2 (by omega),e 3 (by omega),m0,I.mm hc (t := 1) (by omega),I.mm hc (t := 2) (by omega),I.mm hc (t := 3) (by omega)]
theorem flat_map_eq {f g:Nat → List Int}:∀ {l:List Nat},(∀ c,c ∈ l → f (σ c) = g c) → (l.map σ).flatMap f = l.flatMap g
 | [],_ => rfl
 | c :: l, h => by
   rw [List.map_cons,List.flatMap_cons,List.flatMap_cons,h c (by simp),flat_map_eq (fun x hx => h x (by simp [hx]))]
theorem Iso.code (I:Iso a b σ) (hd:Wf a) {r:Nat} (hr:r < a.n):Pl.code b (σ r) = Pl.code a r := by
 unfold Pl.code
 rw [I.ord hd hr]
 have hm:=fun c hc => ((ord_ok hd hr).mem c hc).1
 exact flat_map_eq (fun c hc => I.chk hd hm (hm c hc))
theorem Iso.comp (I:Iso a b σ) (hd:Wf a) (hb:Wf b) {x y:Nat} (hx:x < a.n) (hy:y < a.n):Comp b (σ x) (σ y) ↔ Comp a x y := by
 rw [← ord_mem hd hx,← ord_mem hb (by rw [← I.n]; exact I.lt x hx),I.ord hd hx]
 exact mem_map_inj I.inj (fun c hc => ((ord_ok hd hx).mem c hc).1) hy
end
end Go.Proofs.YtghdiolnonejaaaGreatDoor.Pl
end
section
namespace Go.Proofs.YtghdiolnonejaaaGreatDoor.Pl
def lx:List Int → List Int → Int
 | [],[] => 0
 | [],_ :: _ => -1
 | _ :: _,[] => 1
 | x :: l,y :: m => if x < y then -1 else if y < x then 1 else lx l m
theorem lx_self:∀ l,lx l l = 0
 | [] => rfl
 | x :: l => by unfold lx; rw [if_neg (by omega),if_neg (by omega),lx_self l]
theorem lx_eq:∀ {l m:List Int},lx l m = 0 → l = m
 | [],[],_ => rfl
 | [],_ :: _,h => by simp [lx] at h
 | _ :: _,[],h => by simp [lx] at h
 | x :: l, y :: m, h => by
   unfold lx at h
   by_cases h1:x < y
   ·rw [if_pos h1] at h; omega
   ·by_cases h2:y < x
    ·rw [if_neg h1,if_pos h2] at h; omega
    ·rw [if_neg h1,if_neg h2] at h
     rw [lx_eq h,show x = y by omega]
theorem lx_neg:∀ (l m:List Int),lx m l = - lx l m
 | [],[] => rfl
 | [],_ :: _ => rfl
 | _ :: _,[] => rfl
 | x :: l, y :: m => by
   unfold lx
   by_cases h1:x < y
   ·rw [if_pos h1,if_neg (by omega),if_pos h1]; rfl
   ·by_cases h2:y < x
    ·rw [if_pos h2,if_neg h1,if_pos h2]
    ·rw [if_neg h1,if_neg h2,if_neg h1,if_neg h2,lx_neg l m]
theorem lx_trans:∀ {l m k:List Int},lx l m ≤ 0 → lx m k ≤ 0 → lx l k ≤ 0
 | [],[],k,_,h => h
 | [],_ :: _,[],_,_ => by simp [lx]
 | [],_ :: _,_ :: _,_,_ => by simp [lx]
 | _ :: _,[],_,h,_ => by simp [lx] at h
 | _ :: _,_ :: _,[],_,h => by simp [lx] at h
 | x :: l, y :: m, z :: k, h1, h2 => by
   unfold lx at h1 h2 ⊢
   by_cases a1:x < y
   ·by_cases b1:y < z
    ·rw [if_pos (by omega)]; omega
    ·by_cases b2:z < y
     ·rw [if_neg b1,if_pos b2] at h2; omega
     ·rw [if_pos (by omega)]; omega
   ·by_cases a2:y < x
    ·rw [if_neg a1,if_pos a2] at h1; omega
    ·rw [if_neg a1,if_neg a2] at h1
     by_cases b1:y < z
     ·rw [if_pos (by omega)]; omega
     ·by_cases b2:z < y
      ·rw [if_neg b1,if_pos b2] at h2; omega
      ·rw [if_neg b1,if_neg b2] at h2
       rw [if_neg (by omega),if_neg (by omega)]; exact lx_trans h1 h2
theorem lx_anti {l m:List Int} (h1:lx l m ≤ 0) (h2:lx m l ≤ 0):l = m := lx_eq (by rw [lx_neg l m] at h2; omega)
theorem lx_app:∀ {l m:List Int},l.length = m.length → ∀ l' m',lx (l ++ l') (m ++ m') = if lx l m = 0 then lx l' m' else lx l m
 | [],[],_,l',m' => by simp [lx]
 | [],_ :: _,h,_,_ => by simp at h
 | _ :: _,[],h,_,_ => by simp at h
 | x :: l, y :: m, h, l', m' => by
   have ih:=lx_app (l := l) (m := m) (by simpa using h) l' m'
   have e:∀ (x y:Int) (l m:List Int),lx (x :: l) (y :: m) = if x < y then -1 else if y < x then 1 else lx l m:=fun _ _ _ _ => rfl
   rw [List.cons_append,List.cons_append,e,e]
   by_cases h1:x < y
   ·rw [if_pos h1,if_pos h1,if_neg (by omega)]
   ·by_cases h2:y < x
    ·rw [if_neg h1,if_pos h2,if_neg h1,if_pos h2,if_neg (by omega)]
    ·rw [if_neg h1,if_neg h2,if_neg h1,if_neg h2,ih]
def kle (c c':List Int):Prop := c.length < c'.length ∨ (c.length = c'.length ∧ lx c c' ≤ 0)
theorem kle_anti {c c':List Int} (h1:kle c c') (h2:kle c' c):c = c' := by
 rcases h1 with h1 | ⟨h1,h1'⟩ <;> rcases h2 with h2 | ⟨h2,h2'⟩
 ·omega
 ·omega
 ·omega
 ·exact lx_anti h1' h2'
theorem kle_trans {c c' c'':List Int} (h1:kle c c') (h2:kle c' c''):kle c c'' := by
 rcases h1 with h1 | ⟨h1,h1'⟩ <;> rcases h2 with h2 | ⟨h2,h2'⟩
 ·exact .inl (by omega)
 ·exact .inl (by omega)
 ·exact .inl (by omega)
 ·exact .inr ⟨by omega,lx_trans h1' h2'⟩
theorem kle_total (c c':List Int):kle c c' ∨ kle c' c := by
 rcases Nat.lt_trichotomy c.length c'.length with h | h | h
 ·exact .inl (.inl h)
 ·rcases Int.le_total (lx c c') 0 with h1 | h1
  ·exact .inl (.inr ⟨h,h1⟩)
  ·exact .inr (.inr ⟨h.symm,by rw [lx_neg c c']; omega⟩)
 ·exact .inr (.inl h)
structure Pc where
 code:List Int
 order:List Nat
 roots:Int
def PcOk (d:Dg) (p:Pc):Prop := ∃ r,r < d.n ∧ p.code = code d r ∧ p.order = ord d r ∧ ∀ q,Comp d r q → lx (code d r) (code d q) ≤ 0
structure Pcs (d:Dg) (ps:List Pc):Prop where
 ok:∀ p,p ∈ ps → PcOk d p
 nd:(ps.flatMap Pc.order).Nodup
 all:∀ c,c < d.n → ∃ p,p ∈ ps ∧ c ∈ p.order
def Srt (ps:List Pc):Prop := ps.Pairwise (fun p q => kle p.code q.code)
def pcode (lp:Nat) (ps:List Pc):List Int := (lp:Int) :: (ps.length:Int) :: ps.flatMap (fun p => (p.order.length:Int) :: p.code)
theorem Pcs.uniq {d:Dg} {ps:List Pc} (h:Pcs d ps) {i j c:Nat} {p q:Pc} (hi:ps[i]? = some p) (hj:ps[j]? = some q) (hp:c ∈ p.order) (hq:c ∈ q.order):i = j := by
 have h1:=(List.pairwise_flatMap.1 h.nd).2
 rw [List.pairwise_iff_getElem] at h1
 obtain ⟨li,ei⟩:=List.getElem?_eq_some_iff.1 hi
 obtain ⟨lj,ej⟩:=List.getElem?_eq_some_iff.1 hj
 rcases Nat.lt_trichotomy i j with e | e | e
 ·exact absurd rfl (h1 i j li lj e c (by rw [ei]; exact hp) c (by rw [ej]; exact hq))
 ·exact e
 ·exact absurd rfl (h1 j i lj li e c (by rw [ej]; exact hq) c (by rw [ei]; exact hp))
theorem Pcs.at_ {d:Dg} {ps:List Pc} (h:Pcs d ps) {c:Nat} (hc:c < d.n):∃ (i:Nat) (p:Pc),ps[i]? = some p ∧ c ∈ p.order := by
 obtain ⟨p,hp,hm⟩:=h.all c hc
 obtain ⟨i,hi,rfl⟩:=List.getElem_of_mem hp
 exact ⟨i,_,List.getElem?_eq_getElem hi,hm⟩
theorem PcOk.len {d:Dg} {p:Pc} (h:PcOk d p):p.code.length = 5 * p.order.length := by
 obtain ⟨r,_,e1,e2,_⟩:=h
 rw [e1,e2,code_len]
theorem perm_of_corr {α:Type}:∀ (K L:List α) (π:Nat → Nat),(∀ i,i < K.length → π i < L.length ∧ L[π i]? = K[i]?) → (∀ i j,i < K.length → j < K.length → π i = π j → i = j) → ∃ r,L.Perm (K ++ r)
 | [],L,_,_,_ => ⟨L,by simp⟩
 | k :: K, L, π, h, hinj => by
   obtain ⟨hl,he⟩:=h 0 (by simp)
   have he':L[π 0] = k:=by
    rw [List.getElem?_eq_getElem hl] at he
    simpa using he
   have hL:L.Perm (k :: L.eraseIdx (π 0)):=by
    have h1:L = L.take (π 0) ++ k :: L.drop (π 0 + 1):=by
     conv => lhs; rw [← List.take_append_drop (π 0) L]
     rw [List.drop_eq_getElem_cons hl,he']
    have h2:L.eraseIdx (π 0) = L.take (π 0) ++ L.drop (π 0 + 1):=List.eraseIdx_eq_take_drop_succ _ _
    rw [h2]
    conv => lhs; rw [h1]
    exact List.perm_middle
   have hlen:(L.eraseIdx (π 0)).length + 1 = L.length:=by rw [List.length_eraseIdx,if_pos hl]; omega
   have key:∀ i,i < K.length → π (i + 1) ≠ π 0:=fun i hi e => by
    have:=hinj (i + 1) 0 (by simp; omega) (by simp) e
    omega
   obtain ⟨r,hr⟩:=perm_of_corr K (L.eraseIdx (π 0)) (fun i => if π (i + 1) < π 0 then π (i + 1) else π (i + 1) - 1) (fun i hi => by
    obtain ⟨h1,h2⟩:=h (i + 1) (by simp; omega)
    have hne:=key i hi
    rw [List.getElem?_cons_succ] at h2
    by_cases e:π (i + 1) < π 0
    ·simp only [if_pos e]
     exact ⟨by omega,by rw [List.getElem?_eraseIdx_of_lt e,h2]⟩
    ·simp only [if_neg e]
     refine ⟨by omega,?_⟩
     rw [List.getElem?_eraseIdx_of_ge (by omega),show π (i + 1) - 1 + 1 = π (i + 1) by omega,h2]) (fun i j hi hj e => by
    have hne1:=key i hi
    have hne2:=key j hj
    have:π (i + 1) = π (j + 1):=by
     split at e <;> split at e <;> omega
    have:=hinj (i + 1) (j + 1) (by simp; omega) (by simp; omega) this
    omega)
   exact ⟨r,hL.trans (hr.cons k)⟩
section
variable {a b:Dg} {ps qs:List Pc} {σ:Nat → Nat}
theorem Pcs.corr (I:Iso a b σ) (ha:Wf a) (hb:Wf b) (hp:Pcs a ps) (hq:Pcs b qs):ps.length ≤ qs.length ∧ ∃ r,(qs.map Pc.code).Perm (ps.map Pc.code ++ r) := by
 obtain ⟨τ,J,t1,t2⟩:=I.symm ha
 have hw:∀ i,∃ j,i < ps.length → ∃ (p q:Pc),ps[i]? = some p ∧ qs[j]? = some q ∧ p.code = q.code ∧ ∃ r,r ∈ p.order ∧ σ r ∈ q.order ∧ r < a.n:=fun i => by
  by_cases hi:i < ps.length
  ·obtain ⟨r,hr,e1,e2,hl⟩:=hp.ok _ (List.getElem_mem hi)
   have hsr:σ r < b.n:=by rw [← I.n]; exact I.lt r hr
   obtain ⟨j,q,hj,hm⟩:=hq.at_ hsr
   refine ⟨j,fun _ => ⟨_,q,List.getElem?_eq_getElem hi,hj,?_,r,by rw [e2]; exact (ord_ok ha hr).root,hm,hr⟩⟩
   obtain ⟨r',hr',f1,f2,fl⟩:=hq.ok q (List.mem_of_getElem? hj)
   rw [f2,ord_mem hb hr'] at hm
   have k1:lx (code b r') (code b (σ r)) ≤ 0:=fl _ hm
   have ht:τ r' < a.n:=by rw [I.n]; exact J.lt r' hr'
   have k2:Comp a r (τ r'):=by
    have:Comp b (σ r) (σ (τ r')):=by rw [t2 r' (by rw [I.n]; exact hr')]; exact comp_symm hb hr' hm
    exact (I.comp ha hb hr ht).1 this
   have k3:=hl _ k2
   rw [I.code ha hr] at k1
   rw [J.code hb hr'] at k3
   rw [e1,f1]
   exact lx_anti k3 k1
  ·exact ⟨0,fun h => absurd h hi⟩
 let π := fun i => Classical.choose (hw i)
 have h1:∀ i,i < ps.length → ∃ (p q:Pc),ps[i]? = some p ∧ qs[π i]? = some q ∧ p.code = q.code ∧ ∃ r,r ∈ p.order ∧ σ r ∈ q.order ∧ r < a.n:=fun i hi => Classical.choose_spec (hw i) hi
 have hlt:∀ i,i < ps.length → π i < qs.length:=fun i hi => by
  obtain ⟨p,q,_,h,_⟩:=h1 i hi
  exact (List.getElem?_eq_some_iff.1 h).1
 have hinj:∀ i j,i < ps.length → j < ps.length → π i = π j → i = j:=fun i j hi hj e => by
  obtain ⟨p,q,e1,e2,_,r,m1,m2,hr⟩:=h1 i hi
  obtain ⟨p',q',f1,f2,_,r',n1,n2,hr'⟩:=h1 j hj
  rw [e] at e2
  rw [e2] at f2
  injection f2 with f2
  subst f2
  obtain ⟨x,hx,x1,x2,_⟩:=hq.ok q (List.mem_of_getElem? e2)
  rw [x2,ord_mem hb hx] at m2 n2
  have k1:Comp a r r':=(I.comp ha hb hr hr').1 ((comp_symm hb hx m2).trans n2)
  obtain ⟨y,hy,y1,y2,_⟩:=hp.ok p (List.mem_of_getElem? e1)
  refine hp.uniq (c := r') e1 f1 ?_ n1
  rw [y2,ord_mem ha hy] at m1 ⊢
  exact m1.trans k1
 refine ⟨pigeon _ _ π hlt hinj,perm_of_corr _ _ π (fun i hi => ?_) (fun i j hi hj e => hinj i j (by simpa using hi) (by simpa using hj) e)⟩
 rw [List.length_map] at hi
 obtain ⟨p,q,e1,e2,e3,_⟩:=h1 i hi
 refine ⟨by rw [List.length_map]; exact hlt i hi,?_⟩
 rw [List.getElem?_map,List.getElem?_map,e1,e2]
 simp [e3]
theorem codes_eq (I:Iso a b σ) (ha:Wf a) (hb:Wf b) (hp:Pcs a ps) (hq:Pcs b qs) (sp:Srt ps) (sq:Srt qs):ps.map Pc.code = qs.map Pc.code := by
 obtain ⟨τ,J,_,_⟩:=I.symm ha
 obtain ⟨l1,r,hr⟩:=hp.corr I ha hb hq
 obtain ⟨l2,_⟩:=hq.corr J hb ha hp
 have:r = []:=by
  have:=hr.length_eq
  rw [List.length_append,List.length_map,List.length_map] at this
  exact List.length_eq_zero_iff.1 (by omega)
 subst this
 rw [List.append_nil] at hr
 exact (List.Perm.eq_of_pairwise (le := kle) (fun x y _ _ h1 h2 => kle_anti h1 h2) (by rw [List.pairwise_map]; exact sq) (by rw [List.pairwise_map]; exact sp) hr).symm
theorem pcode_of {d:Dg} {ps:List Pc} (h:Pcs d ps) (lp:Nat):pcode lp ps = (lp:Int) :: ((ps.map Pc.code).length:Int) :: (ps.map Pc.code).flatMap (fun c => ((c.length / 5:Nat):Int) :: c) := by
 unfold pcode
 rw [List.length_map]
 congr 2
 have:∀ (l:List Pc),(∀ p,p ∈ l → PcOk d p) → l.flatMap (fun p => (p.order.length:Int) :: p.code) = (l.map Pc.code).flatMap (fun c => ((c.length / 5:Nat):Int) :: c):=by
  intro l
  induction l with
  | nil => intro _; rfl
  | cons p l ih =>
    intro hl
    rw [List.map_cons,List.flatMap_cons,List.flatMap_cons,ih (fun q hq => hl q (by simp [hq])),(hl p (by simp)).len,show 5 * p.order.length / 5 = p.order.length by omega]
 exact this ps h.ok
theorem Iso.pcode (I:Iso a b σ) (ha:Wf a) (hb:Wf b) (hp:Pcs a ps) (hq:Pcs b qs) (sp:Srt ps) (sq:Srt qs):Pl.pcode a.lp ps = Pl.pcode b.lp qs := by
 rw [pcode_of hp,pcode_of hq,codes_eq I ha hb hp hq sp sq,I.lp]
end
end Go.Proofs.YtghdiolnonejaaaGreatDoor.Pl
end
section
namespace Go.Proofs.YtghdiolnonejaaaGreatDoor
open Go Go.RowKit
theorem drop_at {xs:List Int} {k:Nat} (h:k < xs.length):xs.drop k = xs.getD k 0 :: xs.drop (k + 1) := by
 rw [List.drop_eq_getElem_cons h,List.getD_eq_getElem?_getD,List.getElem?_eq_getElem h]; rfl
set_option maxRecDepth 100000 in
set_option maxHeartbeats 4000000 in
theorem compare_any (xs ys:List Int) (A B:Option Addr) (n m c c2:Nat) (w:World) (hA:IntsAt w A n xs) (hB:IntsAt w B m ys) (hn:n ≤ 1000000) (hm:m ≤ 1000000) :
 Calls Tryz.prog 117 #[.slice A n c,.slice B m c2] w fun e w' => e = .returned (.int .i64 (Pl.lx xs ys)) ∧ w' = w := by
 have HA:=hide hA
 have HB:=hide hB
 have LA:=hide hA.len
 have LB:=hide hB.len
 clear hA hB
 go_enter Tryz.func117,Tryz.ntmps117
 go_wp2
 go_loopg [5,6,7,8,11] n (fun g s5 s6 s7 s8 i wx => ∃ k:Nat,k + g = n ∧ i = .int .i64 k ∧ k ≤ m ∧ Pl.lx xs ys = Pl.lx (xs.drop k) (ys.drop k) ∧ wx = w)
 case atStart => exact ⟨0,by omega,rfl,by omega,rfl,rfl⟩
 case round =>
  obtain ⟨k,hkg,rfl,hkm,hlx,rfl⟩:=hrel
  have HKG:=hide hkg
  have HLX:=hide hlx
  clear hlx
  by_cases hk:k < n
  ·have hki:(k:Int) < (n:Int):=by omega
   have k0:(0:Int) ≤ (k:Int):=by omega
   obtain ⟨b,o,rfl,x1⟩:=HA.out.at_ hk
   have e1:=drop_at (xs := xs) (k := k) (by rw [LA.out]; exact hk)
   obtain ⟨u,hu⟩:∃ u,u = xs.getD k 0 := ⟨_,rfl⟩
   rw [← hu] at x1 e1
   have E1:=hide e1
   clear hu hkg e1
   by_cases hk2:k < m
   ·have hk2i:(k:Int) < (m:Int):=by omega
    have hk2j:¬ ((m:Int) ≤ (k:Int)):=by omega
    obtain ⟨b2,o2,rfl,y1⟩:=HB.out.at_ hk2
    have e2:=drop_at (xs := ys) (k := k) (by rw [LB.out]; exact hk2)
    obtain ⟨v,hv⟩:∃ v,v = ys.getD k 0 := ⟨_,rfl⟩
    rw [← hv] at y1 e2
    have E2:=hide e2
    clear hv e2
    go_wp2_with fail
    refine (Tryz.cmp_Compare_int u v _).mono ?_
    rintro e w1 ⟨rfl,rfl⟩
    unfold Lib.compareInt
    have HL:=hide HLX.out
    rcases Int.lt_trichotomy u v with h | h | h
    ·have hne:¬ v < u:=by omega
     have HR:=hide (show Pl.lx xs ys = -1 by rw [HLX.out,E1.out,E2.out,Pl.lx,if_pos h])
     rw [if_pos h]
     clear h hne
     go_wp2
     go_ret
     exact ⟨by rw [HR.out]; rfl,rfl⟩
    ·have HR:=hide (show Pl.lx xs ys = Pl.lx (xs.drop (k + 1)) (ys.drop (k + 1)) by rw [HLX.out,E1.out,E2.out,Pl.lx,if_neg (by omega),if_neg (by omega)])
     rw [if_neg (show ¬ u < v by omega),if_neg (show ¬ v < u by omega)]
     clear h
     go_wp2
     go_roundg (gk - 1)
     case measure => have := HKG.out; omega
     case rel => exact ⟨k + 1,by have := HKG.out; omega,by go_num,by omega,HR.out,rfl⟩
    ·have hne:¬ u < v:=by omega
     have HR:=hide (show Pl.lx xs ys = 1 by rw [HLX.out,E1.out,E2.out,Pl.lx,if_neg hne,if_pos h])
     rw [if_neg hne,if_pos h]
     clear h hne
     go_wp2
     go_ret
     exact ⟨by rw [HR.out]; rfl,rfl⟩
   ·have hk2i:(m:Int) ≤ (k:Int):=by omega
    have HR:=hide (show Pl.lx xs ys = 1 by rw [HLX.out,E1.out,List.drop_eq_nil_of_le (show ys.length ≤ k by rw [LB.out]; omega)]; rfl)
    go_wp2
    go_ret
    exact ⟨by rw [HR.out]; rfl,rfl⟩
  ·have hki:¬ ((k:Int) < (n:Int)):=by omega
   have hkn:k = n:=by omega
   subst hkn
   clear hkg
   by_cases hnm:(k:Int) < (m:Int)
   ·have HR := hide (show Pl.lx xs ys = -1 by
     rw [HLX.out,List.drop_eq_nil_of_le (show xs.length ≤ k by rw [LA.out]; exact Nat.le_refl _),drop_at (xs := ys) (k := k) (by rw [LB.out]; omega)]; rfl)
    go_wp2
    go_ret
    exact ⟨by rw [HR.out]; rfl,rfl⟩
   ·have HR := hide (show Pl.lx xs ys = 0 by
     rw [HLX.out,List.drop_eq_nil_of_le (show xs.length ≤ k by rw [LA.out]; exact Nat.le_refl _),List.drop_eq_nil_of_le (show ys.length ≤ k by rw [LB.out]; omega)]; rfl)
    go_wp2
    go_ret
    exact ⟨by rw [HR.out]; rfl,rfl⟩
end Go.Proofs.YtghdiolnonejaaaGreatDoor
end
section
namespace Go.Proofs.YtghdiolnonejaaaGreatDoor.Pl
variable {d:Dg}
def nums (n:Nat) (o:List Nat):List Int := (List.range n).map (fun c => if c ∈ o then ((o.idxOf c:Nat):Int) else -1)
theorem nums_len (n:Nat) (o:List Nat):(nums n o).length = n := by unfold nums; simp
theorem nums_get {n c:Nat} (o:List Nat) (hc:c < n):(nums n o)[c]? = some (if c ∈ o then ((o.idxOf c:Nat):Int) else -1) := by
 unfold nums
 rw [List.getElem?_map,List.getElem?_range hc]
 rfl
theorem nums_nil (n:Nat):nums n [] = List.replicate n (-1) := by
 unfold nums
 refine List.ext_getElem? fun i => ?_
 rw [List.getElem?_map,List.getElem?_replicate]
 by_cases h:i < n
 ·rw [List.getElem?_range h,if_pos h]; simp
 ·rw [List.getElem?_eq_none (by simp; omega),if_neg h]; rfl
theorem nums_add {n b:Nat} {o:List Nat} (hb:b < n) (hn:b ∉ o):nums n (o ++ [b]) = (nums n o).set b (o.length:Int) := by
 refine List.ext_getElem? fun i => ?_
 rw [List.getElem?_set]
 by_cases hi:i < n
 ·rw [nums_get _ hi]
  by_cases e:b = i
  ·subst e
   have h1:b ∈ o ++ [b]:=by simp
   have h2:b < (nums n o).length:=by rw [nums_len]; exact hi
   rw [if_pos h1,if_pos rfl,if_pos h2,List.idxOf_append,if_neg hn]
   simp
  ·rw [if_neg e,nums_get _ hi]
   by_cases hm:i ∈ o
   ·rw [if_pos (by simp [hm]),if_pos hm,List.idxOf_append,if_pos hm]
   ·rw [if_neg (by simp [hm]; exact fun h => e h.symm),if_neg hm]
 ·have h1:(nums n (o ++ [b])).length ≤ i:=by rw [nums_len]; omega
  rw [List.getElem?_eq_none h1,if_neg (by omega),List.getElem?_eq_none (by rw [nums_len]; omega)]
theorem nums_one {n r:Nat} (hr:r < n):nums n [r] = (List.replicate n (-1)).set r 0 := by
 have:=nums_add (o := []) hr (by simp)
 rw [nums_nil] at this
 exact this
theorem flat5_at {o:List Nat}:∀ {l:List Nat} {i c:Nat},l[i]? = some c → ∀ j,j < 5 → (l.flatMap (chk d o))[5 * i + j]? = (chk d o c)[j]?
 | [],i,c,h,_,_ => by simp at h
 | x :: l, 0, c, h, j, hj => by
   obtain rfl:x = c := by simpa using h
   rw [List.flatMap_cons,Nat.mul_zero,Nat.zero_add,List.getElem?_append_left (by rw [chk_len]; exact hj)]
 | x :: l, i + 1, c, h, j, hj => by
   have ih:=flat5_at (o := o) (l := l) (i := i) (c := c) (by simpa using h) j hj
   rw [List.flatMap_cons,List.getElem?_append_right (by rw [chk_len]; omega),chk_len,← ih]
   congr 1
   omega
theorem code_sgn {r i c:Nat} (h:(ord d r)[i]? = some c):(code d r)[5 * i]? = some (d.s c) := by
 have:=flat5_at (d := d) (o := ord d r) h 0 (by omega)
 exact this
theorem code_nb {r i c s:Nat} (h:(ord d r)[i]? = some c) (hs:s < 4):(code d r)[5 * i + 1 + s]? = some (((4 * (ord d r).idxOf (nb d c s) + d.m (4 * c + s) % 4:Nat)):Int) := by
 have:=flat5_at (d := d) (o := ord d r) h (1 + s) (by omega)
 rw [Nat.add_assoc]
 refine this.trans ?_
 have h4:s = 0 ∨ s = 1 ∨ s = 2 ∨ s = 3:=by omega
 rcases h4 with rfl | rfl | rfl | rfl <;> rfl
theorem take_one {α:Type} {l:List α} {k:Nat} {x:α} (h:l[k]? = some x):l.take (k + 1) = l.take k ++ [x] := by
 rw [List.take_add_one,h]; rfl
def vdt (best:Option (List Int)) (c:List Int) (k:Nat):Int := match best with
 | none => -1
 | some b => lx (c.take k) (b.take k)
theorem vdt_step {b c:List Int} {k:Nat} (hc:k + 5 ≤ c.length) (hb:k + 5 ≤ b.length):vdt (some b) c (k + 5) = if vdt (some b) c k = 0 then lx ((c.drop k).take 5) ((b.drop k).take 5) else vdt (some b) c k := by
 unfold vdt
 simp only
 rw [List.take_add,List.take_add]
 exact lx_app (by rw [List.length_take,List.length_take]; omega) _ _
theorem vdt_keep {b c:List Int} {k:Nat} (hl:c.length = b.length) (h:vdt (some b) c k ≠ 0):lx c b = vdt (some b) c k := by
 unfold vdt at h ⊢
 simp only at h ⊢
 have:=lx_app (l := c.take k) (m := b.take k) (by rw [List.length_take,List.length_take,hl]) (c.drop k) (b.drop k)
 rw [List.take_append_drop,List.take_append_drop,if_neg h] at this
 exact this
def vall (best:Option (List Int)) (c:List Int):Int := match best with | none => -1 | some b => lx c b
theorem vall_some (b c:List Int):vall (some b) c = lx c b := rfl
theorem vall_none (c:List Int):vall none c = -1 := rfl
theorem vdt_all {best:Option (List Int)} {c:List Int} {k:Nat} (hk:c.length ≤ k) (hb:∀ b,best = some b → b.length ≤ k):vdt best c k = vall best c := by
 unfold vdt vall
 cases best with
 | none => rfl
 | some b => simp only; rw [List.take_of_length_le hk,List.take_of_length_le (hb b rfl)]
theorem pre_get {o o':List Nat} (h:o <+: o') {i c:Nat} (hc:o[i]? = some c):o'[i]? = some c := by
 obtain ⟨l,rfl⟩:=h
 rw [List.getElem?_append_left (List.getElem?_eq_some_iff.1 hc).1,hc]
theorem add_ord {r i c s:Nat} (hi:i + 1 ≤ d.n) (hc:(ordK d r i)[i]? = some c) (hs:s ≤ 4):addS d (ordK d r i) c s <+: ord d r := by
 have h1:=addS_mono (d := d) (ordK d r i) c s (4 - s)
 rw [show s + (4 - s) = 4 by omega,← ordK_some hc] at h1
 exact h1.trans (ordK_ord r hi)
theorem code_step {r i c s:Nat} (hi:i + 1 ≤ d.n) (hc:(ordK d r i)[i]? = some c) (hs:s < 4):(code d r)[5 * i + 1 + s]? = some (((4 * (addS d (ordK d r i) c (s + 1)).idxOf (nb d c s) + d.m (4 * c + s) % 4:Nat)):Int) := by
 rw [code_nb (pre_get (ordK_ord r (by omega)) hc) hs,idx_pre (add_ord (s := s + 1) hi hc (by omega)) (addN_mem (addS d (ordK d r i) c s) (nb d c s))]
theorem order_lt {r i:Nat} (hi:i ≤ d.n) (h:i < (ord d r).length):i < (ordK d r i).length := by
 rcases Nat.lt_or_ge i (ordK d r i).length with h1 | h1
 ·exact h1
 ·rw [ord_eq hi h1] at h1; omega
end Go.Proofs.YtghdiolnonejaaaGreatDoor.Pl
end
section
namespace Go.Proofs.YtghdiolnonejaaaGreatDoor
open Go.RowKit
attribute [local go_sem ↓] Go.wp_at_zero Go.wp_at_succ
structure GS (w:World) (g:Nat) (x0 x1 x2:Value) (W:World):Prop where
 row:∃ vs,Row W g 24 [x0,x1,x2] ∧ Row W (g + 1) 24 vs ∧ vs.length = 3
 bel:Below w.heap.size w W
 lo:w.heap.size ≤ g
theorem GS.drew {w:World} {g:Nat} {x0 x1 x2:Value} {W:World} (h:GS w g x0 x1 x2 W):GS w g x0 x1 x2 W.drew := ⟨h.row,h.bel.drew,h.lo⟩
def cv (W:World) (a:Addr):Value := (W.cell? a).getD (.bool false)
theorem cv_some {W:World} {a:Addr} {v:Value} (h:W.cell? a = some v):W.cell? a = some (cv W a) := by unfold cv; rw [h]; rfl
theorem GS.below {w:World} {g:Nat} {x0 x1 x2:Value} {W W':World} (h:GS w g x0 x1 x2 W) (hb:Below W.heap.size W W'):GS w g x0 x1 x2 W' :=
 let ⟨vs,r1,r2,r3⟩:=h.row
 ⟨⟨vs,r1.below hb,r2.below hb,r3⟩,h.bel.trans (hb.mono h.bel.size),h.lo⟩
theorem GS.set {w:World} {g:Nat} {x0 x1 x2:Value} {W:World} (h:GS w g x0 x1 x2 W) (o:Nat) (v:Value):GS w g x0 x1 x2 (W.setCell ⟨g + 1,o,none⟩ v) :=
 let ⟨vs,r1,r2,r3⟩:=h.row
 ⟨⟨vs.set o v,r1.other (by simp) v,r2.set o v,by rw [List.length_set,r3]⟩,h.bel.setCell (by have := h.lo; simp; omega) v,h.lo⟩
theorem GS.all {w:World} {g:Nat} {x0 x1 x2:Value} {W:World} (h:GS w g x0 x1 x2 W):W.cell? ⟨g,0,none⟩ = some x0 ∧ W.cell? ⟨g,1,none⟩ = some x1 ∧ W.cell? ⟨g,2,none⟩ = some x2 ∧ W.cell? ⟨g + 1,0,none⟩ = some (cv W ⟨g + 1,0,none⟩) ∧ W.cell? ⟨g + 1,1,none⟩ = some (cv W ⟨g + 1,1,none⟩) ∧ W.cell? ⟨g + 1,2,none⟩ = some (cv W ⟨g + 1,2,none⟩) ∧ (∀ o,W.frozen? ⟨g + 1,o,none⟩ = false) ∧ GS w g x0 x1 x2 W := by
 obtain ⟨vs,r1,r2,r3⟩:=h.row
 exact ⟨r1.cell (i := 0) (by show 0 < 3; omega),r1.cell (i := 1) (by show 1 < 3; omega),r1.cell (i := 2) (by show 2 < 3; omega),cv_some (r2.cell (i := 0) (by omega)),cv_some (r2.cell (i := 1) (by omega)),cv_some (r2.cell (i := 2) (by omega)),fun o => r2.free o,h⟩
theorem GS.fin {w:World} {g:Nat} {x0 x1 x2:Value} {W:World} (h:GS w g x0 x1 x2 W) (y0 y1 y2:Value) :
 (((W.setCell ⟨g + 1,0,none⟩ y0).setCell ⟨g + 1,1,none⟩ y1).setCell ⟨g + 1,2,none⟩ y2).cell? ⟨g + 1,0,none⟩ = some y0 ∧ (((W.setCell ⟨g + 1,0,none⟩ y0).setCell ⟨g + 1,1,none⟩ y1).setCell ⟨g + 1,2,none⟩ y2).cell? ⟨g + 1,1,none⟩ = some y1 ∧ (((W.setCell ⟨g + 1,0,none⟩ y0).setCell ⟨g + 1,1,none⟩ y1).setCell ⟨g + 1,2,none⟩ y2).cell? ⟨g + 1,2,none⟩ = some y2 := by
 obtain ⟨vs,_,r2,r3⟩:=h.row
 have r:=((r2.set 0 y0).set 1 y1).set 2 y2
 obtain ⟨a,b,c,rfl⟩:∃ a b c,vs = [a,b,c] := by
  match vs,r3 with
  | [a,b,c],_ => exact ⟨a,b,c,rfl⟩
 exact ⟨r.cell (i := 0) (by simp),r.cell (i := 1) (by simp),r.cell (i := 2) (by simp)⟩
theorem GS.start (w:World) (x0 x1 x2 y0 y1 y2:Value):GS w w.heap.size x0 x1 x2 ((w.alloc (.cells #[x0,x1,x2] 24)).alloc (.cells #[y0,y1,y2] 24)) := by
 refine ⟨⟨[y0,y1,y2],Row.alloc (Row.new w _ [x0,x1,x2]) _,?_,rfl⟩,((Below.refl _ _).alloc (Nat.le_refl _) _).alloc (by simp) _,Nat.le_refl _⟩
 have:=Row.new (w.alloc (.cells #[x0,x1,x2] 24)) 24 [y0,y1,y2]
 simpa using this
theorem IntsAt.alloc {w:World} {A:Option Addr} {n:Nat} {zs:List Int} (h:IntsAt w A n zs) (o:Obj):IntsAt (w.alloc o) A n zs := h.keep ((Below.refl _ _).alloc (Nat.le_refl _) o)
theorem IntsAt.drew {w:World} {A:Option Addr} {n:Nat} {zs:List Int} (h:IntsAt w A n zs):IntsAt w.drew A n zs := h
theorem owns_pos {w:World} {base:Nat} {e:TypeId} {A:Option Addr} {n c:Nat} {xs:List Value} (hn:0 < n) (h:w.ownsRow base e 1 (.slice A n c) n xs):∃ g,A = some ⟨g,0,none⟩ ∧ base ≤ g ∧ g < w.heap.size := by
 rcases h.2 with ⟨_,h0⟩ | ⟨g,cap,cur,h1,h2,h3,_⟩
 ·omega
 ·injection h1 with h1
  exact ⟨g,h1,h2,lt_of_heap h3⟩
theorem own_keep {w w':World} {base base':Nat} {e:TypeId} {v:Value} {n:Nat} {xs:List Value} (h:w.ownsRow base e 1 v n xs) (hb:Below w.heap.size w w') (hle:base' ≤ base):w'.ownsRow base' e 1 v n xs := by
 refine ⟨h.1,?_⟩
 rcases h.2 with hz | ⟨g,cap,cur,r1,r2,r3,r4⟩
 ·exact .inl hz
 ·exact .inr ⟨g,cap,cur,r1,Nat.le_trans hle r2,(hb.block g (lt_of_heap r3)).trans r3,r4⟩
theorem own_set {w:World} {base:Nat} {e:TypeId} {g n c b o:Nat} {v:Value} {xs:List Value} (h:w.ownsRow base e 1 (.slice (some ⟨g,0,none⟩) n c) n xs) (hne:g ≠ b):(w.setCell ⟨b,o,none⟩ v).ownsRow base e 1 (.slice (some ⟨g,0,none⟩) n c) n xs := by
 refine ⟨h.1,?_⟩
 rcases h.2 with hz | ⟨g',cap,cur,r1,r2,r3,r4⟩
 ·exact .inl hz
 ·injection r1 with e1 e2 e3
  injection e1 with e1
  injection e1 with e1
  subst e1
  exact .inr ⟨g,cap,cur,by rw [e3],r2,(Below.heap_setCell w _ v g hne).trans r3,r4⟩
end Go.Proofs.YtghdiolnonejaaaGreatDoor
end
section
namespace Go.Proofs.YtghdiolnonejaaaGreatDoor
open Go.RowKit
structure Mv where
 kind:Int
 x:Int
 y:Int
 sign:Int
 over:Bool
def Mv.v (m:Mv):Value := .agg #[.int .i64 m.kind,.int .i64 m.x,.int .i64 m.y,.int .i64 m.sign,.bool m.over]
def fullC (n k:Nat):Int := if 64 < n + k then 5 else 0
def curlableC (d:Pl.Dg) (x:Int):Int := if x < 0 then (if d.lp = 0 then 6 else fullC d.n 1) else if Pl.out d x.toNat = true then fullC d.n 1 else 6
end Go.Proofs.YtghdiolnonejaaaGreatDoor
end
section
namespace Go.Proofs.YtghdiolnonejaaaGreatDoor
open Go.RowKit
structure Cls (C:World → Prop) where
 w:World
 ok:C w
theorem wp_region_cls {P:Program} (C:World → Prop) {id:Nat} {Q:Exit → Act → World → Prop} {a:Act} {w:World} {l:List Oper} (hm:P.follows .mixedOrders = true) (hB:Region.lexB .any l.toArray = true)
 (hC:C { w with drawn := w.drawn + 1 })
 (h:Nonempty (Cls C) → wpQuiet P l.toArray (fun w' => ∃ p:Cls C,w' = p.w) (fun a' => ∀ w',(∃ p:Cls C,w' = p.w) → Q .normal a' w') l a):(Code.region id l.toArray true).wp P Q a w :=
 wp_region_quiet (C := fun w' => ∃ p:Cls C,w' = p.w) hm hB ⟨⟨_,hC⟩,rfl⟩ (by simpa using h ⟨⟨_,hC⟩⟩)
theorem calls_cls {P:Program} {C:World → Prop} {f:FuncId} {args:Array Value} {w:World} {v:Value} {R:Ending → World → Prop} (h:Calls P f args w R) (hR:∀ e w',R e w' → e = .returned v ∧ C w') :
 Calls P f args w fun e w'' => e = .returned v ∧ ∃ p:Cls C,w'' = p.w :=
 h.mono fun e w' hr => let ⟨h1,h2⟩:=hR e w' hr; ⟨h1,⟨w',h2⟩,rfl⟩
end Go.Proofs.YtghdiolnonejaaaGreatDoor
end
section
namespace Go.Proofs.YtghdiolnonejaaaGreatDoor
open Go Go.RowKit
def plc (c f s:Nat):Nat := 4 * c + (s + 4 - f) % 4
def fwd (d:Pl.Dg) (x:Int):Bool := if x = -1 then true else if 0 ≤ x then Pl.out d x.toNat else false
end Go.Proofs.YtghdiolnonejaaaGreatDoor
end
