/-
  The texts Cls, Orb, Gen, Dg, Vf, Lab, Can, Push, Sld, Slr, Knk.
-/
set_option linter.unusedVariables false
set_option linter.unusedSimpArgs false
section
namespace Go.Proofs.YtdgliimmnnhhjaaGreatDoor.Pl
def Cls (S:Nat→Prop)(R:Nat→Nat→Prop)(k:Nat):Prop :=
 ∃r:Nat→Nat,(∀h,S h→r h<k)∧(∀h g,S h→S g→(r h=r g↔R h g))∧(∀i,i<k→∃h,S h∧r h=i)
theorem pigeon:∀(k k':Nat) (f:Nat→Nat),(∀i,i<k→f i<k')→(∀i j,i<k→j<k→f i=f j→i=j)→k≤k'
 | 0,_,_,_,_=>Nat.zero_le _
 | k+1,0,f,h,_=>absurd (h 0 (by omega)) (by omega)
 | k + 1, k' + 1, f, h, hi => by
   -- send k' to the image of k
   have:=pigeon k k' (fun i=>if f i=k' then f k else f i) (fun i hik=>by
    have h1:=h i (by omega)
    have h2:=h k (by omega)
    by_cases e:f i=k'
    ·simp only [e,if_true]
     have:f k≠k':=fun e2=>by have:=hi i k (by omega) (by omega) (by rw [e,e2]);omega
     omega
    ·simp only [e,if_false];omega) (fun i j hik hjk hij=>by
    by_cases e:f i=k' <;> by_cases e2:f j=k'
    ·exact hi i j (by omega) (by omega) (by rw [e,e2])
    ·simp only [e,e2,if_true,if_false] at hij
     have:=hi k j (by omega) (by omega) hij;omega
    ·simp only [e,e2,if_true,if_false] at hij
     have:=hi i k (by omega) (by omega) hij;omega
    ·simp only [e,e2,if_false] at hij
     exact hi i j (by omega) (by omega) hij)
   omega
theorem Cls.le {S S':Nat→Prop}{R R':Nat→Nat→Prop}{k k':Nat}(h:Cls S R k)(h':Cls S' R' k')(t:Nat→Nat)(hs:∀x,S x→S' (t x))(hr:∀x y,S x→S y→R' (t x) (t y)→R x y):k≤k':=by
 obtain ⟨r,r1,r2,r3⟩:=h
 obtain ⟨q,q1,q2,q3⟩:=h'
 have hw:∀i:Nat,∃x:Nat,i<k→S x∧r x=i:=fun i=>by
  by_cases hi:i<k
  ·obtain ⟨x,hx⟩:=r3 i hi;exact ⟨x,fun _=>hx⟩
  ·exact ⟨0,fun h=>absurd h hi⟩
 refine pigeon k k' (fun i=>q (t (Classical.choose (hw i)))) (fun i hi=>?_) (fun i j hi hj e=>?_)
 ·exact q1 _ (hs _ (Classical.choose_spec (hw i) hi).1)
 ·have ci:=Classical.choose_spec (hw i) hi
  have cj:=Classical.choose_spec (hw j) hj
  have:=hr _ _ ci.1 cj.1 ((q2 _ _ (hs _ ci.1) (hs _ cj.1)).1 e)
  rw [←ci.2,←cj.2]
  exact (r2 _ _ ci.1 cj.1).2 this
theorem Cls.unique {S:Nat→Prop}{R:Nat→Nat→Prop}{k k':Nat}(h:Cls S R k)(h':Cls S R k'):k=k' :=
 Nat.le_antisymm (h.le h' id (fun _ hx=>hx) (fun _ _ _ _ e=>e)) (h'.le h id (fun _ hx=>hx) (fun _ _ _ _ e=>e))
theorem Cls.congr {S S':Nat→Prop}{R R':Nat→Nat→Prop}{k:Nat}(h:Cls S R k)(hs:∀x,S x↔S' x)(hr:∀x y,S x→S y→(R x y↔R' x y)):Cls S' R' k:=by
 obtain ⟨r,r1,r2,r3⟩:=h
 exact ⟨r,fun x hx=>r1 x ((hs x).2 hx),fun x y hx hy=>(r2 x y ((hs x).2 hx) ((hs y).2 hy)).trans (hr x y ((hs x).2 hx) ((hs y).2 hy)),
  fun i hi=>let ⟨x,hx,e⟩:=r3 i hi;⟨x,(hs x).1 hx,e⟩⟩
structure Eqv (S:Nat→Prop) (R:Nat→Nat→Prop):Prop where
 refl:∀x,S x→R x x
 symm:∀x y,S x→S y→R x y→R y x
 trans:∀x y z,S x→S y→S z→R x y→R y z→R x z
theorem Cls.eqv {S:Nat→Prop}{R:Nat→Nat→Prop}{k:Nat}(h:Cls S R k):Eqv S R:=by
 obtain ⟨r,_,r2,_⟩:=h
 exact ⟨fun x hx=>(r2 x x hx hx).1 rfl,fun x y hx hy e=>(r2 y x hy hx).1 ((r2 x y hx hy).2 e).symm,
  fun x y z hx hy hz e e'=>(r2 x z hx hz).1 (((r2 x y hx hy).2 e).trans ((r2 y z hy hz).2 e'))⟩
theorem Cls.pos {S:Nat→Prop}{R:Nat→Nat→Prop}{k:Nat}(h:Cls S R k){a:Nat}(ha:S a):0<k:=by
 obtain ⟨r,r1,_,_⟩:=h
 have:=r1 a ha;omega
theorem Cls.empty {S:Nat→Prop}{R:Nat→Nat→Prop}(h:∀x,¬S x):Cls S R 0 :=
 ⟨fun _=>0,fun x hx=>absurd hx (h x),fun x _ hx=>absurd hx (h x),fun i hi=>absurd hi (by omega)⟩
theorem Cls.two {S:Nat→Prop}{R:Nat→Nat→Prop}{k:Nat}(h:Cls S R k){a b:Nat}(ha:S a)(hb:S b)(hn:¬R a b):2≤k:=by
 obtain ⟨r,r1,r2,_⟩:=h
 have h1:=r1 a ha
 have h2:=r1 b hb
 have h3:r a≠r b:=fun e=>hn ((r2 a b ha hb).1 e)
 omega
def Join (R:Nat→Nat→Prop)(a b:Nat)(x y:Nat):Prop:=R x y∨(R x a∧R b y)∨(R x b∧R a y)
theorem Cls.join {S:Nat→Prop}{R:Nat→Nat→Prop}{k:Nat}(h:Cls S R (k+1)){a b:Nat}(ha:S a)(hb:S b)(hn:¬R a b):Cls S (Join R a b) k:=by
 have hE:=h.eqv
 obtain ⟨r,r1,r2,r3⟩:=h
 have hne:r a≠r b:=fun e=>hn ((r2 a b ha hb).1 e)
 have la:=r1 a ha
 have lb:=r1 b hb
 -- the label k is given to the class of b's number;the class of b takes the label of a
 let A:=if r a=k then r b else r a
 let m:Nat→Nat:=fun i=>if i=r b then A else if i=k then r b else i
 have hA:A<k:=by
  show (if r a=k then r b else r a)<k
  split <;> omega
 have key:∀x y,S x→S y→(m (r x)=m (r y)↔Join R a b x y):=by
  intro x y hx hy
  have ex:r x=r y↔R x y:=r2 x y hx hy
  have exa:r x=r a↔R x a:=r2 x a hx ha
  have exb:r x=r b↔R x b:=r2 x b hx hb
  have eya:r a=r y↔R a y:=r2 a y ha hy
  have eyb:r b=r y↔R b y:=r2 b y hb hy
  unfold Join
  rw [←ex,←exa,←exb,←eya,←eyb]
  have lx:=r1 x hx
  have ly:=r1 y hy
  show (if r x=r b then (if r a=k then r b else r a) else if r x=k then r b else r x)=(if r y=r b then (if r a=k then r b else r a) else if r y=k then r b else r y)↔_
  constructor
  ·intro e
   split at e <;> split at e <;> (try split at e) <;> (try split at e) <;> (try split at e) <;> omega
  ·intro e
   split <;> split <;> (try split) <;> (try split) <;> (try split) <;> omega
 refine ⟨fun x=>m (r x),fun x hx=>?_,key,fun i hi=>?_⟩
 ·show (if r x=r b then A else if r x=k then r b else r x)<k
  have lx:=r1 x hx
  split
  ·exact hA
  ·split <;> omega
 ·by_cases e:i=r b
  ·obtain ⟨x,hx,ex⟩:=r3 k (by omega)
   by_cases e2:r b=k
   ·omega
   ·refine ⟨x,hx,?_⟩
    show (if r x=r b then A else if r x=k then r b else r x)=i
    rw [if_neg (by omega),if_pos ex,e]
  ·obtain ⟨x,hx,ex⟩:=r3 i (by omega)
   refine ⟨x,hx,?_⟩
   show (if r x=r b then A else if r x=k then r b else r x)=i
   rw [if_neg (by omega),if_neg (by omega),ex]
theorem Cls.exists_:∀(N:Nat) (S:Nat→Prop) (R:Nat→Nat→Prop),(∀x,S x→x<N)→Eqv S R→∃k,Cls S R k
 | 0,S,R,hN,_=>⟨0,Cls.empty fun x hx=>absurd (hN x hx) (by omega)⟩
 | N + 1, S, R, hN, hE => by
   obtain ⟨k,hk⟩:=Cls.exists_ N (fun x=>S x∧x<N) R (fun x hx=>hx.2) ⟨fun x hx=>hE.refl x hx.1,fun x y hx hy=>hE.symm x y hx.1 hy.1,fun x y z hx hy hz=>hE.trans x y z hx.1 hy.1 hz.1⟩
   by_cases hS:S N
   ·by_cases hm:∃x,S x∧x<N∧R N x
    ·obtain ⟨x0,s0,l0,e0⟩:=hm
     obtain ⟨r,r1,r2,r3⟩:=hk
     refine ⟨k,fun x=>if x=N then r x0 else r x,fun x hx=>?_,fun x y hx hy=>?_,fun i hi=>?_⟩
     ·have:=hN x hx
      by_cases e:x=N
      ·simp only [e,if_true];exact r1 x0 ⟨s0,l0⟩
      ·simp only [e,if_false];exact r1 x ⟨hx,by omega⟩
     ·have lx:=hN x hx
      have ly:=hN y hy
      by_cases e:x=N <;> by_cases e2:y=N
      ·subst e;subst e2;simp only [if_true,true_iff];exact hE.refl _ hx
      ·simp only [e,e2,if_true,if_false]
       rw [r2 x0 y ⟨s0,l0⟩ ⟨hy,by omega⟩]
       exact ⟨fun h=>hE.trans _ _ _ hS s0 hy e0 h,fun h=>hE.trans _ _ _ s0 hS hy (hE.symm _ _ hS s0 e0) h⟩
      ·simp only [e,e2,if_true,if_false]
       rw [r2 x x0 ⟨hx,by omega⟩ ⟨s0,l0⟩]
       exact ⟨fun h=>hE.trans _ _ _ hx s0 hS h (hE.symm _ _ hS s0 e0),fun h=>hE.trans _ _ _ hx hS s0 h e0⟩
      ·simp only [e,e2,if_false]
       exact r2 x y ⟨hx,by omega⟩ ⟨hy,by omega⟩
     ·obtain ⟨x,hx,ex⟩:=r3 i hi
      refine ⟨x,hx.1,?_⟩
      have:x≠N:=by have:=hx.2;omega
      simp only [this,if_false];exact ex
    ·obtain ⟨r,r1,r2,r3⟩:=hk
     have hno:∀y,S y→y≠N→¬R N y:=fun y hy hne h=>hm ⟨y,hy,by have:=hN y hy;omega,h⟩
     refine ⟨k+1,fun x=>if x=N then k else r x,fun x hx=>?_,fun x y hx hy=>?_,fun i hi=>?_⟩
     ·have:=hN x hx
      by_cases e:x=N
      ·simp only [e,if_true];omega
      ·simp only [e,if_false];have:=r1 x ⟨hx,by omega⟩;omega
     ·have lx:=hN x hx
      have ly:=hN y hy
      by_cases e:x=N <;> by_cases e2:y=N
      ·subst e;subst e2;simp only [if_true,true_iff];exact hE.refl _ hx
      ·simp only [e,e2,if_true,if_false]
       have:=r1 y ⟨hy,by omega⟩
       exact ⟨fun h=>absurd h (by omega),fun h=>absurd h (hno y hy e2)⟩
      ·simp only [e,e2,if_true,if_false]
       have:=r1 x ⟨hx,by omega⟩
       exact ⟨fun h=>absurd h (by omega),fun h=>absurd (hE.symm _ _ hx hS h) (hno x hx e)⟩
      ·simp only [e,e2,if_false]
       exact r2 x y ⟨hx,by omega⟩ ⟨hy,by omega⟩
     ·by_cases e:i=k
      ·exact ⟨N,hS,by simp only [if_true];exact e.symm⟩
      ·obtain ⟨x,hx,ex⟩:=r3 i (by omega)
       refine ⟨x,hx.1,?_⟩
       have:x≠N:=by have:=hx.2;omega
       simp only [this,if_false];exact ex
   ·exact ⟨k, hk.congr (fun x => ⟨fun h => h.1, fun h => ⟨h, by
     have:=hN x h
     by_cases e:x=N
     ·subst e;exact absurd h hS
     ·omega⟩⟩) (fun _ _ _ _=>Iff.rfl)⟩
theorem Cls.add {S T:Nat→Prop}{R:Nat→Nat→Prop}{k l:Nat}(h:Cls S R k)(h':Cls T R l)(hd:∀x y,S x→T y→¬R x y)(hd':∀x y,S x→T y→¬R y x)(hdis:∀x,S x→¬T x):Cls (fun x=>S x∨T x) R (k+l):=by
 obtain ⟨r,r1,r2,r3⟩:=h
 obtain ⟨q,q1,q2,q3⟩:=h'
 refine ⟨fun x=>open Classical in if S x then r x else k+q x,fun x hx=>?_,fun x y hx hy=>?_,fun i hi=>?_⟩
 ·by_cases e:S x
  ·simp only [e,if_true];have:=r1 x e;omega
  ·simp only [e,if_false];have:=q1 x (hx.resolve_left e);omega
 ·by_cases e:S x <;> by_cases e2:S y
  ·simp only [e,e2,if_true];exact r2 x y e e2
  ·simp only [e,e2,if_true,if_false]
   have:=r1 x e
   exact ⟨fun h=>absurd h (by omega),fun h=>absurd h (hd x y e (hy.resolve_left e2))⟩
  ·simp only [e,e2,if_true,if_false]
   have:=r1 y e2
   exact ⟨fun h=>absurd h (by omega),fun h=>absurd h (hd' y x e2 (hx.resolve_left e))⟩
  ·simp only [e,e2,if_false]
   rw [←q2 x y (hx.resolve_left e) (hy.resolve_left e2)];omega
 ·by_cases e:i<k
  ·obtain ⟨x,hx,ex⟩:=r3 i e
   exact ⟨x,.inl hx,by simp only [hx,if_true];exact ex⟩
  ·obtain ⟨x,hx,ex⟩:=q3 (i - k) (by omega)
   have:¬S x:=fun h=>hdis x h hx
   exact ⟨x,.inr hx,by simp only [this,if_false];omega⟩
theorem Cls.sup {S D:Nat→Prop}{R:Nat→Nat→Prop}{k:Nat}(h:Cls D R k)(hE:Eqv S R)(hD:∀x,D x→S x)(hm:∀x,S x→∃y,D y∧R x y):Cls S R k:=by
 obtain ⟨r,r1,r2,r3⟩:=h
 have hw:∀x:Nat,∃y:Nat,S x→D y∧R x y:=fun x=>by
  by_cases hx:S x
  ·obtain ⟨y,hy⟩:=hm x hx;exact ⟨y,fun _=>hy⟩
  ·exact ⟨0,fun h=>absurd h hx⟩
 refine ⟨fun x=>r (Classical.choose (hw x)),fun x hx=>r1 _ (Classical.choose_spec (hw x) hx).1,fun x y hx hy=>?_,fun i hi=>?_⟩
 ·have cx:=Classical.choose_spec (hw x) hx
  have cy:=Classical.choose_spec (hw y) hy
  refine (r2 _ _ cx.1 cy.1).trans ⟨fun e=>?_,fun e=>?_⟩
  ·exact hE.trans _ _ _ hx (hD _ cx.1) hy cx.2 (hE.trans _ _ _ (hD _ cx.1) (hD _ cy.1) hy e (hE.symm _ _ hy (hD _ cy.1) cy.2))
  ·exact hE.trans _ _ _ (hD _ cx.1) hx (hD _ cy.1) (hE.symm _ _ hx (hD _ cx.1) cx.2) (hE.trans _ _ _ hx hy (hD _ cy.1) e cy.2)
 ·obtain ⟨x,hx,ex⟩:=r3 i hi
  have cx:=Classical.choose_spec (hw x) (hD x hx)
  exact ⟨x,hD x hx,by rw [←ex];exact ((r2 _ _ hx cx.1).2 cx.2).symm⟩
theorem Cls.map {S T:Nat→Prop}{R Q:Nat→Nat→Prop}{k:Nat}(h:Cls S R k)(t:Nat→Nat)(hs:∀x,S x→T (t x))(ht:∀y,T y→∃x,S x∧t x=y)(hr:∀x y,S x→S y→(R x y↔Q (t x) (t y))):Cls T Q k:=by
 obtain ⟨r,r1,r2,r3⟩:=h
 have hw:∀y:Nat,∃x:Nat,T y→S x∧t x=y:=fun y=>by
  by_cases hy:T y
  ·obtain ⟨x,hx⟩:=ht y hy;exact ⟨x,fun _=>hx⟩
  ·exact ⟨0,fun h=>absurd h hy⟩
 refine ⟨fun y=>r (Classical.choose (hw y)),fun y hy=>r1 _ (Classical.choose_spec (hw y) hy).1,fun x y hx hy=>?_,fun i hi=>?_⟩
 ·have cx:=Classical.choose_spec (hw x) hx
  have cy:=Classical.choose_spec (hw y) hy
  rw [r2 _ _ cx.1 cy.1,hr _ _ cx.1 cy.1,cx.2,cy.2]
 ·obtain ⟨x,hx,ex⟩:=r3 i hi
  have cx:=Classical.choose_spec (hw (t x)) (hs x hx)
  refine ⟨t x,hs x hx,?_⟩
  rw [←ex]
  refine (r2 _ _ cx.1 hx).2 ((hr _ _ cx.1 hx).2 ?_)
  rw [cx.2]
  exact (hr x x hx hx).1 ((r2 x x hx hx).1 rfl)
end Go.Proofs.YtdgliimmnnhhjaaGreatDoor.Pl
end
section
namespace Go.Proofs.YtdgliimmnnhhjaaGreatDoor.Pl
def it (f:Nat→Nat):Nat→Nat→Nat
 | 0,x=>x
 | k+1,x=>f (it f k x)
theorem it_add (f:Nat→Nat)(j:Nat):∀(k x:Nat),it f (j+k) x=it f j (it f k x):=by
 induction j with
 | zero=>intro k x;rw [Nat.zero_add];rfl
 | succ j ih=>intro k x;rw [Nat.succ_add];show f (it f (j+k) x)=f (it f j (it f k x));rw [ih]
structure Bij (N:Nat) (S:Nat→Prop) (f:Nat→Nat):Prop where
 lt:∀x,S x→x<N
 maps:∀x,S x→S (f x)
 inj:∀x y,S x→S y→f x=f y→x=y
variable {N:Nat} {S:Nat→Prop} {f:Nat→Nat}
theorem Bij.it (h:Bij N S f)(k:Nat):∀x,S x→S (it f k x):=by
 induction k with
 | zero=>intro x hx;exact hx
 | succ k ih=>intro x hx;exact h.maps _ (ih x hx)
theorem Bij.it_inj (h:Bij N S f)(k:Nat):∀x y,S x→S y→Pl.it f k x=Pl.it f k y→x=y:=by
 induction k with
 | zero=>intro x y _ _ e;exact e
 | succ k ih=>intro x y hx hy e;exact ih x y hx hy (h.inj _ _ (h.it k x hx) (h.it k y hy) e)
theorem Bij.back (h:Bij N S f){x:Nat}(hx:S x):∃p,0<p∧p≤N∧Pl.it f p x=x:=by
 by_cases hc:∃i j,i<j∧j≤N∧Pl.it f i x=Pl.it f j x
 ·obtain ⟨i,j,hij,hj,e⟩:=hc
  refine ⟨j - i,by omega,by omega,?_⟩
  have e2:j=i+(j - i):=by omega
  rw [e2,it_add] at e
  exact (h.it_inj i _ _ hx (h.it _ x hx) e).symm
 ·have := pigeon (N + 1) N (fun i => Pl.it f i x) (fun i _ => h.lt _ (h.it i x hx)) (fun i j hi hj e => by
   rcases Nat.lt_trichotomy i j with h1 | h1 | h1
   ·exact absurd ⟨i,j,h1,by omega,e⟩ hc
   ·exact h1
   ·exact absurd ⟨j,i,h1,by omega,e.symm⟩ hc)
  omega
def Orb (f:Nat→Nat)(x y:Nat):Prop:=∃k,it f k x=y
theorem Orb.refl (f:Nat→Nat)(x:Nat):Orb f x x:=⟨0,rfl⟩
theorem Orb.step (f:Nat→Nat)(x:Nat):Orb f x (f x):=⟨1,rfl⟩
theorem Orb.trans {f:Nat→Nat}{x y z:Nat}(h:Orb f x y)(h':Orb f y z):Orb f x z:=by
 obtain ⟨k,rfl⟩:=h
 obtain ⟨j,rfl⟩:=h'
 exact ⟨j+k,it_add f j k x⟩
theorem Bij.orb_mem (h:Bij N S f){x y:Nat}(hx:S x)(e:Orb f x y):S y:=by
 obtain ⟨k,rfl⟩:=e
 exact h.it k x hx
theorem it_mul (f:Nat→Nat)(p x:Nat)(h:it f p x=x):∀m,it f (m * p) x=x
 | 0=>by rw [Nat.zero_mul];rfl
 | m+1=>by rw [Nat.succ_mul,it_add,h,it_mul f p x h m]
theorem Bij.symm (h:Bij N S f){x y:Nat}(hx:S x)(e:Orb f x y):Orb f y x:=by
 obtain ⟨k,rfl⟩:=e
 obtain ⟨p,hp,_,e⟩:=h.back hx
 refine ⟨k * p - k,?_⟩
 rw [←it_add,show k * p - k+k=k * p from Nat.sub_add_cancel (Nat.le_mul_of_pos_right k hp),it_mul f p x e]
theorem Bij.eqv (h:Bij N S f):Eqv S (Orb f) :=
 ⟨fun x _=>Orb.refl f x,fun _ _ hx _ e=>h.symm hx e,fun _ _ _ _ _ _ e e'=>e.trans e'⟩
theorem orb_closed {f:Nat→Nat}{P:Nat→Prop}(hP:∀x,P x→P (f x)){x y:Nat}(hx:P x)(e:Orb f x y):P y:=by
 obtain ⟨k,rfl⟩:=e
 induction k with
 | zero=>exact hx
 | succ k ih=>exact hP _ ih
theorem orb_sub {f:Nat→Nat}{R:Nat→Nat→Prop}(h:Bij N S f)(hE:Eqv S R)(hs:∀x,S x→R x (f x)){x y:Nat}(hx:S x)(e:Orb f x y):R x y:=by
 obtain ⟨k,rfl⟩:=e
 induction k with
 | zero=>exact hE.refl x hx
 | succ k ih=>exact hE.trans _ _ _ hx (h.it k x hx) (h.it (k+1) x hx) ih (hs _ (h.it k x hx))
def tr (f:Nat→Nat)(a b x:Nat):Nat:=if x=a then f b else if x=b then f a else f x
theorem tr_a (f:Nat→Nat)(a b:Nat):tr f a b a=f b:=by simp [tr]
theorem tr_b (f:Nat→Nat)(a b:Nat):tr f a b b=f a:=by
 unfold tr
 by_cases h:b=a
 ·rw [if_pos h,h]
 ·rw [if_neg h,if_pos rfl]
theorem tr_ne {f:Nat→Nat}{a b x:Nat}(h1:x≠a)(h2:x≠b):tr f a b x=f x:=by unfold tr;rw [if_neg h1,if_neg h2]
theorem tr_tr (f:Nat→Nat)(a b:Nat):tr (tr f a b) a b=f:=by
 funext x
 by_cases h1:x=a
 ·subst h1;rw [tr_a,tr_b]
 ·by_cases h2:x=b
  ·subst h2;rw [tr_b,tr_a]
  ·rw [tr_ne h1 h2,tr_ne h1 h2]
theorem Bij.tr (h:Bij N S f){a b:Nat}(ha:S a)(hb:S b):Bij N S (tr f a b):=by
 refine ⟨h.lt,fun x hx=>?_,fun x y hx hy e=>?_⟩
 ·unfold Pl.tr
  split
  ·exact h.maps b hb
  ·split
   ·exact h.maps a ha
   ·exact h.maps x hx
 ·unfold Pl.tr at e
  split at e <;> split at e <;> (try split at e) <;> (try split at e) <;>
   first
    | (have:=h.inj _ _ ha hb e;omega)
    | (have:=h.inj _ _ hb ha e;omega)
    | (have:=h.inj _ _ ha hy e;omega)
    | (have:=h.inj _ _ hb hy e;omega)
    | (have:=h.inj _ _ hx ha e;omega)
    | (have:=h.inj _ _ hx hb e;omega)
    | exact h.inj _ _ hx hy e
    | omega
theorem Bij.join_eqv {R:Nat→Nat→Prop}(hE:Eqv S R){a b:Nat}(ha:S a)(hb:S b):Eqv S (Join R a b):=by
 refine ⟨fun x hx => .inl (hE.refl x hx),fun x y hx hy e=>?_,fun x y z hx hy hz e e'=>?_⟩
 ·rcases e with e | ⟨e1,e2⟩ | ⟨e1,e2⟩
  ·exact .inl (hE.symm _ _ hx hy e)
  ·exact .inr (.inr ⟨hE.symm _ _ hb hy e2,hE.symm _ _ hx ha e1⟩)
  ·exact .inr (.inl ⟨hE.symm _ _ ha hy e2,hE.symm _ _ hx hb e1⟩)
 ·rcases e with e | ⟨e1,e2⟩ | ⟨e1,e2⟩ <;> rcases e' with e' | ⟨e3,e4⟩ | ⟨e3,e4⟩
  ·exact .inl (hE.trans _ _ _ hx hy hz e e')
  ·exact .inr (.inl ⟨hE.trans _ _ _ hx hy ha e e3,e4⟩)
  ·exact .inr (.inr ⟨hE.trans _ _ _ hx hy hb e e3,e4⟩)
  ·exact .inr (.inl ⟨e1,hE.trans _ _ _ hb hy hz e2 e'⟩)
  ·exact .inr (.inl ⟨e1,e4⟩)
  ·exact .inl (hE.trans _ _ _ hx ha hz e1 e4)
  ·exact .inr (.inr ⟨e1,hE.trans _ _ _ ha hy hz e2 e'⟩)
  ·exact .inl (hE.trans _ _ _ hx hb hz e1 e4)
  ·exact .inr (.inr ⟨e1,e4⟩)
theorem Bij.run (h:Bij N S f){a b:Nat}(hb:S b)(hn:¬Orb f a b)(ha:S a):Orb (Pl.tr f a b) a b:=by
 obtain ⟨p,hp,hle,e⟩:=h.back hb
 clear hle
 -- the least period of b
 have hmin:∃p,0<p∧Pl.it f p b=b∧∀i,0<i→i<p→Pl.it f i b≠b:=by
  revert hp e
  induction p using Nat.strongRecOn with
  | _ p ih =>
    intro hp e
    by_cases hx:∃i,0<i∧i<p∧Pl.it f i b=b
    ·obtain ⟨i,h1,h2,h3⟩:=hx
     exact ih i h2 h1 h3
    ·exact ⟨p,hp,e,fun i h1 h2 h3=>hx ⟨i,h1,h2,h3⟩⟩
 obtain ⟨q,hq,e,hm⟩:=hmin
 have hna:∀i,Pl.it f i b≠a:=fun i ei=>hn (h.symm hb ⟨i,ei⟩)
 have key:∀i,i<q→Pl.it (Pl.tr f a b) (i+1) a=Pl.it f (i+1) b:=by
  intro i
  induction i with
  | zero=>intro _;exact tr_a f a b
  | succ i ih =>
    intro hi
    show Pl.tr f a b (Pl.it (Pl.tr f a b) (i+1) a)=f (Pl.it f (i+1) b)
    rw [ih (by omega),tr_ne (hna _) (hm _ (by omega) (by omega))]
 refine ⟨q,?_⟩
 have:=key (q - 1) (by omega)
 rw [show q - 1+1=q by omega,e] at this
 exact this
theorem Bij.merge (h:Bij N S f){a b:Nat}(ha:S a)(hb:S b)(hn:¬Orb f a b){x y:Nat}(hx:S x):Orb (Pl.tr f a b) x y↔Join (Orb f) a b x y:=by
 have hg:=h.tr ha hb
 have gab:=h.run hb hn ha
 have gba:=hg.symm ha gab
 have fsub:∀{x y},S x→Orb f x y→Orb (Pl.tr f a b) x y:=by
  intro x y hx e
  refine orb_sub h hg.eqv (fun z hz=>?_) hx e
  by_cases h1:z=a
  ·subst h1
   have:=gab.trans (Orb.step (Pl.tr f z b) b)
   rwa [tr_b] at this
  ·by_cases h2:z=b
   ·subst h2
    have:=gba.trans (Orb.step (Pl.tr f a z) a)
    rwa [tr_a] at this
   ·have:=Orb.step (Pl.tr f a b) z
    rwa [tr_ne h1 h2] at this
 constructor
 ·intro e
  refine orb_sub hg (Bij.join_eqv h.eqv ha hb) (fun z hz=>?_) hx e
  by_cases h1:z=a
  ·subst h1;rw [tr_a];exact .inr (.inl ⟨Orb.refl f z,Orb.step f b⟩)
  ·by_cases h2:z=b
   ·subst h2;rw [tr_b];exact .inr (.inr ⟨Orb.refl f z,Orb.step f a⟩)
   ·rw [tr_ne h1 h2];exact .inl (Orb.step f z)
 ·rintro (e | ⟨e1,e2⟩ | ⟨e1,e2⟩)
  ·exact fsub hx e
  ·exact (fsub hx e1).trans (gab.trans (fsub hb e2))
  ·exact (fsub hx e1).trans (gba.trans (fsub ha e2))
theorem Bij.part (h:Bij N S f){a b:Nat}(ha:S a)(hb:S b)(hne:a≠b)(ho:Orb f a b):¬Orb (Pl.tr f a b) a b:=by
 obtain ⟨k0,e0⟩:=ho
 have hmin:∃k,Pl.it f k a=b∧∀i,i<k→Pl.it f i a≠b:=by
  revert e0
  induction k0 using Nat.strongRecOn with
  | _ p ih =>
    intro e
    by_cases hx:∃i,i<p∧Pl.it f i a=b
    ·obtain ⟨i,h2,h3⟩:=hx
     exact ih i h2 h3
    ·exact ⟨p,e,fun i h2 h3=>hx ⟨i,h2,h3⟩⟩
 obtain ⟨k,e,hm⟩:=hmin
 have hk:0<k:=by
  rcases Nat.eq_zero_or_pos k with h0 | h0
  ·subst h0;exact absurd e hne
  ·exact h0
 have hg:=h.tr ha hb
 intro ho
 have hba:=hg.symm ha ho
 have:∃i,0<i∧i≤k∧Pl.it f i a=a:=by
  refine orb_closed (f:=Pl.tr f a b) (P:=fun z=>∃i,0<i∧i≤k∧Pl.it f i a=z) (fun z hz=>?_) ⟨k,hk,Nat.le_refl _,e⟩ hba
  obtain ⟨i,h1,h2,rfl⟩:=hz
  by_cases e1:Pl.it f i a=b
  ·refine ⟨1,by omega,by omega,?_⟩
   rw [e1,tr_b];rfl
  ·by_cases e2:Pl.it f i a=a
   ·-- then b comes earlier
    have hik:i<k:=by
     rcases Nat.lt_or_ge i k with h3 | h3
     ·exact h3
     ·have:i=k:=by omega
      subst this;exact absurd e e1
    have:Pl.it f (k - i) a=b:=by
     rw [←e]
     conv=>rhs;rw [show k=(k - i)+i by omega,it_add,e2]
    exact absurd this (hm _ (by omega))
   ·have hik : i < k := by
     rcases Nat.lt_or_ge i k with h3 | h3
     ·exact h3
     ·have:i=k:=by omega
      subst this;exact absurd e e1
    exact ⟨i+1,by omega,by omega,by rw [tr_ne e2 e1];rfl⟩
 obtain ⟨i,h1,h2,h3⟩:=this
 have hik:i<k:=by
  rcases Nat.lt_or_ge i k with h4 | h4
  ·exact h4
  ·have:i=k:=by omega
   subst this;rw [e] at h3;exact absurd h3.symm hne
 have:Pl.it f (k - i) a=b:=by
  rw [←e]
  conv=>rhs;rw [show k=(k - i)+i by omega,it_add,h3]
 exact absurd this (hm _ (by omega))
theorem Cls.merge (h:Bij N S f){a b k:Nat}(ha:S a)(hb:S b)(hn:¬Orb f a b)(hc:Cls S (Orb f) (k+1)):Cls S (Orb (Pl.tr f a b)) k :=
 (hc.join ha hb hn).congr (fun _=>Iff.rfl) (fun _ _ hx _=>(h.merge ha hb hn hx).symm)
theorem Cls.part (h:Bij N S f){a b k:Nat}(ha:S a)(hb:S b)(hne:a≠b)(ho:Orb f a b)(hc:Cls S (Orb f) k):Cls S (Orb (Pl.tr f a b)) (k+1):=by
 have hg:=h.tr ha hb
 have hn:=h.part ha hb hne ho
 obtain ⟨l,hl⟩:=Cls.exists_ N S (Orb (Pl.tr f a b)) h.lt hg.eqv
 have h2:=hl.two ha hb hn
 obtain ⟨l,rfl⟩:∃j,l=j+1:=⟨l - 1,by omega⟩
 have:=Cls.merge hg ha hb hn hl
 rw [tr_tr] at this
 rw [hc.unique this]
 exact hl
end Go.Proofs.YtdgliimmnnhhjaaGreatDoor.Pl
end
section
namespace Go.Proofs.YtdgliimmnnhhjaaGreatDoor.Pl
inductive Con (f g:Nat→Nat) (x:Nat):Nat→Prop
 | refl:Con f g x x
 | left {y:Nat}:Con f g x y→Con f g x (f y)
 | right {y:Nat}:Con f g x y→Con f g x (g y)
theorem Con.trans {f g:Nat→Nat}{x y z:Nat}(h:Con f g x y)(h':Con f g y z):Con f g x z:=by
 induction h' with
 | refl=>exact h
 | left _ ih=>exact ih.left
 | right _ ih=>exact ih.right
theorem orb_con_left {f:Nat→Nat}(g:Nat→Nat){x y:Nat}(h:Orb f x y):Con f g x y:=by
 obtain ⟨k,rfl⟩:=h
 induction k with
 | zero=>exact .refl
 | succ k ih=>exact ih.left
theorem orb_con_right (f:Nat→Nat){g:Nat→Nat}{x y:Nat}(h:Orb g x y):Con f g x y:=by
 obtain ⟨k,rfl⟩:=h
 induction k with
 | zero=>exact .refl
 | succ k ih=>exact ih.right
structure Hm (N:Nat) (S:Nat→Prop) (r a:Nat→Nat):Prop where
 rb:Bij N S r
 ab:Bij N S a
 inv:∀x,S x→a (a x)=x
variable {N:Nat} {S:Nat→Prop} {r a:Nat→Nat}
def phi (r a:Nat→Nat)(x:Nat):Nat:=r (a x)
theorem Hm.pb (h:Hm N S r a):Bij N S (phi r a) :=
 ⟨h.rb.lt,fun x hx=>h.rb.maps _ (h.ab.maps x hx),fun x y hx hy e=>h.ab.inj _ _ hx hy (h.rb.inj _ _ (h.ab.maps x hx) (h.ab.maps y hy) e)⟩
theorem Hm.con_mem (h:Hm N S r a){x y:Nat}(hx:S x)(e:Con r a x y):S y:=by
 induction e with
 | refl=>exact hx
 | left _ ih=>exact h.rb.maps _ ih
 | right _ ih=>exact h.ab.maps _ ih
theorem Hm.con_symm (h:Hm N S r a){x y:Nat}(hx:S x)(e:Con r a x y):Con r a y x:=by
 induction e with
 | refl=>exact .refl
 | left e' ih=>exact (orb_con_left a (h.rb.symm (h.con_mem hx e') (Orb.step r _))).trans ih
 | right e' ih=>exact (orb_con_right r (h.ab.symm (h.con_mem hx e') (Orb.step a _))).trans ih
theorem Hm.ceqv (h:Hm N S r a):Eqv S (Con r a) :=
 ⟨fun _ _ => .refl,fun _ _ hx _ e=>h.con_symm hx e,fun _ _ _ _ _ _ e e'=>e.trans e'⟩
theorem orb_phi_con {x y:Nat}(e:Orb (phi r a) x y):Con r a x y:=by
 obtain ⟨k,rfl⟩:=e
 induction k with
 | zero=>exact .refl
 | succ k ih=>exact ih.right.left
theorem con_sub (h:Hm N S r a){R:Nat→Nat→Prop}(hE:Eqv S R)(h1:∀x,S x→R x (r x))(h2:∀x,S x→R x (a x)){x y:Nat}(hx:S x)(e:Con r a x y):R x y:=by
 induction e with
 | refl=>exact hE.refl x hx
 | left e' ih=>exact hE.trans _ _ _ hx (h.con_mem hx e') (h.rb.maps _ (h.con_mem hx e')) ih (h1 _ (h.con_mem hx e'))
 | right e' ih=>exact hE.trans _ _ _ hx (h.con_mem hx e') (h.ab.maps _ (h.con_mem hx e')) ih (h2 _ (h.con_mem hx e'))
def Gen (S:Nat→Prop)(r a:Nat→Nat)(z:Int):Prop :=
 ∃v d k f c:Nat,Cls S (Orb r) v∧Cls S Eq d∧Cls S (Orb a) k∧Cls S (Orb (phi r a)) f∧Cls S (Con r a) c∧z=2 * (c:Int) - v+d - k - f
theorem Gen.unique {z z':Int}(h:Gen S r a z)(h':Gen S r a z'):z=z':=by
 obtain ⟨v,d,k,f,c,h1,h2,h3,h4,h5,rfl⟩:=h
 obtain ⟨v',d',k',f',c',g1,g2,g3,g4,g5,rfl⟩:=h'
 rw [h1.unique g1,h2.unique g2,h3.unique g3,h4.unique g4,h5.unique g5]
theorem Hm.gen (h:Hm N S r a):∃z,Gen S r a z:=by
 obtain ⟨v,h1⟩:=Cls.exists_ N S _ h.rb.lt h.rb.eqv
 obtain ⟨d,h2⟩:=Cls.exists_ N S Eq h.rb.lt ⟨fun _ _=>rfl,fun _ _ _ _ e=>e.symm,fun _ _ _ _ _ _ e e'=>e.trans e'⟩
 obtain ⟨k,h3⟩:=Cls.exists_ N S _ h.ab.lt h.ab.eqv
 obtain ⟨f,h4⟩:=Cls.exists_ N S _ h.pb.lt h.pb.eqv
 obtain ⟨c,h5⟩:=Cls.exists_ N S _ h.rb.lt h.ceqv
 exact ⟨_,v,d,k,f,c,h1,h2,h3,h4,h5,rfl⟩
theorem phi_tr (r a:Nat→Nat)(x y:Nat):phi r (tr a x y)=tr (phi r a) x y:=by
 funext z
 unfold phi tr
 split
 ·rfl
 ·split <;> rfl
theorem free_orb {x y:Nat}(fx:a x=x)(e:Orb a x y):y=x :=
 orb_closed (P:=fun z=>z=x) (fun z hz=>by rw [hz];exact fx) rfl e
theorem Hm.tr (h:Hm N S r a){x y:Nat}(hx:S x)(hy:S y)(fx:a x=x)(fy:a y=y):Hm N S r (Pl.tr a x y):=by
 refine ⟨h.rb,h.ab.tr hx hy,fun z hz=>?_⟩
 by_cases h1:z=x
 ·subst h1;rw [tr_a,fy,tr_b,fx]
 ·by_cases h2:z=y
  ·subst h2;rw [tr_b,fx,tr_a,fy]
  ·rw [tr_ne h1 h2]
   have e:=h.inv z hz
   have n1:a z≠x:=fun e1=>h1 (by rw [←e,e1,fx])
   have n2:a z≠y:=fun e1=>h2 (by rw [←e,e1,fy])
   rw [tr_ne n1 n2,e]
theorem Hm.con_tr (h:Hm N S r a){x y:Nat}(hx:S x)(hy:S y)(fx:a x=x)(fy:a y=y){u v:Nat}(hu:S u):Con r (Pl.tr a x y) u v↔Join (Con r a) x y u v:=by
 have hg:=h.tr hx hy fx fy
 have exy:Con r (Pl.tr a x y) x y:=by
  have:=(Con.refl (f:=r) (g:=Pl.tr a x y) (x:=x)).right
  rwa [tr_a,fy] at this
 have eyx:=hg.con_symm hx exy
 have sub:∀{u v},S u→Con r a u v→Con r (Pl.tr a x y) u v:=by
  intro u v hu e
  refine con_sub h hg.ceqv (fun z _=>(Con.refl).left) (fun z hz=>?_) hu e
  by_cases h1:z=x
  ·subst h1;rw [fx];exact .refl
  ·by_cases h2:z=y
   ·subst h2;rw [fy];exact .refl
   ·have:=(Con.refl (f:=r) (g:=Pl.tr a x y) (x:=z)).right
    rwa [tr_ne h1 h2] at this
 constructor
 ·intro e
  refine con_sub hg (Bij.join_eqv h.ceqv hx hy) (fun z _ => .inl (Con.refl).left) (fun z hz=>?_) hu e
  by_cases h1:z=x
  ·subst h1;rw [tr_a,fy];exact .inr (.inl ⟨.refl,.refl⟩)
  ·by_cases h2:z=y
   ·subst h2;rw [tr_b,fx];exact .inr (.inr ⟨.refl,.refl⟩)
   ·rw [tr_ne h1 h2];exact .inl (Con.refl).right
 ·rintro (e | ⟨e1,e2⟩ | ⟨e1,e2⟩)
  ·exact sub hu e
  ·exact (sub hu e1).trans (exy.trans (sub hy e2))
  ·exact (sub hu e1).trans (eyx.trans (sub hx e2))
theorem join_same {R:Nat→Nat→Prop}(hE:Eqv S R){x y:Nat}(hx:S x)(hy:S y)(e:R x y){u v:Nat}(hu:S u)(hv:S v):Join R x y u v↔R u v:=by
 constructor
 ·rintro (e0 | ⟨e1,e2⟩ | ⟨e1,e2⟩)
  ·exact e0
  ·exact hE.trans _ _ _ hu hx hv e1 (hE.trans _ _ _ hx hy hv e e2)
  ·exact hE.trans _ _ _ hu hy hv e1 (hE.trans _ _ _ hy hx hv (hE.symm _ _ hx hy e) e2)
 ·exact .inl
theorem Gen.within (h:Hm N S r a){x y:Nat}{z:Int}(hx:S x)(hy:S y)(hne:x≠y)(fx:a x=x)(fy:a y=y)(ho:Orb (phi r a) x y)(hz:Gen S r a z):Gen S r (tr a x y) z:=by
 obtain ⟨v,d,k,f,c,h1,h2,h3,h4,h5,rfl⟩:=hz
 have hn:¬Orb a x y:=fun e=>hne (free_orb fx e).symm
 have h3':2≤k:=h3.two hx hy hn
 obtain ⟨k,rfl⟩:∃j,k=j+1:=⟨k - 1,by omega⟩
 refine ⟨v,d,k,f+1,c,h1,h2,Cls.merge h.ab hx hy hn h3,?_,h5.congr (fun _=>Iff.rfl) (fun u v hu hv=>?_),by omega⟩
 ·rw [phi_tr];exact Cls.part h.pb hx hy hne ho h4
 ·rw [h.con_tr hx hy fx fy hu]
  exact (join_same h.ceqv hx hy (orb_phi_con ho) hu hv).symm
theorem Gen.between (h:Hm N S r a){x y:Nat}{z:Int}(hx:S x)(hy:S y)(fx:a x=x)(fy:a y=y)(hc:¬Con r a x y)(hz:Gen S r a z):Gen S r (tr a x y) z:=by
 obtain ⟨v,d,k,f,c,h1,h2,h3,h4,h5,rfl⟩:=hz
 have hne:x≠y:=fun e=>hc (e ▸ .refl)
 have hn:¬Orb a x y:=fun e=>hne (free_orb fx e).symm
 have ho:¬Orb (phi r a) x y:=fun e=>hc (orb_phi_con e)
 have h3':2≤k:=h3.two hx hy hn
 have h4':2≤f:=h4.two hx hy ho
 have h5':2≤c:=h5.two hx hy hc
 obtain ⟨k,rfl⟩:∃j,k=j+1:=⟨k - 1,by omega⟩
 obtain ⟨f,rfl⟩:∃j,f=j+1:=⟨f - 1,by omega⟩
 obtain ⟨c,rfl⟩:∃j,c=j+1:=⟨c - 1,by omega⟩
 refine ⟨v,d,k,f,c,h1,h2,Cls.merge h.ab hx hy hn h3,?_,(h5.join hx hy hc).congr (fun _=>Iff.rfl) (fun u v hu _=>(h.con_tr hx hy fx fy hu).symm),by omega⟩
 rw [phi_tr];exact Cls.merge h.pb hx hy ho h4
theorem Gen.handle (h:Hm N S r a){x y:Nat}{z:Int}(hx:S x)(hy:S y)(fx:a x=x)(fy:a y=y)(ho:¬Orb (phi r a) x y)(hc:Con r a x y)(hz:Gen S r a z):Gen S r (tr a x y) (z+2):=by
 obtain ⟨v,d,k,f,c,h1,h2,h3,h4,h5,rfl⟩:=hz
 have hne:x≠y:=fun e=>ho (e ▸ Orb.refl _ _)
 have hn:¬Orb a x y:=fun e=>hne (free_orb fx e).symm
 have h3':2≤k:=h3.two hx hy hn
 have h4':2≤f:=h4.two hx hy ho
 obtain ⟨k,rfl⟩:∃j,k=j+1:=⟨k - 1,by omega⟩
 obtain ⟨f,rfl⟩:∃j,f=j+1:=⟨f - 1,by omega⟩
 refine ⟨v,d,k,f,c,h1,h2,Cls.merge h.ab hx hy hn h3,?_,h5.congr (fun _=>Iff.rfl) (fun u v hu hv=>?_),by omega⟩
 ·rw [phi_tr];exact Cls.merge h.pb hx hy ho h4
 ·rw [h.con_tr hx hy fx fy hu]
  exact (join_same h.ceqv hx hy hc hu hv).symm
theorem Hm.cut (h:Hm N S r a){x:Nat}(hx:S x)(hne:a x≠x):Hm N S r (Pl.tr a x (a x))∧Pl.tr a x (a x) x=x∧Pl.tr a x (a x) (a x)=a x:=by
 have hy:=h.ab.maps x hx
 have e:=h.inv x hx
 have e1:Pl.tr a x (a x) x=x:=by rw [tr_a,e]
 have e2:Pl.tr a x (a x) (a x)=a x:=by rw [tr_b]
 refine ⟨⟨h.rb,h.ab.tr hx hy,fun z hz=>?_⟩,e1,e2⟩
 by_cases h1:z=x
 ·subst h1;rw [e1,e1]
 ·by_cases h2:z=a x
  ·rw [h2,e2,e2]
  ·rw [tr_ne h1 h2]
   have ez:=h.inv z hz
   have n1:a z≠x:=fun e3=>h2 (by rw [←ez,e3])
   have n2:a z≠a x:=fun e3=>h1 (h.ab.inj _ _ hz hx e3)
   rw [tr_ne n1 n2,ez]
noncomputable def edged (a:Nat→Nat)(S:Nat→Prop):Nat→Nat
 | 0=>0
 | m+1=>edged a S m+(open Classical in if S m∧a m≠m then 1 else 0)
theorem edged_le {a b:Nat→Nat}{S:Nat→Prop}(h:∀x,S x→b x≠x→a x≠x):∀m,edged b S m≤edged a S m
 | 0=>Nat.le_refl _
 | m + 1 => by
   have:=edged_le h m
   unfold edged
   by_cases h1:S m∧b m≠m
   ·rw [if_pos h1,if_pos ⟨h1.1,h m h1.1 h1.2⟩];omega
   ·rw [if_neg h1];omega
theorem edged_lt {a b:Nat→Nat}{S:Nat→Prop}(h:∀x,S x→b x≠x→a x≠x){x:Nat}(hx:S x)(h1:a x≠x)(h2:b x=x):∀m,x<m→edged b S m<edged a S m
 | 0,hm=>absurd hm (by omega)
 | m + 1, hm => by
   unfold edged
   by_cases e:x=m
   ·subst e
    have:=edged_le h x
    rw [if_neg (fun h3=>h3.2 h2),if_pos ⟨hx,h1⟩];omega
   ·have:=edged_lt h hx h1 h2 m (by omega)
    by_cases h3:S m∧b m≠m
    ·rw [if_pos h3,if_pos ⟨h3.1,h m h3.1 h3.2⟩];omega
    ·rw [if_neg h3];omega
theorem Hm.nonneg:∀(n:Nat) (a:Nat→Nat),Hm N S r a→edged a S N≤n→∀z,Gen S r a z→0≤z
 | n, a, h, hn, z, hz => by
   by_cases hx:∃x,S x∧a x≠x
   ·obtain ⟨x,hx,hne⟩:=hx
    obtain ⟨h0,f1,f2⟩:=h.cut hx hne
    have hy:=h.ab.maps x hx
    have hlt:=edged_lt (a:=a) (b:=Pl.tr a x (a x)) (S:=S) (fun u hu hb ha=>hb (by
     by_cases e1:u=x
     ·subst e1;exact f1
     ·by_cases e2:u=a x
      ·rw [e2];exact f2
      ·rw [tr_ne e1 e2,ha])) hx hne f1 N (h.ab.lt x hx)
    match n,hn with
    | 0,hn=>omega
    | n + 1, hn =>
      obtain ⟨z0,hz0⟩:=h0.gen
      have i0:=Hm.nonneg n _ h0 (by omega) z0 hz0
      have hh:Pl.tr (Pl.tr a x (a x)) x (a x)=a:=tr_tr _ _ _
      by_cases ho:Orb (phi r (Pl.tr a x (a x))) x (a x)
      ·have:=Gen.within h0 hx hy (Ne.symm hne) f1 f2 ho hz0
       rw [hh] at this
       rw [hz.unique this];exact i0
      ·by_cases hc:Con r (Pl.tr a x (a x)) x (a x)
       ·have:=Gen.handle h0 hx hy f1 f2 ho hc hz0
        rw [hh] at this
        rw [hz.unique this];omega
       ·have:=Gen.between h0 hx hy f1 f2 hc hz0
        rw [hh] at this
        rw [hz.unique this];exact i0
   ·have hid:∀x,S x→a x=x:=fun x h1=>Classical.byContradiction fun h2=>hx ⟨x,h1,h2⟩
    obtain ⟨v,d,k,f,c,h1,h2,h3,h4,h5,rfl⟩:=hz
    have e1:d=k:=h2.unique (h3.congr (fun _=>Iff.rfl) (fun x y hx _=>⟨fun e=>(free_orb (hid x hx) e).symm,fun e=>e ▸ Orb.refl a x⟩))
    have hp:∀x y,S x→(Orb (phi r a) x y↔Orb r x y):=fun x y hx =>
     ⟨fun e=>orb_sub h.pb h.rb.eqv (fun z hz=>by unfold phi;rw [hid z hz];exact Orb.step r z) hx e,
      fun e=>orb_sub h.rb h.pb.eqv (fun z hz=>by have:=Orb.step (phi r a) z;unfold phi at this;rw [hid z hz] at this;exact this) hx e⟩
    have e2:f=v:=h4.unique (h1.congr (fun _=>Iff.rfl) (fun x y hx _=>(hp x y hx).symm))
    have e3:c=v:=h5.unique (h1.congr (fun _=>Iff.rfl) (fun x y hx _=>⟨fun e=>orb_con_left a e,fun e=>con_sub h h.rb.eqv (fun z _=>Orb.step r z) (fun z hz=>by rw [hid z hz];exact Orb.refl r z) hx e⟩))
    omega
theorem Gen.nonneg (h:Hm N S r a){z:Int}(hz:Gen S r a z):0≤z:=Hm.nonneg _ a h (Nat.le_refl _) z hz
def Flat (S:Nat→Prop)(r a:Nat→Nat):Prop:=Gen S r a 0
theorem Flat.add (h:Hm N S r a){x y:Nat}(hx:S x)(hy:S y)(hne:x≠y)(fx:a x=x)(fy:a y=y)(hc:Con r a x y→Orb (phi r a) x y)(hf:Flat S r a):Flat S r (tr a x y):=by
 by_cases h1:Con r a x y
 ·exact Gen.within h hx hy hne fx fy (hc h1) hf
 ·exact Gen.between h hx hy fx fy h1 hf
theorem Flat.del (h:Hm N S r a){x y:Nat}(hx:S x)(hy:S y)(hne:x≠y)(fx:a x=x)(fy:a y=y)(hf:Flat S r (tr a x y)):Flat S r a∧(Con r a x y→Orb (phi r a) x y):=by
 obtain ⟨z,hz⟩:=h.gen
 have h0:=Gen.nonneg h hz
 by_cases ho:Orb (phi r a) x y
 ·have:=hf.unique (Gen.within h hx hy hne fx fy ho hz)
  subst this
  exact ⟨hz,fun _=>ho⟩
 ·by_cases hc:Con r a x y
  ·have:=hf.unique (Gen.handle h hx hy fx fy ho hc hz)
   omega
  ·have:=hf.unique (Gen.between h hx hy fx fy hc hz)
   subst this
   exact ⟨hz,fun e=>absurd e hc⟩
theorem Gen.add {T:Nat→Prop}(h:Hm N S r a)(h':Hm N T r a)(hd:∀x,S x→¬T x){z z':Int}(hz:Gen S r a z)(hz':Gen T r a z'):Gen (fun x=>S x∨T x) r a (z+z'):=by
 obtain ⟨v,d,k,f,c,h1,h2,h3,h4,h5,rfl⟩:=hz
 obtain ⟨v',d',k',f',c',g1,g2,g3,g4,g5,rfl⟩:=hz'
 have o:∀{f:Nat→Nat},Bij N S f→Bij N T f→(∀x y,S x→T y→¬Orb f x y)∧(∀x y,S x→T y→¬Orb f y x):=fun b b' =>
  ⟨fun x y hx hy e=>hd y (b.orb_mem hx e) hy,fun x y hx hy e=>hd x hx (b'.orb_mem hy e)⟩
 exact ⟨v+v',d+d',k+k',f+f',c+c',h1.add g1 (o h.rb h'.rb).1 (o h.rb h'.rb).2 hd,h2.add g2 (fun x y hx hy e=>hd x hx (e ▸ hy)) (fun x y hx hy e=>hd x hx (e ▸ hy)) hd,
  h3.add g3 (o h.ab h'.ab).1 (o h.ab h'.ab).2 hd,h4.add g4 (o h.pb h'.pb).1 (o h.pb h'.pb).2 hd,
  h5.add g5 (fun x y hx hy e=>hd y (h.con_mem hx e) hy) (fun x y hx hy e=>hd x hx (h'.con_mem hy e)) hd,by omega⟩
end Go.Proofs.YtdgliimmnnhhjaaGreatDoor.Pl
end
section
namespace Go.Proofs.YtdgliimmnnhhjaaGreatDoor.Pl
structure Dg where
 sg:List Int
 mt:List Nat
 lp:Nat
deriving DecidableEq
namespace Dg
def n (d:Dg):Nat:=d.sg.length
def s (d:Dg)(c:Nat):Int:=d.sg.getD c 0
def m (d:Dg)(h:Nat):Nat:=d.mt.getD h h
end Dg
def tn (h k:Nat):Nat:=h / 4 * 4+(h % 4+k) % 4
theorem tn_div (h k:Nat):tn h k / 4=h / 4:=by unfold tn;omega
theorem tn_mod (h k:Nat):tn h k % 4=(h % 4+k) % 4:=by unfold tn;omega
theorem tn_lt {h k n:Nat}(hh:h<4 * n):tn h k<4 * n:=by unfold tn;omega
theorem tn_tn (h j k:Nat):tn (tn h j) k=tn h (j+k):=by unfold tn;omega
theorem tn_four (h:Nat):tn h 4=h:=by unfold tn;omega
theorem tn_zero (h:Nat):tn h 0=h:=by unfold tn;omega
theorem tn_inj {g h k:Nat}(e:tn g k=tn h k):g=h:=by unfold tn at e;omega
def out (d:Dg)(h:Nat):Bool:=h % 4 == 2 || (h % 4 == 1 && d.s (h / 4) == 1) || (h % 4 == 3 && d.s (h / 4) == -1)
def nx (d:Dg)(h:Nat):Nat:=tn (d.m h) 3
def st (d:Dg)(h:Nat):Nat:=tn (d.m h) 2
def rot (h:Nat):Nat:=tn h 3
structure Wf (d:Dg):Prop where
 few:d.n≤64
 len:d.mt.length=4 * d.n
 lp:d.lp≤64
 sign:∀c,c<d.n→d.s c=1∨d.s c = -1
 lt:∀h,h<4 * d.n→d.m h<4 * d.n
 ne:∀h,h<4 * d.n→d.m h≠h
 inv:∀h,h<4 * d.n→d.m (d.m h)=h
 way:∀h,h<4 * d.n→out d h≠out d (d.m h)
def dart (d:Dg)(h:Nat):Prop:=h<4 * d.n
theorem rot_bij (k:Nat):Bij (4 * k) (fun h=>h<4 * k) rot :=
 ⟨fun _ h=>h,fun _ h=>tn_lt h,fun _ _ _ _ e=>tn_inj e⟩
theorem Wf.bij {d:Dg}(h:Wf d):Bij (4 * d.n) (dart d) d.m :=
 ⟨fun _ h=>h,fun x hx=>h.lt x hx,fun x y hx hy e=>by rw [←h.inv x hx,←h.inv y hy,e]⟩
theorem Wf.hm {d:Dg}(h:Wf d):Hm (4 * d.n) (dart d) rot d.m:=⟨rot_bij d.n,h.bij,h.inv⟩
def Comp (d:Dg)(a b:Nat):Prop:=Con rot d.m (4 * a) (4 * b)
theorem orb_rot (h:Nat):∀k,Orb rot (4 * (h / 4)+k % 4) h:=by
 intro k
 have h1:k % 4=0∨k % 4=1∨k % 4=2∨k % 4=3:=by omega
 have h2:h % 4=0∨h % 4=1∨h % 4=2∨h % 4=3:=by omega
 refine ⟨(k % 4+4 - h % 4) % 4,?_⟩
 have key:∀j x:Nat,it rot j x=tn x (3 * j):=by
  intro j
  induction j with
  | zero=>intro x;exact (tn_zero x).symm
  | succ j ih=>intro x;show rot (it rot j x)=_;rw [ih];unfold rot;rw [tn_tn];congr 1
 rw [key]
 unfold tn
 omega
theorem orb_rot0 (h:Nat):Orb rot (4 * (h / 4)) h:=orb_rot h 0
theorem con_comp {d:Dg}(hd:Wf d){g h:Nat}(hg:g<4 * d.n)(hh:h<4 * d.n):Con rot d.m g h↔Comp d (g / 4) (h / 4):=by
 have H:=hd.hm
 have e1:Con rot d.m (4 * (g / 4)) g:=orb_con_left _ (orb_rot0 g)
 have e2:Con rot d.m (4 * (h / 4)) h:=orb_con_left _ (orb_rot0 h)
 have s1:dart d (4 * (g / 4)):=by unfold dart;omega
 have s2:dart d (4 * (h / 4)):=by unfold dart;omega
 constructor
 ·intro e;exact (e1.trans e).trans (H.con_symm s2 e2)
 ·intro e;exact (H.con_symm s1 e1).trans (e.trans e2)
def Least (f:Nat→Nat)(h:Nat):Prop:=∀k,h≤it f k h
open Classical in
noncomputable def cnt (p:Nat→Prop):Nat→Nat
 | 0=>0
 | k+1=>cnt p k+if p k then 1 else 0
structure Valid (d:Dg):Prop where
 wf:Wf d
 flat:∀c,c<d.n→cnt (fun h=>Least (nx d) h∧Comp d c (h / 4)) (4 * d.n)=cnt (fun b=>Comp d c b) d.n+2
end Go.Proofs.YtdgliimmnnhhjaaGreatDoor.Pl
end
section
namespace Go.Proofs.YtdgliimmnnhhjaaGreatDoor.Pl
def Lst (S:Nat→Prop)(R:Nat→Nat→Prop)(h:Nat):Prop:=S h∧∀g,S g→R h g→h≤g
theorem cnt_step_pos {p:Nat→Prop}{k:Nat}(h:p k):cnt p (k+1)=cnt p k+1:=by rw [cnt,if_pos h]
theorem cnt_step_neg {p:Nat→Prop}{k:Nat}(h:¬p k):cnt p (k+1)=cnt p k:=by rw [cnt,if_neg h];omega
theorem cnt_le (p:Nat→Prop)(j:Nat):∀k,cnt p j≤cnt p (j+k)
 | 0=>Nat.le_refl _
 | k + 1 => by
   have:=cnt_le p j k
   by_cases h:p (j+k)
   ·rw [←Nat.add_assoc,cnt_step_pos h];omega
   ·rw [←Nat.add_assoc,cnt_step_neg h];omega
theorem cnt_mono (p:Nat→Prop){j k:Nat}(h:j≤k):cnt p j≤cnt p k:=by
 have:=cnt_le p j (k - j)
 rwa [Nat.add_sub_cancel' h] at this
theorem cnt_lt {p:Nat→Prop}{j k:Nat}(hj:p j)(h:j<k):cnt p j<cnt p k:=by
 have h1:=cnt_mono p (show j+1≤k by omega)
 rw [cnt_step_pos hj] at h1
 omega
theorem cnt_surj (p:Nat→Prop):∀(N i:Nat),i<cnt p N→∃x,x<N∧p x∧cnt p x=i
 | 0,i,h=>by simp [cnt] at h
 | N + 1, i, h => by
   by_cases hp:p N
   ·rw [cnt_step_pos hp] at h
    by_cases e:i=cnt p N
    ·exact ⟨N,by omega,hp,e.symm⟩
    ·obtain ⟨x,h1,h2,h3⟩:=cnt_surj p N i (by omega)
     exact ⟨x,by omega,h2,h3⟩
   ·rw [cnt_step_neg hp] at h
    obtain ⟨x,h1,h2,h3⟩:=cnt_surj p N i h
    exact ⟨x,by omega,h2,h3⟩
theorem cnt_congr {p q:Nat→Prop}:∀(N:Nat),(∀x,x<N→(p x↔q x))→cnt p N=cnt q N
 | 0,_=>rfl
 | N + 1, h => by
   have ih:=cnt_congr N (fun x hx=>h x (by omega))
   by_cases hp:p N
   ·rw [cnt_step_pos hp,cnt_step_pos ((h N (by omega)).1 hp),ih]
   ·rw [cnt_step_neg hp,cnt_step_neg (fun hq=>hp ((h N (by omega)).2 hq)),ih]
theorem cnt_top (p:Nat→Prop):∀N,cnt p N≤N
 | 0=>Nat.le_refl _
 | N + 1 => by
   have:=cnt_top p N
   by_cases h:p N
   ·rw [cnt_step_pos h];omega
   ·rw [cnt_step_neg h];omega
theorem least_of {p:Nat→Prop}(x:Nat)(hx:p x):∃y,p y∧∀z,p z→y≤z:=by
 induction x using Nat.strongRecOn with
 | _ x ih =>
   by_cases h:∃z,p z∧z<x
   ·obtain ⟨z,h1,h2⟩:=h;exact ih z h2 h1
   ·exact ⟨x,hx,fun z hz=>Nat.le_of_not_lt fun h1=>h ⟨z,hz,h1⟩⟩
theorem Cls.count {S:Nat→Prop}{R:Nat→Nat→Prop}(N:Nat)(hN:∀x,S x→x<N)(hE:Eqv S R):Cls S R (cnt (Lst S R) N):=by
 have hw:∀x:Nat,∃y:Nat,S x→Lst S R y∧R x y:=fun x=>by
  by_cases hx:S x
  ·obtain ⟨y,hy,hm⟩:=least_of (p:=fun y=>S y∧R x y) x ⟨hx,hE.refl x hx⟩
   exact ⟨y,fun _=>⟨⟨hy.1,fun g hg e=>hm g ⟨hg,hE.trans _ _ _ hx hy.1 hg hy.2 e⟩⟩,hy.2⟩⟩
  ·exact ⟨0,fun h=>absurd h hx⟩
 have un:∀y z,Lst S R y→Lst S R z→R y z→y=z:=fun y z hy hz e=>Nat.le_antisymm (hy.2 z hz.1 e) (hz.2 y hy.1 (hE.symm _ _ hy.1 hz.1 e))
 refine ⟨fun x=>cnt (Lst S R) (Classical.choose (hw x)),fun x hx=>?_,fun x y hx hy=>?_,fun i hi=>?_⟩
 ·have c:=Classical.choose_spec (hw x) hx
  exact cnt_lt c.1 (hN _ c.1.1)
 ·have c:=Classical.choose_spec (hw x) hx
  have c':=Classical.choose_spec (hw y) hy
  constructor
  ·intro e
   have e2:Classical.choose (hw x)=Classical.choose (hw y):=by
    rcases Nat.lt_trichotomy (Classical.choose (hw x)) (Classical.choose (hw y)) with h | h | h
    ·have:=cnt_lt c.1 h;exact absurd (show cnt (Lst S R) (Classical.choose (hw x))=cnt (Lst S R) (Classical.choose (hw y)) from e) (by omega)
    ·exact h
    ·have:=cnt_lt c'.1 h;exact absurd (show cnt (Lst S R) (Classical.choose (hw x))=cnt (Lst S R) (Classical.choose (hw y)) from e) (by omega)
   exact hE.trans _ _ _ hx c.1.1 hy c.2 (e2 ▸ hE.symm _ _ hy c'.1.1 c'.2)
  ·intro e
   have e2:=un _ _ c.1 c'.1 (hE.trans _ _ _ c.1.1 hx c'.1.1 (hE.symm _ _ hx c.1.1 c.2) (hE.trans _ _ _ hx hy c'.1.1 e c'.2))
   show cnt (Lst S R) (Classical.choose (hw x))=cnt (Lst S R) (Classical.choose (hw y))
   rw [e2]
 ·obtain ⟨x,h1,h2,h3⟩:=cnt_surj _ N i hi
  have c:=Classical.choose_spec (hw x) h2.1
  have e2:=un _ _ h2 c.1 c.2
  refine ⟨x,h2.1,?_⟩
  show cnt (Lst S R) (Classical.choose (hw x))=i
  rw [←e2];exact h3
theorem eq_eqv (S:Nat→Prop):Eqv S Eq:=⟨fun _ _=>rfl,fun _ _ _ _ e=>e.symm,fun _ _ _ _ _ _ e e'=>e.trans e'⟩
theorem Cls.card {S:Nat→Prop}(N:Nat)(hN:∀x,S x→x<N):Cls S Eq (cnt S N):=by
 have:=Cls.count (R:=Eq) N hN (eq_eqv S)
 rwa [cnt_congr N (fun x _=>⟨fun h=>h.1,fun h=>⟨h,fun g _ e=>Nat.le_of_eq e⟩⟩)] at this
def part (d:Dg)(c h:Nat):Prop:=h<4 * d.n∧Comp d c (h / 4)
variable {d:Dg}
theorem comp_mem (hd:Wf d){a b:Nat}(ha:a<d.n)(e:Comp d a b):b<d.n:=by
 have:=hd.hm.con_mem (x:=4 * a) (by unfold dart;omega) e
 unfold dart at this;omega
theorem comp_symm (hd:Wf d){a b:Nat}(ha:a<d.n)(e:Comp d a b):Comp d b a:=hd.hm.con_symm (by unfold dart;omega) e
theorem part_con (hd:Wf d){c g h:Nat}(_:c<d.n)(hg:part d c g)(e:Con rot d.m g h):part d c h:=by
 have hh:=hd.hm.con_mem (x:=g) hg.1 e
 exact ⟨hh,hg.2.trans ((con_comp hd hg.1 hh).1 e)⟩
theorem part_hm (hd:Wf d){c:Nat}(hc:c<d.n):Hm (4 * d.n) (part d c) rot d.m :=
 ⟨⟨fun _ h=>h.1,fun x hx=>part_con hd hc hx (Con.refl.left),fun _ _ _ _ e=>tn_inj e⟩,
  ⟨fun _ h=>h.1,fun x hx=>part_con hd hc hx (Con.refl.right),fun x y hx hy e=>hd.bij.inj x y hx.1 hy.1 e⟩,fun x hx=>hd.inv x hx.1⟩
theorem part_one (hd:Wf d){c g h:Nat}(hc:c<d.n)(hg:part d c g)(hh:part d c h):Con rot d.m g h :=
 (con_comp hd hg.1 hh.1).2 ((comp_symm hd hc hg.2).trans hh.2)
theorem out_way (hd:Wf d){h:Nat}(hh:h<4 * d.n):out d (d.m h) = !out d h:=by
 have:=hd.way h hh
 cases h1:out d h <;> cases h2:out d (d.m h) <;> simp_all
theorem orb_div {x y:Nat}(e:Orb rot x y):y / 4=x / 4:=orb_closed (P:=fun z=>z / 4=x / 4) (fun z hz=>by show rot z / 4=_;unfold rot;rw [tn_div,hz]) rfl e
theorem part_gen (hd:Wf d){c:Nat}(hc:c<d.n) :
 Gen (part d c) rot d.m (2+(cnt (fun b=>Comp d c b) d.n:Int) - (cnt (fun h=>Least (nx d) h∧Comp d c (h / 4)) (4 * d.n):Int)):=by
 have H:=part_hm hd hc
 -- crossings
 have cb:Cls (fun b=>b<d.n∧Comp d c b) Eq (cnt (fun b=>Comp d c b) d.n):=by
  have:=Cls.card (S:=fun b=>b<d.n∧Comp d c b) d.n (fun _ h=>h.1)
  rwa [cnt_congr (q:=fun b=>Comp d c b) d.n (fun x hx=>⟨fun h=>h.2,fun h=>⟨hx,h⟩⟩)] at this
 have slot:∀k,k<4→Cls (fun h=>part d c h∧h % 4=k) Eq (cnt (fun b=>Comp d c b) d.n):=fun k hk =>
  cb.map (fun b=>4 * b+k) (fun x hx=>by
   refine ⟨⟨by have:=hx.1;omega,?_⟩,by omega⟩
   rw [show (4 * x+k) / 4=x by omega];exact hx.2) (fun y hy=>⟨y / 4,⟨by have:=hy.1.1;omega,hy.1.2⟩,by have:=hy.2;omega⟩) (fun x y _ _=>by omega)
 have hv:Cls (part d c) (Orb rot) (cnt (fun b=>Comp d c b) d.n):=by
  refine Cls.sup (D:=fun h=>part d c h∧h % 4=0) ((slot 0 (by omega)).congr (fun _=>Iff.rfl) (fun x y hx hy=>⟨fun e=>e ▸ Orb.refl _ _,fun e=>?_⟩)) H.rb.eqv (fun _ h=>h.1) (fun x hx=>?_)
  ·have h1:=orb_div e
   have h2:=hx.2
   have h3:=hy.2
   omega
  ·have h1:=H.rb.lt x hx
   refine ⟨4 * (x / 4),⟨⟨by omega,?_⟩,by omega⟩,(rot_bij d.n).symm (show 4 * (x / 4)<4 * d.n by omega) (orb_rot0 x)⟩
   rw [show 4 * (x / 4) / 4=x / 4 by omega];exact hx.2
 have hdn:Cls (part d c) Eq (cnt (fun b=>Comp d c b) d.n * 4):=by
  have e0:=slot 0 (by omega)
  have e1:=e0.add (slot 1 (by omega)) (fun x y hx hy e=>by have h1:=hx.2;have h2:=hy.2;omega) (fun x y hx hy e=>by have h1:=hx.2;have h2:=hy.2;omega) (fun x hx hy=>by have h1:=hx.2;have h2:=hy.2;omega)
  have e2:=e1.add (slot 2 (by omega)) (fun x y hx hy e=>by have h2:=hy.2;rcases hx with hx | hx <;> have h1:=hx.2 <;> omega) (fun x y hx hy e=>by have h2:=hy.2;rcases hx with hx | hx <;> have h1:=hx.2 <;> omega) (fun x hx hy=>by have h2:=hy.2;rcases hx with hx | hx <;> have h1:=hx.2 <;> omega)
  have e3:=e2.add (slot 3 (by omega)) (fun x y hx hy e=>by have h2:=hy.2;rcases hx with (hx | hx) | hx <;> have h1:=hx.2 <;> omega) (fun x y hx hy e=>by have h2:=hy.2;rcases hx with (hx | hx) | hx <;> have h1:=hx.2 <;> omega) (fun x hx hy=>by have h2:=hy.2;rcases hx with (hx | hx) | hx <;> have h1:=hx.2 <;> omega)
  have:=e3.congr (S':=part d c) (R':=Eq) (fun x=>⟨fun h=>by rcases h with ((h | h) | h) | h <;> exact h.1,fun h=>by
   have:x % 4=0∨x % 4=1∨x % 4=2∨x % 4=3:=by omega
   rcases this with e | e | e | e
   ·exact .inl (.inl (.inl ⟨h,e⟩))
   ·exact .inl (.inl (.inr ⟨h,e⟩))
   ·exact .inl (.inr ⟨h,e⟩)
   ·exact .inr ⟨h,e⟩⟩) (fun _ _ _ _=>Iff.rfl)
  rwa [show cnt (fun b=>Comp d c b) d.n+cnt (fun b=>Comp d c b) d.n+cnt (fun b=>Comp d c b) d.n+cnt (fun b=>Comp d c b) d.n=cnt (fun b=>Comp d c b) d.n * 4 by omega] at this
 -- edges
 have ho:Cls (fun h=>part d c h∧out d h=true) Eq (cnt (fun h=>part d c h∧out d h=true) (4 * d.n)):=Cls.card _ (fun _ h=>h.1.1)
 have hi:Cls (fun h=>part d c h∧out d h=false) Eq (cnt (fun h=>part d c h∧out d h=true) (4 * d.n)) :=
  ho.map d.m (fun x hx=>⟨H.ab.maps x hx.1,by rw [out_way hd hx.1.1,hx.2];rfl⟩)
   (fun y hy=>⟨d.m y,⟨H.ab.maps y hy.1,by rw [out_way hd hy.1.1,hy.2];rfl⟩,hd.inv y hy.1.1⟩) (fun x y hx hy=>⟨fun e=>by rw [e],fun e=>hd.bij.inj x y hx.1.1 hy.1.1 e⟩)
 have hboth:=ho.add hi (fun x y hx hy e=>by have h1:=hx.2;have h2:=hy.2;rw [e,h2] at h1;cases h1) (fun x y hx hy e=>by have h1:=hx.2;have h2:=hy.2;rw [e,h1] at h2;cases h2) (fun x hx hy=>by have h1:=hx.2;rw [hy.2] at h1;cases h1)
 have hda:=hdn.unique (hboth.congr (S':=part d c) (fun x=>⟨fun h=>by rcases h with h | h <;> exact h.1,fun h=>by
  rcases Bool.eq_false_or_eq_true (out d x) with e | e
  ·exact .inl ⟨h,e⟩
  ·exact .inr ⟨h,e⟩⟩) (fun _ _ _ _=>Iff.rfl))
 have hk:Cls (part d c) (Orb d.m) (cnt (fun h=>part d c h∧out d h=true) (4 * d.n)):=by
  refine Cls.sup (D:=fun h=>part d c h∧out d h=true) (ho.congr (fun _=>Iff.rfl) (fun x y hx hy=>⟨fun e=>e ▸ Orb.refl _ _,fun e=>?_⟩)) H.ab.eqv (fun _ h=>h.1) (fun x hx=>?_)
  ·have : y = x ∨ y = d.m x := orb_closed (P := fun z => z = x ∨ z = d.m x) (fun z hz => by
    rcases hz with rfl | rfl
    ·exact .inr rfl
    ·exact .inl (hd.inv x hx.1.1)) (.inl rfl) e
   rcases this with h | h
   ·exact h.symm
   ·have h2:=hy.2;rw [h,out_way hd hx.1.1,hx.2] at h2;cases h2
  ·rcases Bool.eq_false_or_eq_true (out d x) with e | e
   ·exact ⟨x,⟨hx,e⟩,Orb.refl _ _⟩
   ·exact ⟨d.m x,⟨H.ab.maps x hx,by rw [out_way hd hx.1,e];rfl⟩,Orb.step _ _⟩
 -- faces
 have hf:Cls (part d c) (Orb (phi rot d.m)) (cnt (fun h=>Least (nx d) h∧Comp d c (h / 4)) (4 * d.n)):=by
  have:=Cls.count (4 * d.n) H.pb.lt H.pb.eqv
  rwa [cnt_congr (q:=fun h=>Least (nx d) h∧Comp d c (h / 4)) (4 * d.n) (fun x hx=>⟨fun h=>⟨fun k=>h.2 _ (H.pb.it k x h.1) ⟨k,rfl⟩,h.1.2⟩,fun h=>⟨⟨hx,h.2⟩,fun g _ e=>by
   obtain ⟨k,rfl⟩:=e
   exact h.1 k⟩⟩)] at this
 -- one component
 have hc1:Cls (part d c) (Con rot d.m) 1 :=
  ⟨fun _=>0,fun _ _=>Nat.zero_lt_one,fun x y hx hy=>⟨fun _=>part_one hd hc hx hy,fun _=>rfl⟩,fun i hi=>⟨4 * c,⟨by omega,by rw [show 4 * c / 4=c by omega];exact .refl⟩,show 0=i by omega⟩⟩
 exact ⟨_,_,_,_,_,hv,hdn,hk,hf,hc1,by omega⟩
theorem flat_iff (hd:Wf d):(∀c,c<d.n→cnt (fun h=>Least (nx d) h∧Comp d c (h / 4)) (4 * d.n)=cnt (fun b=>Comp d c b) d.n+2)↔Flat (dart d) rot d.m:=by
 constructor
 ·intro h
  -- by crossings
  have key:∀k,k≤d.n→Gen (fun h=>h<4 * d.n∧∃c,c<k∧Comp d c (h / 4)) rot d.m 0∧Hm (4 * d.n) (fun h=>h<4 * d.n∧∃c,c<k∧Comp d c (h / 4)) rot d.m:=by
   intro k hk
   refine ⟨?_,⟨⟨fun _ h=>h.1,fun x hx=>⟨tn_lt hx.1,?_⟩,fun _ _ _ _ e=>tn_inj e⟩,⟨fun _ h=>h.1,fun x hx=>?_,fun x y hx hy e=>hd.bij.inj x y hx.1 hy.1 e⟩,fun x hx=>hd.inv x hx.1⟩⟩
   ·induction k with
    | zero =>
      have e:∀x,¬(x<4 * d.n∧∃c,c<0∧Comp d c (x / 4)):=fun x hx=>by obtain ⟨_,c,h,_⟩:=hx;omega
      exact ⟨0,0,0,0,0,Cls.empty e,Cls.empty e,Cls.empty e,Cls.empty e,Cls.empty e,rfl⟩
    | succ k ih =>
      have ih:=ih (by omega)
      by_cases hx:∃c,c<k∧Comp d c k
      ·obtain ⟨c0,h1,h2⟩:=hx
       have e:(fun h=>h<4 * d.n∧∃c,c<k+1∧Comp d c (h / 4))=(fun h=>h<4 * d.n∧∃c,c<k∧Comp d c (h / 4)):=by
        funext x
        refine propext ⟨fun ⟨a,c,h3,h4⟩=>⟨a,?_⟩,fun ⟨a,c,h3,h4⟩=>⟨a,c,by omega,h4⟩⟩
        by_cases e:c=k
        ·subst e;exact ⟨c0,h1,h2.trans h4⟩
        ·exact ⟨c,by omega,h4⟩
       rw [e];exact ih
      ·have hp:=part_gen hd (c:=k) (by omega)
       rw [h k (by omega),show (2:Int)+(cnt (fun b=>Comp d k b) d.n:Int) - ((cnt (fun b=>Comp d k b) d.n+2:Nat):Int)=0 by omega] at hp
       have hh:Hm (4 * d.n) (fun h=>h<4 * d.n∧∃c,c<k∧Comp d c (h / 4)) rot d.m:=by
        refine ⟨⟨fun _ h=>h.1,fun x hx=>⟨tn_lt hx.1,?_⟩,fun _ _ _ _ e=>tn_inj e⟩,⟨fun _ h=>h.1,fun x hx=>?_,fun x y hx hy e=>hd.bij.inj x y hx.1 hy.1 e⟩,fun x hx=>hd.inv x hx.1⟩
        ·obtain ⟨_,c,h1,h2⟩:=hx
         exact ⟨c,h1,by unfold rot;rw [tn_div];exact h2⟩
        ·obtain ⟨h0,c,h1,h2⟩:=hx
         have:=part_con hd (c:=c) (g:=x) (by omega) ⟨h0,h2⟩ (Con.refl.right)
         exact ⟨this.1,c,h1,this.2⟩
       have:=Gen.add hh (part_hm hd (c:=k) (by omega)) (fun x hx1 hx2=>by
        obtain ⟨h0,c,h1,h2⟩:=hx1
        exact hx ⟨c,h1,h2.trans (comp_symm hd (by omega) hx2.2)⟩) ih hp
       have e:(fun h=>h<4 * d.n∧∃c,c<k+1∧Comp d c (h / 4))=(fun x=>(x<4 * d.n∧∃c,c<k∧Comp d c (x / 4))∨part d k x):=by
        funext x
        refine propext ⟨fun ⟨a,c,h3,h4⟩=>?_,fun h=>?_⟩
        ·by_cases e:c=k
         ·subst e;exact .inr ⟨a,h4⟩
         ·exact .inl ⟨a,c,by omega,h4⟩
        ·rcases h with ⟨a,c,h3,h4⟩ | ⟨a,h4⟩
         ·exact ⟨a,c,by omega,h4⟩
         ·exact ⟨a,k,by omega,h4⟩
       rw [e]
       simpa using this
   ·obtain ⟨_,c,h1,h2⟩:=hx
    exact ⟨c,h1,by unfold rot;rw [tn_div];exact h2⟩
   ·obtain ⟨h0,c,h1,h2⟩:=hx
    have:=part_con hd (c:=c) (g:=x) (by omega) ⟨h0,h2⟩ (Con.refl.right)
    exact ⟨this.1,c,h1,this.2⟩
  have:=(key d.n (Nat.le_refl _)).1
  have e:(fun h=>h<4 * d.n∧∃c,c<d.n∧Comp d c (h / 4))=dart d:=by
   funext x
   exact propext ⟨fun h=>h.1,fun h=>⟨h,x / 4,by unfold dart at h;omega,.refl⟩⟩
  rw [e] at this
  exact this
 ·intro hf c hc
  have hp:=part_gen hd hc
  -- the others
  have hr:Hm (4 * d.n) (fun h=>h<4 * d.n∧¬Comp d c (h / 4)) rot d.m:=by
   refine ⟨⟨fun _ h=>h.1,fun x hx=>⟨tn_lt hx.1,by unfold rot;rw [tn_div];exact hx.2⟩,fun _ _ _ _ e=>tn_inj e⟩,⟨fun _ h=>h.1,fun x hx=>⟨hd.lt x hx.1,fun e=>hx.2 ?_⟩,fun x y hx hy e=>hd.bij.inj x y hx.1 hy.1 e⟩,fun x hx=>hd.inv x hx.1⟩
   have:=part_con hd (c:=c) (g:=d.m x) hc ⟨hd.lt x hx.1,e⟩ (Con.refl.right)
   rw [hd.inv x hx.1] at this
   exact this.2
  obtain ⟨z,hz⟩:=hr.gen
  have hs:=Gen.add (part_hm hd hc) hr (fun x h1 h2=>h2.2 h1.2) hp hz
  have e:(fun x=>part d c x∨(x<4 * d.n∧¬Comp d c (x / 4)))=dart d:=by
   funext x
   refine propext ⟨fun h=>by rcases h with h | h <;> exact h.1,fun h=>?_⟩
   by_cases e:Comp d c (x / 4)
   ·exact .inl ⟨h,e⟩
   ·exact .inr ⟨h,e⟩
  rw [e] at hs
  have h1:=hf.unique hs
  have h2:=Gen.nonneg (part_hm hd hc) hp
  have h3:=Gen.nonneg hr hz
  omega
theorem Valid.iff:Valid d↔Wf d∧Flat (dart d) rot d.m :=
 ⟨fun h=>⟨h.wf,(flat_iff h.wf).1 h.flat⟩,fun h=>⟨h.1,(flat_iff h.1).2 h.2⟩⟩
end Go.Proofs.YtdgliimmnnhhjaaGreatDoor.Pl
end
section
namespace Go.Proofs.YtdgliimmnnhhjaaGreatDoor.Pl
def pv (ps:List Int)(a:Nat):Int:=ps.getD a 0
theorem pv_set {ps:List Int}{i:Nat}(hi:i<ps.length)(v:Int)(a:Nat):pv (ps.set i v) a=if a=i then v else pv ps a:=by
 unfold pv
 rw [List.getD_eq_getElem?_getD,List.getD_eq_getElem?_getD,List.getElem?_set]
 by_cases h:i=a
 ·subst h;simp [hi]
 ·rw [if_neg h,if_neg (fun e=>h e.symm)]
def unl (ps:List Int):Nat:=ps.countP (fun z=>decide (z<0))
theorem unl_set {ps:List Int}{i:Nat}(hi:i<ps.length)(hn:pv ps i<0){v:Int}(hv:0≤v):unl (ps.set i v)+1=unl ps:=by
 have e:pv ps i=ps[i]:=by unfold pv;rw [List.getD_eq_getElem?_getD,List.getElem?_eq_getElem hi];rfl
 have hp:0<unl ps:=by
  unfold unl
  rw [List.countP_pos_iff]
  exact ⟨ps[i],List.getElem_mem hi,by rw [←e];simpa using hn⟩
 unfold unl at hp ⊢
 rw [List.countP_set hi]
 have h1:decide (ps[i]<0)=true:=by rw [←e];simpa using hn
 have h2:decide (v<0)=false:=by simpa using hv
 rw [h1,h2]
 simp only [if_true,Bool.false_eq_true,if_false]
 omega
theorem fill_set {k n:Nat}(h:k<n):(List.replicate k (-1:Int)++List.replicate (n - k) 0).set k (-1)=List.replicate (k+1) (-1)++List.replicate (n - (k+1)) 0:=by
 refine List.ext_getElem (by simp;omega) (fun i h1 h2=>?_)
 simp only [List.getElem_set,List.getElem_append,List.getElem_replicate,List.length_replicate]
 split <;> split <;> (try split) <;> omega
variable {d:Dg}
def nb (d:Dg)(a t:Nat):Nat:=d.m (4 * a+t) / 4
theorem nb_lt (hd:Wf d){a t:Nat}(ha:a<d.n)(ht:t<4):nb d a t<d.n:=by
 have:=hd.lt (4 * a+t) (by omega)
 unfold nb;omega
theorem nb_comp (hd:Wf d){a t:Nat}(ha:a<d.n)(ht:t<4):Comp d a (nb d a t):=by
 have h1:=(con_comp hd (g:=4 * a+t) (h:=d.m (4 * a+t)) (by omega) (hd.lt _ (by omega))).1 (Con.refl.right)
 rwa [show (4 * a+t) / 4=a by omega] at h1
theorem comp_closed (hd:Wf d){P:Nat→Prop}(hP:∀a,a<d.n→P a→∀t,t<4→P (nb d a t)){a b:Nat}(ha:a<d.n)(h:P a)(e:Comp d a b):P b:=by
 have:∀y,Con rot d.m (4 * a) y→y<4 * d.n∧P (y / 4):=by
  intro y e
  induction e with
  | refl=>exact ⟨by omega,by rw [show 4 * a / 4=a by omega];exact h⟩
  | left _ ih=>exact ⟨tn_lt ih.1,by unfold rot;rw [tn_div];exact ih.2⟩
  | right _ ih =>
    rename_i y _
    refine ⟨hd.lt y ih.1,?_⟩
    have:=hP (y / 4) (by omega) ih.2 (y % 4) (by omega)
    unfold nb at this
    rwa [show 4 * (y / 4)+y % 4=y by omega] at this
 have:=(this _ e).2
 rwa [show 4 * b / 4=b by omega] at this
structure LB (d:Dg) (ps:List Int) (P:Nat):Prop where
 len:ps.length=d.n
 lo:∀a,a<d.n → -1≤pv ps a∧pv ps a<P
 same:∀a b,a<d.n→Comp d a b→0≤pv ps a→pv ps b=pv ps a
 conn:∀a b,a<d.n→b<d.n→0≤pv ps a→pv ps a=pv ps b→Comp d a b
 all:∀p:Nat,p<P→∃a,a<d.n∧pv ps a=p
theorem LB.le {ps:List Int}{P:Nat}(h:LB d ps P):P≤d.n:=by
 have hw:∀p:Nat,∃a:Nat,p<P→a<d.n∧pv ps a=p:=fun p=>by
  by_cases hp:p<P
  ·obtain ⟨a,ha⟩:=h.all p hp;exact ⟨a,fun _=>ha⟩
  ·exact ⟨0,fun e=>absurd e hp⟩
 refine pigeon P d.n (fun p=>Classical.choose (hw p)) (fun p hp=>(Classical.choose_spec (hw p) hp).1) (fun p q hp hq e=>?_)
 have e1:=(Classical.choose_spec (hw p) hp).2
 have e2:=(Classical.choose_spec (hw q) hq).2
 have e':Classical.choose (hw p)=Classical.choose (hw q):=e
 rw [e',e2] at e1
 omega
theorem LB.start (d:Dg):LB d (List.replicate d.n (-1)) 0:=by
 have e:∀a,a<d.n→pv (List.replicate d.n (-1)) a = -1:=fun a ha=>by
  unfold pv;rw [List.getD_eq_getElem?_getD,List.getElem?_replicate,if_pos ha];rfl
 exact ⟨by simp,fun a ha=>by rw [e a ha];omega,fun a b ha _ h=>by rw [e a ha] at h;omega,fun a b ha _ h=>by rw [e a ha] at h;omega,fun p hp=>by omega⟩
theorem LB.none (hd:Wf d){ps:List Int}{P:Nat}(h:LB d ps P){c b:Nat}(hc:c<d.n)(hn:pv ps c<0)(e:Comp d c b):pv ps b<0:=by
 have hb:=comp_mem hd hc e
 by_cases h0:0≤pv ps b
 ·have:=h.same b c hb (comp_symm hd hc e) h0
  omega
 ·omega
structure LQ (d:Dg) (c:Nat) (p0:List Int) (P:Nat) (ps:List Int) (qs:List Nat) (u s:Nat):Prop where
 base:LB d p0 P
 hc:c<d.n
 new:pv p0 c<0
 len:ps.length=d.n
 me:pv ps c=P
 mine:∀a,a<d.n→pv ps a=P→Comp d c a
 old:∀a,a<d.n→pv ps a≠P→pv ps a=pv p0 a
 wait:∀q,q ∈ qs→q<d.n∧pv ps q=P
 brd:∀a,a<d.n→pv ps a=P→a ∈ qs∨∀t,t<4→(a=u→t<s)→0≤pv ps (nb d a t)
theorem LQ.start {c:Nat}{p0:List Int}{P:Nat}(h:LB d p0 P)(hc:c<d.n)(hn:pv p0 c<0):LQ d c p0 P (p0.set c P) [c] d.n 0:=by
 have hl:c<p0.length:=by rw [h.len];exact hc
 refine ⟨h,hc,hn,by rw [List.length_set,h.len],by rw [pv_set hl,if_pos rfl],fun a ha e=>?_,fun a ha e=>?_,fun q hq=>?_,fun a ha e=>?_⟩
 ·rw [pv_set hl] at e
  by_cases h1:a=c
  ·subst h1;exact .refl
  ·rw [if_neg h1] at e;have:=(h.lo a ha).2;omega
 ·rw [pv_set hl] at e ⊢
  by_cases h1:a=c
  ·rw [if_pos h1] at e;exact absurd rfl e
  ·rw [if_neg h1]
 ·rw [List.mem_singleton] at hq;subst hq;exact ⟨hc,by rw [pv_set hl,if_pos rfl]⟩
 ·rw [pv_set hl] at e
  by_cases h1:a=c
  ·exact .inl (by rw [h1];simp)
  ·rw [if_neg h1] at e;have:=(h.lo a ha).2;omega
theorem LQ.pop {c:Nat}{p0 ps:List Int}{P q s u:Nat}{qs:List Nat}(h:LQ d c p0 P ps (q :: qs) u s)(hu:u=d.n):LQ d c p0 P ps qs q 0:=by
 refine ⟨h.base,h.hc,h.new,h.len,h.me,h.mine,h.old,fun x hx=>h.wait x (by simp [hx]),fun a ha e=>?_⟩
 rcases h.brd a ha e with h1 | h1
 ·by_cases h2:a=q
  ·exact .inr fun t _ h3=>absurd (h3 h2) (by omega)
  ·exact .inl (by simpa [h2] using h1)
 ·exact .inr fun t ht _=>h1 t ht (fun e=>absurd e (by omega))
theorem LQ.ge {c:Nat}{p0 ps:List Int}{P s u:Nat}{qs:List Nat}(h:LQ d c p0 P ps qs u s){a:Nat}(ha:a<d.n):-1≤pv ps a∧pv ps a<(P+1:Nat):=by
 by_cases e:pv ps a=P
 ·omega
 ·rw [h.old a ha e];have:=h.base.lo a ha;omega
theorem LQ.skip {c:Nat}{p0 ps:List Int}{P s u:Nat}{qs:List Nat}(h:LQ d c p0 P ps qs u s)(hn:0≤pv ps (nb d u s)):LQ d c p0 P ps qs u (s+1):=by
 refine ⟨h.base,h.hc,h.new,h.len,h.me,h.mine,h.old,h.wait,fun a ha e=>?_⟩
 rcases h.brd a ha e with h1 | h1
 ·exact .inl h1
 ·refine .inr fun t ht h2=>?_
  by_cases h3:a=u∧t=s
  ·obtain ⟨rfl,rfl⟩:=h3;exact hn
  ·exact h1 t ht (fun e => by
    have:=h2 e
    have:t≠s:=fun e2=>h3 ⟨e,e2⟩
    omega)
theorem LQ.push (hd:Wf d){c:Nat}{p0 ps:List Int}{P s u:Nat}{qs:List Nat}(h:LQ d c p0 P ps qs u s)(hu:u<d.n)(hup:pv ps u=P)(hs:s<4)(_:pv ps (nb d u s)<0) :
 LQ d c p0 P (ps.set (nb d u s) P) (qs++[nb d u s]) u (s+1):=by
 have hb:=nb_lt hd hu hs
 have hl:nb d u s<ps.length:=by rw [h.len];exact hb
 have hcb:Comp d c (nb d u s):=(h.mine u hu hup).trans (nb_comp hd hu hs)
 refine ⟨h.base,h.hc,h.new,by rw [List.length_set,h.len],?_,fun a ha e=>?_,fun a ha e=>?_,fun q hq=>?_,fun a ha e=>?_⟩
 ·rw [pv_set hl];split
  ·rfl
  ·exact h.me
 ·rw [pv_set hl] at e
  by_cases h1:a=nb d u s
  ·rw [h1];exact hcb
  ·rw [if_neg h1] at e;exact h.mine a ha e
 ·rw [pv_set hl] at e ⊢
  by_cases h1:a=nb d u s
  ·rw [if_pos h1] at e;exact absurd rfl e
  ·rw [if_neg h1] at e ⊢;exact h.old a ha e
 ·rw [List.mem_append,List.mem_singleton] at hq
  rw [pv_set hl]
  rcases hq with hq | hq
  ·exact ⟨(h.wait q hq).1,by split;rfl;exact (h.wait q hq).2⟩
  ·subst hq;exact ⟨hb,by rw [if_pos rfl]⟩
 ·by_cases h1:a=nb d u s
  ·exact .inl (by rw [h1];simp)
  ·rw [pv_set hl,if_neg h1] at e
   rcases h.brd a ha e with h2 | h2
   ·exact .inl (by simp [h2])
   ·refine .inr fun t ht h3=>?_
    rw [pv_set hl]
    split
    ·omega
    ·rename_i h4
     refine h2 t ht (fun e=>?_)
     have:=h3 e
     have:t≠s:=fun e2=>h4 (by rw [e,e2])
     omega
theorem LQ.rest {c:Nat}{p0 ps:List Int}{P u:Nat}{qs:List Nat}(h:LQ d c p0 P ps qs u 4):LQ d c p0 P ps qs d.n 0 :=
 ⟨h.base,h.hc,h.new,h.len,h.me,h.mine,h.old,h.wait,fun a ha e=>(h.brd a ha e).imp id fun h1 t ht _=>h1 t ht (fun _=>ht)⟩
theorem LQ.done (hd:Wf d){c:Nat}{p0 ps:List Int}{P s:Nat}(h:LQ d c p0 P ps [] d.n s):LB d ps (P+1)∧(∀a,a<d.n→0≤pv p0 a→0≤pv ps a)∧0≤pv ps c:=by
 have full:∀b,Comp d c b→pv ps b=P:=by
  intro b e
  have:b<d.n∧pv ps b=P:=by
   refine comp_closed hd (P:=fun a=>a<d.n∧pv ps a=P) (fun a ha ⟨_,h2⟩ t ht=>?_) h.hc ⟨h.hc,h.me⟩ e
   refine ⟨nb_lt hd ha ht,?_⟩
   rcases h.brd a ha h2 with h3 | h3
   ·cases h3
   ·have h4:=h3 t ht (fun e=>absurd e (by omega))
    by_cases h5:pv ps (nb d a t)=P
    ·exact h5
    ·have h6:=h.old _ (nb_lt hd ha ht) h5
     have:=h.base.none hd h.hc h.new ((h.mine a ha h2).trans (nb_comp hd ha ht))
     omega
  exact this.2
 have cls:∀a,a<d.n→(pv ps a=P↔Comp d c a):=fun a ha=>⟨h.mine a ha,full a⟩
 refine ⟨⟨h.len,fun a ha=>h.ge ha,fun a b ha e h0=>?_,fun a b ha hb h0 e=>?_,fun p hp=>?_⟩,fun a ha h0=>?_,by rw [h.me];omega⟩
 ·have hb:=comp_mem hd ha e
  by_cases h1:pv ps a=P
  ·rw [h1];exact full b ((h.mine a ha h1).trans e)
  ·have h2:pv ps b≠P:=fun h3=>h1 ((cls a ha).2 ((h.mine b hb h3).trans (comp_symm hd ha e)))
   rw [h.old a ha h1,h.old b hb h2]
   rw [h.old a ha h1] at h0
   exact h.base.same a b ha e h0
 ·by_cases h1:pv ps a=P
  ·rw [h1] at e
   exact (comp_symm hd h.hc (h.mine a ha h1)).trans (h.mine b hb e.symm)
  ·have h2:pv ps b≠P:=fun h3=>h1 (by rw [e,h3])
   rw [h.old a ha h1,h.old b hb h2] at e
   rw [h.old a ha h1] at h0
   exact h.base.conn a b ha hb h0 e
 ·by_cases h1:p=P
  ·exact ⟨c,h.hc,by rw [h.me,h1]⟩
  ·obtain ⟨a,ha,e⟩:=h.base.all p (by omega)
   refine ⟨a,ha,?_⟩
   by_cases h2:pv ps a=P
   ·have:=h.base.none hd h.hc h.new (h.mine a ha h2)
    omega
   ·rw [h.old a ha h2,e]
 ·by_cases h1:pv ps a=P
  ·rw [h1];omega
  ·rw [h.old a ha h1];exact h0
end Go.Proofs.YtdgliimmnnhhjaaGreatDoor.Pl
end
section
namespace Go.Proofs.YtdgliimmnnhhjaaGreatDoor.Pl
variable {d:Dg}
def addN (o:List Nat)(b:Nat):List Nat:=if b ∈ o then o else o++[b]
def addS (d:Dg)(o:List Nat)(c:Nat):Nat→List Nat
 | 0=>o
 | s+1=>addN (addS d o c s) (nb d c s)
def ordK (d:Dg)(r:Nat):Nat→List Nat
 | 0=>[r]
 | k + 1 => match (ordK d r k)[k]? with
   | some c=>addS d (ordK d r k) c 4
   | none=>ordK d r k
def ord (d:Dg)(r:Nat):List Nat:=ordK d r d.n
theorem addN_pre (o:List Nat)(b:Nat):o <+: addN o b:=by
 unfold addN;split
 ·exact List.prefix_refl _
 ·exact List.prefix_append _ _
theorem addN_mem (o:List Nat)(b:Nat):b ∈ addN o b:=by
 unfold addN;split
 ·assumption
 ·simp
theorem mem_addN {o:List Nat}{b x:Nat}(h:x ∈ addN o b):x ∈ o∨x=b:=by
 unfold addN at h;split at h
 ·exact .inl h
 ·simpa using h
theorem addN_nodup {o:List Nat}(h:o.Nodup)(b:Nat):(addN o b).Nodup:=by
 unfold addN;split
 ·exact h
 ·rename_i hb
  rw [List.nodup_append]
  exact ⟨h,by simp,fun x hx y hy=>by simp at hy;subst hy;exact fun e=>hb (e ▸ hx)⟩
theorem addS_pre (o:List Nat)(c:Nat):∀s,o <+: addS d o c s
 | 0=>List.prefix_refl _
 | s+1=>(addS_pre o c s).trans (addN_pre _ _)
theorem addS_mono (o:List Nat)(c:Nat)(s:Nat):∀k,addS d o c s <+: addS d o c (s+k)
 | 0=>List.prefix_refl _
 | k+1=>(addS_mono o c s k).trans (addN_pre _ _)
theorem addS_mem (o:List Nat)(c:Nat){t s:Nat}(h:t<s):nb d c t ∈ addS d o c s:=by
 obtain ⟨k,rfl⟩:∃k,s=t+1+k:=⟨s - (t+1),by omega⟩
 exact (addS_mono o c (t+1) k).subset (addN_mem _ _)
theorem mem_addS {o:List Nat}{c x:Nat}:∀{s:Nat},x ∈ addS d o c s→x ∈ o∨∃t,t<s∧x=nb d c t
 | 0,h => .inl h
 | s + 1, h => by
   rcases mem_addN h with h | h
   ·rcases mem_addS h with h | ⟨t,h1,h2⟩
    ·exact .inl h
    ·exact .inr ⟨t,by omega,h2⟩
   ·exact .inr ⟨s,by omega,h⟩
theorem addS_nodup {o:List Nat}(h:o.Nodup)(c:Nat):∀s,(addS d o c s).Nodup
 | 0=>h
 | s+1=>addN_nodup (addS_nodup h c s) _
theorem ordK_pre (r k:Nat):ordK d r k <+: ordK d r (k+1):=by
 conv=>rhs;rw [ordK]
 split
 ·exact addS_pre _ _ _
 ·exact List.prefix_refl _
theorem ordK_mono (r k:Nat):∀j,ordK d r k <+: ordK d r (k+j)
 | 0=>List.prefix_refl _
 | j+1=>(ordK_mono r k j).trans (ordK_pre r (k+j))
theorem ordK_some {r k c:Nat}(h:(ordK d r k)[k]? = some c):ordK d r (k+1)=addS d (ordK d r k) c 4:=by
 rw [ordK,h]
theorem ordK_none {r k:Nat}(h:(ordK d r k).length≤k):ordK d r (k+1)=ordK d r k:=by
 rw [ordK,List.getElem?_eq_none h]
theorem ordK_stop {r k:Nat}(h:(ordK d r k).length≤k):∀j,ordK d r (k+j)=ordK d r k
 | 0=>rfl
 | j + 1 => by
   have ih:=ordK_stop h j
   rw [show k+(j+1)=k+j+1 by omega,ordK_none (by rw [ih];omega),ih]
structure OK (d:Dg) (r k:Nat) (o:List Nat):Prop where
 nd:o.Nodup
 mem:∀c,c ∈ o→c<d.n∧Comp d r c
 root:r ∈ o
 done:∀i c,i<k→o[i]? = some c→∀t,t<4→nb d c t ∈ o
theorem OK.start {r:Nat}(hr:r<d.n):OK d r 0 [r] :=
 ⟨by simp,fun c hc=>by simp at hc;subst hc;exact ⟨hr,.refl⟩,by simp,fun i c h=>absurd h (by omega)⟩
theorem OK.step (hd:Wf d){r k c:Nat}{o:List Nat}(h:OK d r k o)(hc:o[k]? = some c):OK d r (k+1) (addS d o c 4):=by
 have hcm:=h.mem c (List.mem_of_getElem? hc)
 have hpre:=addS_pre (d:=d) o c 4
 refine ⟨addS_nodup h.nd c 4,fun x hx=>?_,hpre.subset h.root,fun i x hi hx t ht=>?_⟩
 ·rcases mem_addS hx with hx | ⟨t,ht,rfl⟩
  ·exact h.mem x hx
  ·exact ⟨nb_lt hd hcm.1 ht,hcm.2.trans (nb_comp hd hcm.1 ht)⟩
 ·have hik : i < o.length := by
   have:k<o.length:=by
    rcases Nat.lt_or_ge k o.length with h1 | h1
    ·exact h1
    ·rw [List.getElem?_eq_none h1] at hc;cases hc
   omega
  obtain ⟨l,hl⟩:=hpre
  rw [←hl,List.getElem?_append_left hik] at hx
  by_cases e:i=k
  ·subst e
   rw [hx] at hc
   injection hc with hc
   subst hc
   exact addS_mem _ _ ht
  ·rw [←hl];exact List.mem_append_left _ (h.done i x (by omega) hx t ht)
theorem ordK_ok (hd:Wf d){r:Nat}(hr:r<d.n):∀k,OK d r k (ordK d r k)
 | 0=>OK.start hr
 | k + 1 => by
   have ih:=ordK_ok hd hr k
   cases hc:(ordK d r k)[k]? with
   | some c=>rw [ordK_some hc];exact ih.step hd hc
   | none =>
     have hl:(ordK d r k).length≤k:=by
      rcases Nat.lt_or_ge k (ordK d r k).length with h1 | h1
      ·rw [List.getElem?_eq_getElem h1] at hc;cases hc
      ·exact h1
     rw [ordK_none hl]
     refine ⟨ih.nd,ih.mem,ih.root,fun i c hi hx t ht=>ih.done i c ?_ hx t ht⟩
     have:i<(ordK d r k).length:=by
      rcases Nat.lt_or_ge i (ordK d r k).length with h1 | h1
      ·exact h1
      ·rw [List.getElem?_eq_none h1] at hx;cases hx
     omega
theorem nodup_len {o:List Nat}{n:Nat}(h:o.Nodup)(hl:∀c,c ∈ o→c<n):o.length≤n:=by
 refine pigeon o.length n (fun i=>o.getD i 0) (fun i hi=>?_) (fun i j hi hj e=>?_)
 ·rw [List.getD_eq_getElem?_getD,List.getElem?_eq_getElem hi]
  exact hl _ (List.getElem_mem hi)
 ·simp only [List.getD_eq_getElem?_getD,List.getElem?_eq_getElem hi,List.getElem?_eq_getElem hj,Option.getD_some] at e
  exact (List.getElem_inj h).1 e
theorem OK.len {r k:Nat}{o:List Nat}(h:OK d r k o):o.length≤d.n:=nodup_len h.nd (fun c hc=>(h.mem c hc).1)
theorem ord_ok (hd:Wf d){r:Nat}(hr:r<d.n):OK d r (ord d r).length (ord d r):=by
 have h:=ordK_ok hd hr d.n
 exact ⟨h.nd,h.mem,h.root,fun i c hi hx=>h.done i c (by have:=h.len;unfold ord at hi;omega) hx⟩
theorem ord_mem (hd:Wf d){r:Nat}(hr:r<d.n)(c:Nat):c ∈ ord d r↔Comp d r c:=by
 have h:=ord_ok hd hr
 refine ⟨fun hc=>(h.mem c hc).2,fun e=>?_⟩
 refine comp_closed hd (P:=fun c=>c ∈ ord d r) (fun a ha hm t ht=>?_) hr h.root e
 obtain ⟨i,hi,rfl⟩:=List.getElem_of_mem hm
 exact h.done i _ hi (List.getElem?_eq_getElem hi) t ht
theorem ord_len (hd:Wf d){r:Nat}(hr:r<d.n):(ord d r).length≤d.n:=(ord_ok hd hr).len
theorem ord_eq {r k:Nat}(hk:k≤d.n)(h:(ordK d r k).length≤k):ordK d r k=ord d r:=by
 have:=ordK_stop h (d.n - k)
 rw [show k+(d.n - k)=d.n by omega] at this
 exact this.symm
theorem ordK_ord (r:Nat){k:Nat}(hk:k≤d.n):ordK d r k <+: ord d r:=by
 have:=ordK_mono (d:=d) r k (d.n - k)
 rwa [show k+(d.n - k)=d.n by omega] at this
theorem idx_pre {o o':List Nat}(h:o <+: o'){b:Nat}(hb:b ∈ o):o'.idxOf b=o.idxOf b:=by
 obtain ⟨l,rfl⟩:=h
 rw [List.idxOf_append,if_pos hb]
def chk (d:Dg)(o:List Nat)(c:Nat):List Int :=
 [d.s c,((4 * o.idxOf (nb d c 0)+d.m (4 * c) % 4:Nat):Int),((4 * o.idxOf (nb d c 1)+d.m (4 * c+1) % 4:Nat):Int),((4 * o.idxOf (nb d c 2)+d.m (4 * c+2) % 4:Nat):Int),((4 * o.idxOf (nb d c 3)+d.m (4 * c+3) % 4:Nat):Int)]
theorem chk_len (o:List Nat)(c:Nat):(chk d o c).length=5:=rfl
def code (d:Dg)(r:Nat):List Int:=(ord d r).flatMap (chk d (ord d r))
theorem flat5 (o l:List Nat):(l.flatMap (chk d o)).length=5 * l.length:=by
 induction l with
 | nil=>rfl
 | cons c l ih=>rw [List.flatMap_cons,List.length_append,ih,chk_len,List.length_cons];omega
theorem code_len (r:Nat):(code d r).length=5 * (ord d r).length:=flat5 _ _
theorem flat5_eq {a b:Dg}{o o':List Nat}:∀{l l':List Nat},l.flatMap (chk a o)=l'.flatMap (chk b o')→l.length=l'.length∧∀(i:Nat) (c c':Nat),l[i]? = some c→l'[i]? = some c'→chk a o c=chk b o' c'
 | [],[],_=>⟨rfl,fun i c c' h=>by simp at h⟩
 | [], c :: l, h => by
   have:=congrArg List.length h
   rw [flat5,flat5] at this;simp at this
 | c :: l, [], h => by
   have:=congrArg List.length h
   rw [flat5,flat5] at this;simp at this
 | c :: l, c' :: l', h => by
   rw [List.flatMap_cons,List.flatMap_cons] at h
   have h1:=List.append_inj h (by rw [chk_len,chk_len])
   have ih:=flat5_eq h1.2
   refine ⟨by simp [ih.1],fun i x x' hx hx'=>?_⟩
   cases i with
   | zero =>
     simp only [List.getElem?_cons_zero,Option.some.injEq] at hx hx'
     subst hx;subst hx';exact h1.1
   | succ i=>exact ih.2 i x x' (by simpa using hx) (by simpa using hx')
end Go.Proofs.YtdgliimmnnhhjaaGreatDoor.Pl
end
section
namespace Go.Proofs.YtdgliimmnnhhjaaGreatDoor.Pl
variable {N:Nat} {S:Nat→Prop} {r a:Nat→Nat}
theorem gen_id (h:Hm N S r a)(hid:∀x,S x→a x=x):Gen S r a 0:=by
 obtain ⟨z,hz⟩:=h.gen
 have hz':=hz
 obtain ⟨v,d,k,f,c,h1,h2,h3,h4,h5,rfl⟩:=hz
 have e1:d=k:=h2.unique (h3.congr (fun _=>Iff.rfl) (fun x y hx _=>⟨fun e=>(free_orb (hid x hx) e).symm,fun e=>e ▸ Orb.refl a x⟩))
 have hp:∀x y,S x→(Orb (phi r a) x y↔Orb r x y):=fun x y hx =>
  ⟨fun e=>orb_sub h.pb h.rb.eqv (fun z hz=>by unfold phi;rw [hid z hz];exact Orb.step r z) hx e,
   fun e=>orb_sub h.rb h.pb.eqv (fun z hz=>by have:=Orb.step (phi r a) z;unfold phi at this;rw [hid z hz] at this;exact this) hx e⟩
 have e2:f=v:=h4.unique (h1.congr (fun _=>Iff.rfl) (fun x y hx _=>(hp x y hx).symm))
 have e3:c=v:=h5.unique (h1.congr (fun _=>Iff.rfl) (fun x y hx _=>⟨fun e=>orb_con_left a e,fun e=>con_sub h h.rb.eqv (fun z _=>Orb.step r z) (fun z hz=>by rw [hid z hz];exact Orb.refl r z) hx e⟩))
 have:(2 * (c:Int) - v+d - k - f)=0:=by omega
 rw [this] at hz'
 exact hz'
theorem Orb.congr {f g:Nat→Nat}(hm:∀x,S x→S (f x))(h:∀x,S x→f x=g x){x y:Nat}(hx:S x):Orb f x y↔Orb g x y:=by
 have key:∀k,it f k x=it g k x∧S (it f k x):=by
  intro k
  induction k with
  | zero=>exact ⟨rfl,hx⟩
  | succ k ih=>exact ⟨by show f (it f k x)=g (it g k x);rw [←ih.1,h _ ih.2],hm _ ih.2⟩
 constructor
 ·rintro ⟨k,rfl⟩;exact ⟨k,(key k).1.symm⟩
 ·rintro ⟨k,rfl⟩;exact ⟨k,(key k).1⟩
theorem Con.congr {f g f' g':Nat→Nat}(h1:∀x,S x→S (f x))(h2:∀x,S x→S (g x))(e1:∀x,S x→f x=f' x)(e2:∀x,S x→g x=g' x){x y:Nat}(hx:S x):Con f g x y↔Con f' g' x y:=by
 constructor
 ·intro h
  have:Con f' g' x y∧S y:=by
   induction h with
   | refl=>exact ⟨.refl,hx⟩
   | left _ ih=>exact ⟨by rw [e1 _ ih.2];exact ih.1.left,h1 _ ih.2⟩
   | right _ ih=>exact ⟨by rw [e2 _ ih.2];exact ih.1.right,h2 _ ih.2⟩
  exact this.1
 ·intro h
  have:Con f g x y∧S y:=by
   induction h with
   | refl=>exact ⟨.refl,hx⟩
   | left _ ih=>exact ⟨by rw [←e1 _ ih.2];exact ih.1.left,by rw [←e1 _ ih.2];exact h1 _ ih.2⟩
   | right _ ih=>exact ⟨by rw [←e2 _ ih.2];exact ih.1.right,by rw [←e2 _ ih.2];exact h2 _ ih.2⟩
  exact this.1
theorem Gen.congr {r' a':Nat→Nat}{z:Int}(h:Hm N S r a)(e1:∀x,S x→r x=r' x)(e2:∀x,S x→a x=a' x)(hz:Gen S r a z):Gen S r' a' z:=by
 obtain ⟨v,d,k,f,c,h1,h2,h3,h4,h5,rfl⟩:=hz
 exact ⟨v,d,k,f,c,h1.congr (fun _=>Iff.rfl) (fun _ _ hx _=>Orb.congr h.rb.maps e1 hx),h2,h3.congr (fun _=>Iff.rfl) (fun _ _ hx _=>Orb.congr h.ab.maps e2 hx),
  h4.congr (fun _=>Iff.rfl) (fun _ _ hx _=>Orb.congr h.pb.maps (fun x hx=>by unfold phi;rw [←e2 x hx,e1 _ (h.ab.maps x hx)]) hx),
  h5.congr (fun _=>Iff.rfl) (fun _ _ hx _=>Con.congr h.rb.maps h.ab.maps e1 e2 hx),rfl⟩
theorem Gen.edge (h:Hm N S r a){x y:Nat}{z:Int}(hx:S x)(hy:S y)(hne:x≠y)(fx:a x=x)(fy:a y=y)(hz:Gen S r a z) :
 ((Con r a x y→Orb (phi r a) x y)∧Gen S r (tr a x y) z)∨((Con r a x y∧¬Orb (phi r a) x y)∧Gen S r (tr a x y) (z+2)):=by
 by_cases ho:Orb (phi r a) x y
 ·exact .inl ⟨fun _=>ho,Gen.within h hx hy hne fx fy ho hz⟩
 ·by_cases hc:Con r a x y
  ·exact .inr ⟨⟨hc,ho⟩,Gen.handle h hx hy fx fy ho hc hz⟩
  ·exact .inl ⟨fun e=>absurd e hc,Gen.between h hx hy fx fy hc hz⟩
theorem Gen.detour (h:Hm N S r a){x y u v:Nat}(hx:S x)(hy:S y)(hu:S u)(hv:S v)(hxy:x≠y)(huv:u≠v)(fx:a x=x)(fy:a y=y)(fu:a u=u)(fv:a v=v)
 (n1:¬Con r a x u) (n2:¬Con r a y u) (ho:Orb (phi r a) v u) {z:Int} (hz:Gen S r (tr a x y) z):Gen S r (tr (tr a x u) v y) z:=by
 have hvu:=orb_phi_con ho
 have n3:¬Con r a v y:=fun e=>n2 ((h.con_symm hv e).trans hvu)
 have n4:¬Con r a x v:=fun e=>n1 (e.trans hvu)
 have xu:x≠u:=fun e=>n1 (e ▸ .refl)
 have xv:x≠v:=fun e=>n4 (e ▸ .refl)
 have vy:v≠y:=fun e=>n3 (e ▸ .refl)
 have yu:y≠u:=fun e=>n2 (e ▸ .refl)
 obtain ⟨z0,hz0⟩:=h.gen
 have h1:=h.tr hx hu fx fu
 have g1:=Gen.between h hx hu fx fu n1 hz0
 have fv1:tr a x u v=v:=by rw [tr_ne (Ne.symm xv) (Ne.symm huv),fv]
 have fy1:tr a x u y=y:=by rw [tr_ne (Ne.symm hxy) yu,fy]
 have nf:¬Orb (phi r a) x u:=fun e=>n1 (orb_phi_con e)
 -- connected,and in one face,at the same time
 have ec:Con r (tr a x u) v y↔Con r a x y:=by
  rw [h.con_tr hx hu fx fu hv]
  constructor
  ·rintro (e | ⟨e1,_⟩ | ⟨_,e2⟩)
   ·exact absurd e n3
   ·exact absurd (h.con_symm hv e1) n4
   ·exact e2
  ·intro e;exact .inr (.inr ⟨hvu,e⟩)
 have eo:Orb (phi r (tr a x u)) v y↔Orb (phi r a) x y:=by
  rw [phi_tr,h.pb.merge hx hu nf hv]
  constructor
  ·rintro (e | ⟨e1,_⟩ | ⟨_,e2⟩)
   ·exact absurd (orb_phi_con e) n3
   ·exact absurd (h.con_symm hv (orb_phi_con e1)) n4
   ·exact e2
  ·intro e;exact .inr (.inr ⟨ho,e⟩)
 rcases Gen.edge h hx hy hxy fx fy hz0 with ⟨c1,k1⟩ | ⟨c1,k1⟩ <;> rcases Gen.edge h1 hv hy vy fv1 fy1 g1 with ⟨c2,k2⟩ | ⟨c2,k2⟩
 ·rw [hz.unique k1];exact k2
 ·rw [ec,eo] at c2;exact absurd (c1 c2.1) c2.2
 ·rw [ec,eo] at c2;exact absurd (c2 c1.1) c1.2
 ·rw [hz.unique k1];exact k2
theorem Flat.push (h:Hm N S r a){y y' c d p:Nat}(hy:S y)(hy':S y')(hc:S c)(hd:S d)(yy:y≠y')(yc:y≠c)(yd:y≠d)(cd:c≠d)(y'c:y'≠c)(y'd:y'≠d)
 (fy:a y=y) (fy':a y'=y') (fc:a c=c) (fd:a d=d) (e1:phi r a d=p) (e2:phi r a p=c) (py:p≠y) (pc:p≠c)
 (hn:Orb (phi r (tr a y y')) c y∨¬Con r (tr a y y') c y) (hf:Flat S r (tr a y y')):Flat S r (tr (tr a y c) d y'):=by
 have h1:=h.tr hy hc fy fc
 have h2:=h.tr hy hy' fy fy'
 have fd1:tr a y c d=d:=by rw [tr_ne (Ne.symm yd) (Ne.symm cd),fd]
 have fy1:tr a y c y'=y':=by rw [tr_ne (Ne.symm yy) y'c,fy']
 obtain ⟨f0,k0⟩:=Flat.del h hy hy' yy fy fy' hf
 have odc:Orb (phi r a) d c:=⟨2,by show phi r a (phi r a d)=c;rw [e1,e2]⟩
 have cdc:=orb_phi_con odc
 have odc':Orb (phi r (tr a y c)) d c:=by
  refine ⟨2,?_⟩
  show phi r (tr a y c) (phi r (tr a y c) d)=c
  rw [phi_tr,tr_ne (Ne.symm yd) (Ne.symm cd),e1,tr_ne py pc,e2]
 -- what a holds,the map with (y y') holds
 have up:∀{u v},S u→Con r a u v→Con r (tr a y y') u v:=fun hu e=>(h.con_tr hy hy' fy fy' hu).2 (.inl e)
 have eyy:Con r (tr a y y') y y':=(h.con_tr hy hy' fy fy' hy).2 (.inr (.inl ⟨.refl,.refl⟩))
 by_cases hcy:Con r (tr a y y') c y
 ·have hocy:=hn.resolve_right (fun e=>e hcy)
  by_cases hyy:Con r a y y'
  ·-- (i): one orbit of a,parted by (y y')
   have oyy:=k0 hyy
   have hno:¬Orb (phi r (tr a y y')) y y':=by rw [phi_tr];exact h.pb.part hy hy' yy oyy
   have ocy:Orb (phi r a) c y:=by
    have hg:=h.pb.tr hy hy'
    have:=(hg.merge hy hy' (h.pb.part hy hy' yy oyy) hc (y:=y)).2 (.inl (by rw [←phi_tr];exact hocy))
    rwa [tr_tr] at this
   have f1:Flat S r (tr a y c):=Flat.add h hy hc yc fy fc (fun _=>h.pb.symm hc ocy) f0
   refine Flat.add h1 hd hy' (Ne.symm y'd) fd1 fy1 (fun _=>odc'.trans ?_) f1
   -- c and y' in one orbit behind (y c): by the three values
   have key:phi r (tr a y c)=tr (tr (phi r (tr a y y')) y c) c y':=by
    rw [phi_tr,phi_tr]
    funext x
    by_cases x1:x=y
    ·subst x1
     rw [tr_a,tr_ne yc yy,tr_a,tr_ne (Ne.symm yc) (Ne.symm y'c)]
    ·by_cases x2:x=c
     ·subst x2
      rw [tr_b,tr_a,tr_ne (Ne.symm yy) y'c,tr_b]
     ·by_cases x3:x=y'
      ·subst x3
       rw [tr_ne x1 x2,tr_b,tr_b,tr_a]
      ·rw [tr_ne x1 x2,tr_ne x2 x3,tr_ne x1 x2,tr_ne x1 x3]
   have hg2:Bij N S (tr (phi r (tr a y y')) y c):=h2.pb.tr hy hc
   have hn2:¬Orb (tr (phi r (tr a y y')) y c) c y':=by
    intro e
    have oyc2:Orb (phi r (tr a y y')) y c:=h2.pb.symm hc hocy
    have hn3:=h2.pb.part hy hc yc oyc2
    have:=(hg2.merge hy hc hn3 hc (y:=y')).2 (.inl e)
    rw [tr_tr] at this
    exact hno (oyc2.trans this)
   rw [key]
   exact hg2.run hy' hn2 hc
  ·have nf:¬Orb (phi r a) y y':=fun e=>hyy (orb_phi_con e)
   rw [phi_tr,h.pb.merge hy hy' nf hc] at hocy
   rcases hocy with e | ⟨e3,e4⟩ | ⟨e3,_⟩
   ·-- c in y's orbit
    have f1:Flat S r (tr a y c):=Flat.add h hy hc yc fy fc (fun _=>h.pb.symm hc e) f0
    refine Flat.add h1 hd hy' (Ne.symm y'd) fd1 fy1 (fun hx=>?_) f1
    rw [h.con_tr hy hc fy fc hd] at hx
    have ecy:=orb_phi_con e
    rcases hx with x1 | ⟨_,x2⟩ | ⟨_,x2⟩
    ·exact absurd (((h.con_symm hc ecy).trans (h.con_symm hd cdc)).trans x1) hyy
    ·exact absurd ((h.con_symm hc ecy).trans x2) hyy
    ·exact absurd x2 hyy
   ·exact absurd (h.con_symm hy' (orb_phi_con e4)) hyy
   ·-- c in the orbit of y'
    have ncy:¬Con r a y c:=fun e=>hyy (e.trans (orb_phi_con e3))
    have f1:Flat S r (tr a y c):=Flat.add h hy hc yc fy fc (fun e=>absurd e ncy) f0
    refine Flat.add h1 hd hy' (Ne.symm y'd) fd1 fy1 (fun _=>?_) f1
    rw [phi_tr,h.pb.merge hy hc (fun e=>ncy (orb_phi_con e)) hd]
    exact .inl (odc.trans e3)
 ·have ncy:¬Con r a y c:=fun e=>hcy (h2.con_symm hy (up hy e))
  have f1:Flat S r (tr a y c):=Flat.add h hy hc yc fy fc (fun e=>absurd e ncy) f0
  refine Flat.add h1 hd hy' (Ne.symm y'd) fd1 fy1 (fun hx=>?_) f1
  rw [h.con_tr hy hc fy fc hd] at hx
  rw [phi_tr,h.pb.merge hy hc (fun e=>ncy (orb_phi_con e)) hd]
  rcases hx with x1 | ⟨x1,_⟩ | ⟨_,x2⟩
  ·have:Con r (tr a y y') c y:=(up hc (h.con_symm hd cdc)).trans ((up hd x1).trans (h2.con_symm hy eyy))
   exact absurd this hcy
  ·exact absurd ((h.con_symm hd x1).trans cdc) ncy
  ·exact .inr (.inr ⟨odc,k0 x2⟩)
end Go.Proofs.YtdgliimmnnhhjaaGreatDoor.Pl
end
section
namespace Go.Proofs.YtdgliimmnnhhjaaGreatDoor.Pl
variable {N:Nat} {S:Nat→Prop} {r a:Nat→Nat}
def cj (t f:Nat→Nat)(x:Nat):Nat:=t (f (t x))
section
variable {t:Nat→Nat} {h0 h1 h2 p0 p1 p2 u0 u1 u2 v0 v1 v2:Nat}
end
end Go.Proofs.YtdgliimmnnhhjaaGreatDoor.Pl
end
section
namespace Go.Proofs.YtdgliimmnnhhjaaGreatDoor.Pl
def tau (h0 h1 h2 p0 p1 p2 u0 u1 u2 v0 v1 v2 x:Nat):Nat :=
 if x=h0 then v1 else if x=h1 then v2 else if x=h2 then v0 else if x=p0 then u2 else if x=p1 then u0 else if x=p2 then u1 else if x=u0 then p1 else if x=u1 then p2 else if x=u2 then p0 else if x=v0 then h2 else if x=v1 then h0 else if x=v2 then h1 else x
end Go.Proofs.YtdgliimmnnhhjaaGreatDoor.Pl
end
section
namespace Go.Proofs.YtdgliimmnnhhjaaGreatDoor.Pl
def ex (n:Nat)(a:Nat→Nat)(x:Nat):Nat:=if x<4 * n then a x else x
theorem ex_old {n:Nat}{a:Nat→Nat}{x:Nat}(h:x<4 * n):ex n a x=a x:=if_pos h
theorem ex_new {n:Nat}{a:Nat→Nat}{x:Nat}(h:4 * n≤x):ex n a x=x:=if_neg (by omega)
theorem rot_lt {k x:Nat}(h:x<4 * k):rot x<4 * k:=tn_lt h
theorem rot_ge {k x:Nat}(h:4 * k≤x):4 * k≤rot x:=by unfold rot tn;omega
theorem rot_at (n e:Nat)(h:e<4):rot (4 * n+e)=4 * n+(e+3) % 4:=by unfold rot tn;omega
theorem ext_hm {n M:Nat}{a:Nat→Nat}(hM:n≤M)(h:Hm (4 * n) (fun h=>h<4 * n) rot a):Hm (4 * M) (fun h=>h<4 * M) rot (ex n a):=by
 refine ⟨rot_bij M,⟨fun _ h=>h,fun x hx=>?_,fun x y hx hy e=>?_⟩,fun x hx=>?_⟩
 ·by_cases h1:x<4 * n
  ·show ex n a x<4 * M
   rw [ex_old h1];have:=h.ab.maps x h1;omega
  ·show ex n a x<4 * M
   rw [ex_new (by omega)];exact hx
 ·by_cases h1:x<4 * n <;> by_cases h2:y<4 * n
  ·rw [ex_old h1,ex_old h2] at e;exact h.ab.inj x y h1 h2 e
  ·rw [ex_old h1,ex_new (by omega)] at e;have:=h.ab.maps x h1;omega
  ·rw [ex_new (by omega),ex_old h2] at e;have:=h.ab.maps y h2;omega
  ·rw [ex_new (by omega),ex_new (by omega)] at e;exact e
 ·by_cases h1:x<4 * n
  ·rw [ex_old h1,ex_old (h.ab.maps x h1)];exact h.inv x h1
  ·rw [ex_new (x:=x) (by omega),ex_new (by omega)]
theorem ext_gen {n M:Nat}{a:Nat→Nat}{z:Int}(hM:n≤M)(h:Hm (4 * n) (fun h=>h<4 * n) rot a)(hf:Gen (fun h=>h<4 * n) rot a z):Gen (fun h=>h<4 * M) rot (ex n a) z:=by
 have h':=ext_hm hM h
 have hS:Hm (4 * M) (fun h=>h<4 * n) rot (ex n a):=⟨⟨fun x hx=>by omega,fun x hx=>rot_lt hx,fun x y _ _ e=>tn_inj e⟩,⟨fun x hx=>by omega,fun x hx=>by rw [ex_old hx];exact h.ab.maps x hx,fun x y hx hy e=>by rw [ex_old hx,ex_old hy] at e;exact h.ab.inj x y hx hy e⟩,fun x hx=>by rw [ex_old hx,ex_old (h.ab.maps x hx)];exact h.inv x hx⟩
 have hT:Hm (4 * M) (fun h=>4 * n≤h∧h<4 * M) rot (ex n a):=⟨⟨fun x hx=>hx.2,fun x hx=>⟨rot_ge hx.1,rot_lt hx.2⟩,fun x y _ _ e=>tn_inj e⟩,⟨fun x hx=>hx.2,fun x hx=>by rw [ex_new hx.1];exact hx,fun x y hx hy e=>by rw [ex_new hx.1,ex_new hy.1] at e;exact e⟩,fun x hx=>by rw [ex_new (x:=x) hx.1,ex_new hx.1]⟩
 have g1:Gen (fun h=>h<4 * n) rot (ex n a) z:=Gen.congr h (fun _ _=>rfl) (fun x hx=>(ex_old hx).symm) hf
 have g2:=gen_id hT (fun x hx=>ex_new hx.1)
 have:=Gen.add hS hT (fun x hx hx'=>by omega) g1 g2
 rw [Int.add_zero] at this
 have e:(fun x=>x<4 * n∨(4 * n≤x∧x<4 * M))=(fun h=>h<4 * M):=by funext x;exact propext ⟨fun h=>by omega,fun h=>by omega⟩
 rwa [e] at this
def Kq (n i0 o0 i1 o1:Nat):Prop :=
 (i0=4 * n+0∧o0=4 * n+2∧i1=4 * n+3∧o1=4 * n+1)∨(i0=4 * n+0∧o0=4 * n+2∧i1=4 * n+1∧o1=4 * n+3) ∨
 (i0=4 * n+3∧o0=4 * n+1∧i1=4 * n+0∧o1=4 * n+2)∨(i0=4 * n+1∧o0=4 * n+3∧i1=4 * n+0∧o1=4 * n+2)
theorem Kq.face {n i0 o0 i1 o1:Nat}(k:Kq n i0 o0 i1 o1){b:Nat→Nat}(b1:b o0=i1)(b2:b i1=o0)(b3:b o1=o1):Orb (phi rot b) o1 i0:=by
 rcases k with ⟨rfl,rfl,rfl,rfl⟩ | ⟨rfl,rfl,rfl,rfl⟩ | ⟨rfl,rfl,rfl,rfl⟩ | ⟨rfl,rfl,rfl,rfl⟩
 ·exact ⟨1,by show rot (b (4 * n+1))=_;rw [b3,rot_at n 1 (by omega)]⟩
 ·exact ⟨2,by show rot (b (rot (b (4 * n+3))))=_;rw [b3,rot_at n 3 (by omega),b1,rot_at n 1 (by omega)]⟩
 ·exact ⟨2,by show rot (b (rot (b (4 * n+2))))=_;rw [b3,rot_at n 2 (by omega),b1,rot_at n 0 (by omega)]⟩
 ·exact ⟨1,by show rot (b (4 * n+2))=_;rw [b3,rot_at n 2 (by omega)]⟩
theorem Kq.bd {n i0 o0 i1 o1:Nat}(k:Kq n i0 o0 i1 o1):(4 * n≤i0∧i0<4 * (n+1))∧(4 * n≤o0∧o0<4 * (n+1))∧(4 * n≤i1∧i1<4 * (n+1))∧(4 * n≤o1∧o1<4 * (n+1))∧i0≠o0∧i0≠i1∧i0≠o1∧o0≠i1∧o0≠o1∧i1≠o1:=by
 unfold Kq at k;omega
theorem orb_new {n x y:Nat}{b:Nat→Nat}(hx:4 * n≤x∧x<4 * (n+1))(hy:4 * n≤y∧y<4 * (n+1))(hb:∀z,4 * n≤z→z<4 * (n+1)→b z=z):Orb (phi rot b) x y:=by
 have st:∀z,4 * n≤z→z<4 * (n+1)→phi rot b z=rot z:=fun z h1 h2=>by unfold phi;rw [hb z h1 h2]
 have r1:∀z,4 * n≤z→z<4 * (n+1)→4 * n≤rot z∧rot z<4 * (n+1):=fun z h1 h2=>⟨rot_ge h1,rot_lt h2⟩
 have a1:=r1 x hx.1 hx.2
 have a2:=r1 _ a1.1 a1.2
 have key:y=x∨y=rot x∨y=rot (rot x)∨y=rot (rot (rot x)):=by unfold rot tn;omega
 rcases key with rfl | rfl | rfl | rfl
 ·exact Orb.refl _ _
 ·exact ⟨1,st x hx.1 hx.2⟩
 ·exact ⟨2,by show phi rot b (phi rot b x)=_;rw [st x hx.1 hx.2,st _ a1.1 a1.2]⟩
 ·exact ⟨3,by show phi rot b (phi rot b (phi rot b x))=_;rw [st x hx.1 hx.2,st _ a1.1 a1.2,st _ a2.1 a2.2]⟩
theorem loop_flat {n i0 o0 i1 o1:Nat}{a:Nat→Nat}(h:Hm (4 * n) (fun h=>h<4 * n) rot a)(hf:Flat (fun h=>h<4 * n) rot a)(k:Kq n i0 o0 i1 o1):Flat (fun h=>h<4 * (n+1)) rot (tr (ex n a) o0 i1):=by
 obtain ⟨a1,a2,a3,a4,n1,n2,n3,n4,n5,n6⟩:=k.bd
 exact Flat.add (ext_hm (by omega) h) a2.2 a3.2 n4 (ex_new a2.1) (ex_new a3.1) (fun _=>orb_new a2 a3 (fun z h1 _=>ex_new h1)) (ext_gen (by omega) h hf)
theorem kink_loop {n i0 o0 i1 o1:Nat}{a:Nat→Nat}(h:Hm (4 * n) (fun h=>h<4 * n) rot a)(hf:Flat (fun h=>h<4 * n) rot a)(k:Kq n i0 o0 i1 o1):Flat (fun h=>h<4 * (n+1)) rot (tr (tr (ex n a) o0 i1) o1 i0):=by
 obtain ⟨a1,a2,a3,a4,n1,n2,n3,n4,n5,n6⟩:=k.bd
 have hx:=ext_hm (Nat.le_succ n) h
 have h1:=hx.tr (x:=o0) (y:=i1) a2.2 a3.2 (ex_new a2.1) (ex_new a3.1)
 have f1:tr (ex n a) o0 i1 o1=o1:=by rw [tr_ne (Ne.symm n5) (Ne.symm n6),ex_new a4.1]
 have f2:tr (ex n a) o0 i1 i0=i0:=by rw [tr_ne n1 n2,ex_new a1.1]
 refine Flat.add h1 a4.2 a1.2 (Ne.symm n3) f1 f2 (fun _=>k.face ?_ ?_ f1) (loop_flat h hf k)
 ·rw [tr_a,ex_new a3.1]
 ·rw [tr_b,ex_new a2.1]
theorem con_old {n:Nat}{b:Nat→Nat}(hb:∀z,z<4 * n→b z<4 * n){x y:Nat}(hx:x<4 * n)(e:Con rot b x y):y<4 * n:=by
 induction e with
 | refl=>exact hx
 | left _ ih=>exact rot_lt ih
 | right _ ih=>exact hb _ ih
theorem kink_edge {n i0 o0 i1 o1 x y:Nat}{a:Nat→Nat}(h:Hm (4 * n) (fun h=>h<4 * n) rot a)(hf:Flat (fun h=>h<4 * n) rot a)(k:Kq n i0 o0 i1 o1)(hx:x<4 * n)(hy:a x=y)(hne:x≠y) :
 Flat (fun h=>h<4 * (n+1)) rot (tr (tr (tr (ex n (tr a x y)) o0 i1) x i0) o1 y):=by
 obtain ⟨a1,a2,a3,a4,n1,n2,n3,n4,n5,n6⟩:=k.bd
 subst hy
 have hyn:a x<4 * n:=h.ab.maps x hx
 obtain ⟨hc,c1,c2⟩:=Hm.cut h hx (Ne.symm hne)
 have hX:=ext_hm (Nat.le_succ n) hc
 have h1:=hX.tr (x:=o0) (y:=i1) a2.2 a3.2 (ex_new a2.1) (ex_new a3.1)
 have old:∀z,z<4 * n→tr (ex n (tr a x (a x))) o0 i1 z=tr a x (a x) z:=fun z hz=>by rw [tr_ne (by omega) (by omega),ex_old hz]
 have cl:∀z,z<4 * n→tr (ex n (tr a x (a x))) o0 i1 z<4 * n:=fun z hz=>by rw [old z hz];exact hc.ab.maps z hz
 have fu:tr (ex n (tr a x (a x))) o0 i1 i0=i0:=by rw [tr_ne n1 n2,ex_new a1.1]
 have fv:tr (ex n (tr a x (a x))) o0 i1 o1=o1:=by rw [tr_ne (Ne.symm n5) (Ne.symm n6),ex_new a4.1]
 have hx':x<4 * (n+1):=by omega
 have hy':a x<4 * (n+1):=by omega
 refine Gen.detour h1 hx' hy' a1.2 a4.2 hne n3 (by rw [old x hx,c1]) (by rw [old _ hyn,c2]) fu fv (fun e=>by have:=con_old cl hx e;omega) (fun e=>by have:=con_old cl hyn e;omega) (k.face ?_ ?_ fv) ?_
 ·rw [tr_a,ex_new a3.1]
 ·rw [tr_b,ex_new a2.1]
 ·refine Gen.congr ((ext_hm (Nat.le_succ n) h).tr (x:=o0) (y:=i1) a2.2 a3.2 (ex_new a2.1) (ex_new a3.1)) (fun _ _=>rfl) (fun z hz=>?_) (loop_flat h hf k)
  by_cases z1:z=x
  ·subst z1
   rw [tr_a,old _ hyn,c2,tr_ne (by omega) (by omega),ex_old hx]
  ·by_cases z2:z=a x
   ·subst z2
    rw [tr_b,old _ hx,c1,tr_ne (by omega) (by omega),ex_old hyn,h.inv x hx]
   ·rw [tr_ne z1 z2]
    by_cases z3:z<4 * n
    ·rw [old z z3,tr_ne z1 z2,tr_ne (by omega) (by omega),ex_old z3]
    ·by_cases z4:z=o0
     ·subst z4;rw [tr_a,tr_a,ex_new a3.1,ex_new a3.1]
     ·by_cases z5:z=i1
      ·subst z5;rw [tr_b,tr_b,ex_new a2.1,ex_new a2.1]
      ·rw [tr_ne z4 z5,tr_ne z4 z5,ex_new (by omega),ex_new (by omega)]
end Go.Proofs.YtdgliimmnnhhjaaGreatDoor.Pl
end
