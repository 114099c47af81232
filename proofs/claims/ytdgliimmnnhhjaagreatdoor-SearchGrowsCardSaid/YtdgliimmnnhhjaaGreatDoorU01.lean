/-
  The texts Kval, Iso, Sph, Cyc, Byp, Mk, Shr, Rst, Slv, Unc, Pok, Mem, Wa, Q, Row.
-/
import Derived.Test.YtdgliimmnnhhjaaGreatDoorU00
import Derived.BigQuiet
import Derived.Deep.Light
import Derived.Test.YtdgliimmnnhhjaaGreatDoorRows
import Derived.WalkLawsBesides
import Derived.WalkSpells
set_option linter.unusedVariables false
set_option linter.unusedSimpArgs false
section
namespace Go.Proofs.YtdgliimmnnhhjaaGreatDoor.Pl
theorem out_old {d d':Dg}{h:Nat}(e:d'.s (h / 4)=d.s (h / 4)):out d' h=out d h:=by unfold out;rw [e]
theorem Kq.cover {n i0 o0 i1 o1 z:Nat}(k:Kq n i0 o0 i1 o1)(h:4 * n≤z∧z<4 * (n+1)):z=i0∨z=o0∨z=i1∨z=o1:=by unfold Kq at k;omega
structure Kd (d d':Dg) (i0 o0 i1 o1:Nat):Prop where
 few:d.n+1≤64
 n:d'.n=d.n+1
 len:d'.mt.length=4 * (d.n+1)
 lp:d'.lp≤64
 old:∀c,c<d.n→d'.s c=d.s c
 new:d'.s d.n=1∨d'.s d.n = -1
 k:Kq d.n i0 o0 i1 o1
 wi0:out d' i0=false
 wi1:out d' i1=false
 wo0:out d' o0=true
 wo1:out d' o1=true
 m1:d'.m o0=i1
 m2:d'.m i1=o0
theorem Kd.out {d d':Dg}{i0 o0 i1 o1:Nat}(K:Kd d d' i0 o0 i1 o1){h:Nat}(hh:h<4 * d.n):out d' h=out d h:=out_old (K.old _ (by omega))
theorem Kd.sign {d d':Dg}(hd:Wf d){i0 o0 i1 o1:Nat}(K:Kd d d' i0 o0 i1 o1):∀c,c<d'.n→d'.s c=1∨d'.s c = -1:=fun c hc=>by
 rw [K.n] at hc
 rcases Nat.lt_or_ge c d.n with h | h
 ·rw [K.old c h];exact hd.sign c h
 ·rw [show c=d.n by omega];exact K.new
theorem wf_by {d':Dg}(few:d'.n≤64)(len:d'.mt.length=4 * d'.n)(lp:d'.lp≤64)(sign:∀c,c<d'.n→d'.s c=1∨d'.s c = -1)
 (h:∀z,z<4 * d'.n→d'.m z<4 * d'.n∧d'.m (d'.m z)=z∧Pl.out d' z≠Pl.out d' (d'.m z)):Wf d' :=
 ⟨few,len,lp,sign,fun z hz=>(h z hz).1,fun z hz e=>(h z hz).2.2 (by rw [e]),fun z hz=>(h z hz).2.1,fun z hz=>(h z hz).2.2⟩
theorem Kd.loop {d d':Dg}(hd:Valid d){i0 o0 i1 o1:Nat}(K:Kd d d' i0 o0 i1 o1)(mo:∀h,h<4 * d.n→d'.m h=d.m h)(m3:d'.m o1=i0)(m4:d'.m i0=o1):Valid d':=by
 have hv:=Valid.iff.1 hd
 obtain ⟨a1,a2,a3,a4,n1,n2,n3,n4,n5,n6⟩:=K.k.bd
 refine Valid.iff.2 ⟨wf_by (by rw [K.n];exact K.few) (by rw [K.n];exact K.len) K.lp (K.sign hv.1) (fun z hz=>?_),?_⟩
 ·rw [K.n] at hz ⊢
  rcases Nat.lt_or_ge z (4 * d.n) with h | h
  ·have:=hv.1.lt z h
   rw [mo z h,mo _ this,K.out h,K.out this]
   exact ⟨by omega,hv.1.inv z h,hv.1.way z h⟩
  ·rcases K.k.cover ⟨h,hz⟩ with rfl | rfl | rfl | rfl
   ·rw [m4,m3,K.wi0,K.wo1];exact ⟨a4.2,rfl,by decide⟩
   ·rw [K.m1,K.m2,K.wi1,K.wo0];exact ⟨a3.2,rfl,by decide⟩
   ·rw [K.m2,K.m1,K.wi1,K.wo0];exact ⟨a2.2,rfl,by decide⟩
   ·rw [m3,m4,K.wi0,K.wo1];exact ⟨a1.2,rfl,by decide⟩
 ·have hf:=kink_loop hv.1.hm hv.2 K.k
  have hx:=ext_hm (Nat.le_succ d.n) hv.1.hm
  have h1:=hx.tr (x:=o0) (y:=i1) a2.2 a3.2 (ex_new a2.1) (ex_new a3.1)
  have f1:tr (ex d.n d.m) o0 i1 o1=o1:=by rw [tr_ne (Ne.symm n5) (Ne.symm n6),ex_new a4.1]
  have f2:tr (ex d.n d.m) o0 i1 i0=i0:=by rw [tr_ne n1 n2,ex_new a1.1]
  have h2:=h1.tr (x:=o1) (y:=i0) a4.2 a1.2 f1 f2
  have e:dart d'=(fun h=>h<4 * (d.n+1)):=by funext x;unfold dart;rw [K.n]
  rw [e]
  refine Gen.congr h2 (fun _ _=>rfl) (fun z hz=>?_) hf
  rcases Nat.lt_or_ge z (4 * d.n) with h | h
  ·rw [mo z h,tr_ne (by omega) (by omega),tr_ne (by omega) (by omega),ex_old h]
  ·rcases K.k.cover ⟨h,hz⟩ with rfl | rfl | rfl | rfl
   ·rw [m4,tr_b,f1]
   ·rw [K.m1,tr_ne n5 (Ne.symm n1),tr_a,ex_new a3.1]
   ·rw [K.m2,tr_ne n6 (Ne.symm n2),tr_b,ex_new a2.1]
   ·rw [m3,tr_a,f2]
theorem Kd.edge {d d':Dg}(hd:Valid d){i0 o0 i1 o1 x:Nat}(K:Kd d d' i0 o0 i1 o1)(hx:x<4 * d.n)(ho:Pl.out d x=true)(mo:∀h,h<4 * d.n→h≠x→h≠d.m x→d'.m h=d.m h)
 (m3:d'.m o1=d.m x) (m4:d'.m (d.m x)=o1) (m5:d'.m x=i0) (m6:d'.m i0=x):Valid d':=by
 have hv:=Valid.iff.1 hd
 have hyn:=hv.1.lt x hx
 have hne:=hv.1.ne x hx
 have hinv:=hv.1.inv x hx
 have hoy:Pl.out d (d.m x)=false:=by have:=hv.1.way x hx;rw [ho] at this;cases h:Pl.out d (d.m x) with
  | true=>rw [h] at this;exact absurd rfl this
  | false=>rfl
 obtain ⟨a1,a2,a3,a4,n1,n2,n3,n4,n5,n6⟩:=K.k.bd
 refine Valid.iff.2 ⟨wf_by (by rw [K.n];exact K.few) (by rw [K.n];exact K.len) K.lp (K.sign hv.1) (fun z hz=>?_),?_⟩
 ·rw [K.n] at hz ⊢
  rcases Nat.lt_or_ge z (4 * d.n) with h | h
  ·by_cases z1:z=x
   ·subst z1
    rw [m5,m6,K.out h,K.wi0,ho]
    exact ⟨a1.2,rfl,by decide⟩
   ·by_cases z2:z=d.m x
    ·subst z2
     rw [m4,m3,K.out h,K.wo1,hoy]
     exact ⟨a4.2,rfl,by decide⟩
    ·have hm:=hv.1.lt z h
     have q1:d.m z≠x:=fun e=>z2 (by rw [←e,hv.1.inv z h])
     have q2:d.m z≠d.m x:=fun e=>z1 (by rw [←hv.1.inv z h,e,hinv])
     rw [mo z h z1 z2,mo _ hm q1 q2,K.out h,K.out hm]
     exact ⟨by omega,hv.1.inv z h,hv.1.way z h⟩
  ·rcases K.k.cover ⟨h,hz⟩ with rfl | rfl | rfl | rfl
   ·rw [m6,m5,K.wi0,K.out hx,ho];exact ⟨by omega,rfl,by decide⟩
   ·rw [K.m1,K.m2,K.wi1,K.wo0];exact ⟨a3.2,rfl,by decide⟩
   ·rw [K.m2,K.m1,K.wi1,K.wo0];exact ⟨a2.2,rfl,by decide⟩
   ·rw [m3,m4,K.wo1,K.out hyn,hoy];exact ⟨by omega,rfl,by decide⟩
 ·have hf:=kink_edge hv.1.hm hv.2 K.k hx rfl (Ne.symm hne)
  obtain ⟨hc,c1,c2⟩:=Hm.cut hv.1.hm hx hne
  have hX:=ext_hm (Nat.le_succ d.n) hc
  have h1:=hX.tr (x:=o0) (y:=i1) a2.2 a3.2 (ex_new a2.1) (ex_new a3.1)
  have old:∀z,z<4 * d.n→tr (ex d.n (tr d.m x (d.m x))) o0 i1 z=tr d.m x (d.m x) z:=fun z hz=>by rw [tr_ne (by omega) (by omega),ex_old hz]
  have fu:tr (ex d.n (tr d.m x (d.m x))) o0 i1 i0=i0:=by rw [tr_ne n1 n2,ex_new a1.1]
  have fv:tr (ex d.n (tr d.m x (d.m x))) o0 i1 o1=o1:=by rw [tr_ne (Ne.symm n5) (Ne.symm n6),ex_new a4.1]
  have fx:tr (ex d.n (tr d.m x (d.m x))) o0 i1 x=x:=by rw [old x hx,c1]
  have fy:tr (ex d.n (tr d.m x (d.m x))) o0 i1 (d.m x)=d.m x:=by rw [old _ hyn,c2]
  have hx':x<4 * (d.n+1):=by omega
  have hy':d.m x<4 * (d.n+1):=by omega
  have h2:=h1.tr (x:=x) (y:=i0) hx' a1.2 fx fu
  have g1:tr (tr (ex d.n (tr d.m x (d.m x))) o0 i1) x i0 o1=o1:=by rw [tr_ne (by omega) (Ne.symm n3),fv]
  have g2:tr (tr (ex d.n (tr d.m x (d.m x))) o0 i1) x i0 (d.m x)=d.m x:=by rw [tr_ne hne (by omega),fy]
  have h3:=h2.tr (x:=o1) (y:=d.m x) a4.2 hy' g1 g2
  have e:dart d'=(fun h=>h<4 * (d.n+1)):=by funext x;unfold dart;rw [K.n]
  rw [e]
  refine Gen.congr h3 (fun _ _=>rfl) (fun z hz=>?_) hf
  rcases Nat.lt_or_ge z (4 * d.n) with h | h
  ·by_cases z2:z=d.m x
   ·subst z2
    rw [tr_b,g1,m4]
   ·rw [tr_ne (by omega) z2]
    by_cases z1:z=x
    ·subst z1
     rw [tr_a,fu,m5]
    ·rw [tr_ne z1 (by omega),old z h,tr_ne z1 z2,mo z h z1 z2]
  ·rcases K.k.cover ⟨h,hz⟩ with rfl | rfl | rfl | rfl
   ·rw [m6,tr_ne n3 (by omega),tr_b,fx]
   ·rw [K.m1,tr_ne n5 (by omega),tr_ne (by omega) (Ne.symm n1),tr_a,ex_new a3.1]
   ·rw [K.m2,tr_ne n6 (by omega),tr_ne (by omega) (Ne.symm n2),tr_b,ex_new a2.1]
   ·rw [m3,tr_a,g2]
end Go.Proofs.YtdgliimmnnhhjaaGreatDoor.Pl
end
section
namespace Go.Proofs.YtdgliimmnnhhjaaGreatDoor.Pl
def hf (σ:Nat→Nat)(h:Nat):Nat:=4 * σ (h / 4)+h % 4
theorem hf_div (σ:Nat→Nat)(h:Nat):hf σ h / 4=σ (h / 4):=by unfold hf;omega
theorem hf_mod (σ:Nat→Nat)(h:Nat):hf σ h % 4=h % 4:=by unfold hf;omega
theorem hf_at (σ:Nat→Nat)(c:Nat){t:Nat}(ht:t<4):hf σ (4 * c+t)=4 * σ c+t:=by
 unfold hf;rw [show (4 * c+t) / 4=c by omega,show (4 * c+t) % 4=t by omega]
theorem hf_tn (σ:Nat→Nat)(h k:Nat):hf σ (tn h k)=tn (hf σ h) k:=by
 unfold tn;rw [hf_div,hf_mod];unfold hf;rw [show (h / 4 * 4+(h % 4+k) % 4) / 4=h / 4 by omega];omega
structure Iso (a b:Dg) (σ:Nat→Nat):Prop where
 n:a.n=b.n
 lp:a.lp=b.lp
 lt:∀c,c<a.n→σ c<a.n
 inj:∀c c',c<a.n→c'<a.n→σ c=σ c'→c=c'
 s:∀c,c<a.n→b.s (σ c)=a.s c
 m:∀h,h<4 * a.n→b.m (hf σ h)=hf σ (a.m h)
section
variable {a b:Dg} {σ:Nat→Nat}
theorem Iso.refl (a:Dg):Iso a a (fun c=>c) :=
 ⟨rfl, rfl, fun _ h => h, fun _ _ _ _ h => h, fun _ _ => rfl, fun h _ => by
   have e:∀x,hf (fun c=>c) x=x:=fun x=>by unfold hf;show 4 * (x / 4)+x % 4=x;omega
   rw [e,e]⟩
theorem Iso.hlt (I:Iso a b σ){h:Nat}(hh:h<4 * a.n):hf σ h<4 * a.n:=by
 have:=I.lt (h / 4) (by omega);unfold hf;omega
theorem Iso.hinj (I:Iso a b σ){g h:Nat}(hg:g<4 * a.n)(hh:h<4 * a.n)(e:hf σ g=hf σ h):g=h:=by
 have h1:=congrArg (· / 4) e
 have h2:=congrArg (· % 4) e
 simp only [hf_div,hf_mod] at h1 h2
 have:=I.inj (g / 4) (h / 4) (by omega) (by omega) h1
 omega
theorem Iso.bij (I:Iso a b σ):Bij a.n (fun c=>c<a.n) σ:=⟨fun _ h=>h,I.lt,I.inj⟩
theorem Iso.symm (I:Iso a b σ)(hd:Wf a):∃τ,Iso b a τ∧(∀c,c<a.n→τ (σ c)=c)∧∀c,c<a.n→σ (τ c)=c:=by
 have hx:∀c,∃q,c<a.n→q<a.n∧σ q=c:=fun c=>by
  by_cases h:c<a.n
  ·obtain ⟨p,hp,_,e⟩:=I.bij.back h
   refine ⟨it σ (p - 1) c,fun _=>⟨I.bij.it _ c h,?_⟩⟩
   have:p=(p - 1)+1:=by omega
   rw [this] at e
   exact e
  ·exact ⟨0,fun h'=>absurd h' h⟩
 let τ:=fun c=>Classical.choose (hx c)
 have t1:∀c,c<a.n→τ c<a.n∧σ (τ c)=c:=fun c hc=>Classical.choose_spec (hx c) hc
 have t2:∀c,c<a.n→τ (σ c)=c:=fun c hc=>I.inj _ _ (t1 _ (I.lt c hc)).1 hc (t1 _ (I.lt c hc)).2
 have t3:∀h,h<4 * a.n→hf σ (hf τ h)=h:=fun h hh=>by
  unfold hf;rw [show (4 * τ (h / 4)+h % 4) / 4=τ (h / 4) by omega,(t1 (h / 4) (by omega)).2];omega
 refine ⟨τ,⟨I.n.symm,I.lp.symm,fun c hc=>?_,fun c c' hc hc' e=>?_,fun c hc=>?_,fun h hh=>?_⟩,t2,fun c hc=>(t1 c hc).2⟩
 ·rw [←I.n] at hc ⊢;exact (t1 c hc).1
 ·rw [←I.n] at hc hc';rw [←(t1 c hc).2,←(t1 c' hc').2,e]
 ·rw [←I.n] at hc;rw [←I.s _ (t1 c hc).1,(t1 c hc).2]
 ·rw [←I.n] at hh
  have hl:hf τ h<4 * a.n:=by have:=(t1 (h / 4) (by omega)).1;unfold hf;omega
  have e:=I.m _ hl
  rw [t3 h hh] at e
  refine I.hinj (hd.lt _ hl) ?_ ?_
  ·have h1:b.m h<4 * a.n:=by rw [e];exact I.hlt (hd.lt _ hl)
   have:=(t1 (b.m h / 4) (by omega)).1;unfold hf;omega
  ·rw [←e,t3 _ (by rw [e];exact I.hlt (hd.lt _ hl))]
theorem Iso.nb (I:Iso a b σ){c t:Nat}(hc:c<a.n)(ht:t<4):Pl.nb b (σ c) t=σ (Pl.nb a c t):=by
 unfold Pl.nb
 rw [←hf_at σ c ht,I.m _ (by omega),hf_div]
theorem Iso.mm (I:Iso a b σ){c t:Nat}(hc:c<a.n)(ht:t<4):b.m (4 * σ c+t) % 4=a.m (4 * c+t) % 4:=by
 rw [←hf_at σ c ht,I.m _ (by omega),hf_mod]
theorem mem_map_inj {o:List Nat}{x n:Nat}(inj:∀c c',c<n→c'<n→σ c=σ c'→c=c')(ho:∀c,c ∈ o→c<n)(hx:x<n):σ x ∈ o.map σ↔x ∈ o:=by
 rw [List.mem_map]
 constructor
 ·rintro ⟨y,hy,e⟩;rwa [←inj y x (ho y hy) hx e]
 ·intro h;exact ⟨x,h,rfl⟩
theorem idx_map {n:Nat}(inj:∀c c',c<n→c'<n→σ c=σ c'→c=c'){x:Nat}(hx:x<n):∀{o:List Nat},(∀c,c ∈ o→c<n)→(o.map σ).idxOf (σ x)=o.idxOf x
 | [],_=>rfl
 | y :: o, ho => by
   rw [List.map_cons,List.idxOf_cons,List.idxOf_cons,idx_map inj hx (fun c hc=>ho c (by simp [hc]))]
   by_cases e:y=x
   ·subst e;simp
   ·have:σ y≠σ x:=fun e'=>e (inj y x (ho y (by simp)) hx e')
    rw [beq_false_of_ne this,beq_false_of_ne e]
theorem Iso.addN (I:Iso a b σ){o:List Nat}{x:Nat}(ho:∀c,c ∈ o→c<a.n)(hx:x<a.n):Pl.addN (o.map σ) (σ x)=(Pl.addN o x).map σ:=by
 unfold Pl.addN
 by_cases h:x ∈ o
 ·rw [if_pos h,if_pos ((mem_map_inj I.inj ho hx).2 h)]
 ·rw [if_neg h,if_neg (fun e=>h ((mem_map_inj I.inj ho hx).1 e))];simp
theorem addS_lt (hd:Wf a){o:List Nat}{c s:Nat}(ho:∀c,c ∈ o→c<a.n)(hc:c<a.n)(hs:s≤4):∀x,x ∈ Pl.addS a o c s→x<a.n:=fun x hx=>by
 rcases mem_addS hx with hx | ⟨t,ht,rfl⟩
 ·exact ho x hx
 ·exact nb_lt hd hc (by omega)
theorem Iso.addS (I:Iso a b σ)(hd:Wf a){o:List Nat}{c:Nat}(ho:∀c,c ∈ o→c<a.n)(hc:c<a.n):∀s,s≤4→Pl.addS b (o.map σ) (σ c) s=(Pl.addS a o c s).map σ
 | 0,_=>rfl
 | s + 1, h => by
   unfold Pl.addS
   rw [I.addS hd ho hc s (by omega),I.nb hc (by omega)]
   exact I.addN (addS_lt hd ho hc (by omega)) (nb_lt hd hc (by omega))
theorem Iso.ordK (I:Iso a b σ)(hd:Wf a){r:Nat}(hr:r<a.n):∀k,Pl.ordK b (σ r) k=(Pl.ordK a r k).map σ
 | 0=>rfl
 | k + 1 => by
   have ih:=I.ordK hd hr k
   have hm:=fun c hc=>((ordK_ok hd hr k).mem c hc).1
   cases hc:(Pl.ordK a r k)[k]? with
   | some c =>
     have h2:(Pl.ordK b (σ r) k)[k]? = some (σ c):=by rw [ih,List.getElem?_map,hc];rfl
     rw [ordK_some hc,ordK_some h2,ih]
     exact I.addS hd hm (hm c (List.mem_of_getElem? hc)) 4 (Nat.le_refl _)
   | none =>
     have hl:(Pl.ordK a r k).length≤k:=by
      rcases Nat.lt_or_ge k (Pl.ordK a r k).length with h1 | h1
      ·rw [List.getElem?_eq_getElem h1] at hc;cases hc
      ·exact h1
     rw [ordK_none hl,ordK_none (by rw [ih,List.length_map];exact hl),ih]
theorem Iso.ord (I:Iso a b σ)(hd:Wf a){r:Nat}(hr:r<a.n):Pl.ord b (σ r)=(Pl.ord a r).map σ:=by
 unfold Pl.ord;rw [←I.n];exact I.ordK hd hr a.n
theorem Iso.chk (I:Iso a b σ)(hd:Wf a){o:List Nat}{c:Nat}(ho:∀c,c ∈ o→c<a.n)(hc:c<a.n):Pl.chk b (o.map σ) (σ c)=Pl.chk a o c:=by
 have e:∀t,t<4→(o.map σ).idxOf (Pl.nb b (σ c) t)=o.idxOf (Pl.nb a c t):=fun t ht=>by
  rw [I.nb hc ht];exact idx_map I.inj (nb_lt hd hc ht) ho
 have m0:=I.mm hc (t:=0) (by omega)
 rw [Nat.add_zero,Nat.add_zero] at m0
 unfold Pl.chk
 rw [I.s c hc,e 0 (by omega),e 1 (by omega),e 2 (by omega),e 3 (by omega),m0,I.mm hc (t:=1) (by omega),I.mm hc (t:=2) (by omega),I.mm hc (t:=3) (by omega)]
theorem flat_map_eq {f g:Nat→List Int}:∀{l:List Nat},(∀c,c ∈ l→f (σ c)=g c)→(l.map σ).flatMap f=l.flatMap g
 | [],_=>rfl
 | c :: l, h => by
   rw [List.map_cons,List.flatMap_cons,List.flatMap_cons,h c (by simp),flat_map_eq (fun x hx=>h x (by simp [hx]))]
theorem Iso.code (I:Iso a b σ)(hd:Wf a){r:Nat}(hr:r<a.n):Pl.code b (σ r)=Pl.code a r:=by
 unfold Pl.code
 rw [I.ord hd hr]
 have hm:=fun c hc=>((ord_ok hd hr).mem c hc).1
 exact flat_map_eq (fun c hc=>I.chk hd hm (hm c hc))
theorem Iso.comp (I:Iso a b σ)(hd:Wf a)(hb:Wf b){x y:Nat}(hx:x<a.n)(hy:y<a.n):Comp b (σ x) (σ y)↔Comp a x y:=by
 rw [←ord_mem hd hx,←ord_mem hb (by rw [←I.n];exact I.lt x hx),I.ord hd hx]
 exact mem_map_inj I.inj (fun c hc=>((ord_ok hd hx).mem c hc).1) hy
end
end Go.Proofs.YtdgliimmnnhhjaaGreatDoor.Pl
end
section
namespace Go.Proofs.YtdgliimmnnhhjaaGreatDoor.Pl
variable {d:Dg}
noncomputable def vb (p:Prop):Bool:=open Classical in decide p
theorem vb_true {p:Prop}(h:p):vb p=true:=by unfold vb;simpa using h
theorem vb_false {p:Prop}(h:¬p):vb p=false:=by unfold vb;simpa using h
theorem vb_iff {p:Prop}:vb p=true↔p:=by unfold vb;simp
theorem Wf.nxb (hd:Wf d):Bij (4 * d.n) (dart d) (nx d):=hd.hm.pb
def gb (bs:List Bool)(g:Nat):Bool:=bs.getD g false
theorem gb_set {bs:List Bool}{i:Nat}(hi:i<bs.length)(v:Bool)(a:Nat):gb (bs.set i v) a=if a=i then v else gb bs a:=by
 unfold gb
 rw [List.getD_eq_getElem?_getD,List.getD_eq_getElem?_getD,List.getElem?_set]
 by_cases h:i=a
 ·subst h;simp [hi]
 ·rw [if_neg h,if_neg (fun e=>h e.symm)]
def uns (bs:List Bool):Nat:=bs.countP (fun b => !b)
theorem uns_set {bs:List Bool}{i:Nat}(hi:i<bs.length)(hn:gb bs i=false):uns (bs.set i true)+1=uns bs:=by
 have e:gb bs i=bs[i]:=by unfold gb;rw [List.getD_eq_getElem?_getD,List.getElem?_eq_getElem hi];rfl
 have hb:bs[i]=false:=by rw [←e,hn]
 have hp:0<uns bs:=by
  unfold uns
  rw [List.countP_pos_iff]
  exact ⟨bs[i],List.getElem_mem hi,by rw [hb];rfl⟩
 unfold uns at hp ⊢
 rw [List.countP_set hi,hb]
 simp only [Bool.not_false,if_true,Bool.not_true,Bool.false_eq_true,if_false]
 omega
structure SQ (d:Dg) (k:Nat) (bs:List Bool):Prop where
 len:bs.length=4 * d.n
 iff:∀g,g<4 * d.n→(gb bs g=true↔∃h,h<k∧Orb (nx d) h g)
theorem SQ.start (d:Dg):SQ d 0 (List.replicate (4 * d.n) false):=by
 refine ⟨by simp,fun g hg=>?_⟩
 have:gb (List.replicate (4 * d.n) false) g=false:=by
  unfold gb;rw [List.getD_eq_getElem?_getD,List.getElem?_replicate,if_pos hg];rfl
 rw [this]
 exact ⟨fun h=>(Bool.false_ne_true h).elim,fun ⟨h,h1,_⟩=>by omega⟩
structure SI (d:Dg) (k i:Nat) (bs:List Bool):Prop where
 len:bs.length=4 * d.n
 hk:k<4 * d.n
 new:¬∃h,h<k∧Orb (nx d) h k
 iff:∀g,g<4 * d.n→(gb bs g=true↔(∃h,h<k∧Orb (nx d) h g)∨∃j,j<i∧it (nx d) j k=g)
theorem SQ.seen (hd:Wf d){k:Nat}{bs:List Bool}(h:SQ d k bs)(hk:k<4 * d.n)(hs:gb bs k=true):SQ d (k+1) bs∧¬Least (nx d) k:=by
 obtain ⟨h0,h1,h2⟩:=(h.iff k hk).1 hs
 have h0n:h0<4 * d.n:=by omega
 refine ⟨⟨h.len,fun g hg=>(h.iff g hg).trans ⟨fun ⟨x,hx,e⟩=>⟨x,by omega,e⟩,fun ⟨x,hx,e⟩=>?_⟩⟩,fun hl=>?_⟩
 ·by_cases e2:x=k
  ·subst e2;exact ⟨h0,h1,h2.trans e⟩
  ·exact ⟨x,by omega,e⟩
 ·obtain ⟨j,hj⟩:=hd.nxb.symm h0n h2
  have:=hl j
  omega
theorem SQ.enter (hd:Wf d){k:Nat}{bs:List Bool}(h:SQ d k bs)(hk:k<4 * d.n)(hs:gb bs k=false):SI d k 0 bs∧Least (nx d) k:=by
 have hn:¬∃h,h<k∧Orb (nx d) h k:=fun e=>by rw [(h.iff k hk).2 e] at hs;cases hs
 refine ⟨⟨h.len,hk,hn,fun g hg=>(h.iff g hg).trans ⟨.inl,fun e=>e.resolve_right (fun ⟨j,hj,_⟩=>by omega)⟩⟩,fun j=>?_⟩
 refine Nat.le_of_not_lt fun hlt=>hn ⟨_,hlt,hd.nxb.symm hk ⟨j,rfl⟩⟩
theorem SI.lt (hd:Wf d){k i:Nat}{bs:List Bool}(h:SI d k i bs):it (nx d) i k<4 * d.n:=hd.nxb.it i k h.hk
theorem SI.step (hd:Wf d){k i:Nat}{bs:List Bool}(h:SI d k i bs):SI d k (i+1) (bs.set (it (nx d) i k) true):=by
 have hl:it (nx d) i k<bs.length:=by rw [h.len];exact h.lt hd
 refine ⟨by rw [List.length_set,h.len],h.hk,h.new,fun g hg=>?_⟩
 rw [gb_set hl]
 by_cases e:g=it (nx d) i k
 ·rw [if_pos e]
  exact ⟨fun _ => .inr ⟨i,by omega,e.symm⟩,fun _=>rfl⟩
 ·rw [if_neg e,h.iff g hg]
  constructor
  ·rintro (h1 | ⟨j,hj,e1⟩)
   ·exact .inl h1
   ·exact .inr ⟨j,by omega,e1⟩
  ·rintro (h1 | ⟨j,hj,e1⟩)
   ·exact .inl h1
   ·by_cases e2:j=i
    ·subst e2;exact absurd e1.symm e
    ·exact .inr ⟨j,by omega,e1⟩
theorem SI.done (hd:Wf d){k i:Nat}{bs:List Bool}(h:SI d k i bs)(hs:gb bs (it (nx d) i k)=true):SQ d (k+1) bs:=by
 have hb:=hd.nxb
 -- the face has come back
 have hback:∃p,0<p∧p≤i∧it (nx d) p k=k:=by
  rcases (h.iff _ (h.lt hd)).1 hs with ⟨x,hx,e⟩ | ⟨j,hj,e⟩
  ·exact absurd ⟨x,hx,e.trans (hb.symm h.hk ⟨i,rfl⟩)⟩ h.new
  ·refine ⟨i - j,by omega,by omega,?_⟩
   have e2:it (nx d) i k=it (nx d) j (it (nx d) (i - j) k):=by rw [←it_add,Nat.add_sub_cancel' (by omega)]
   rw [e2] at e
   exact (hb.it_inj j _ _ h.hk (hb.it _ k h.hk) e).symm
 obtain ⟨p,hp,hpi,e⟩:=hback
 have all:∀g,Orb (nx d) k g→∃j,j<i∧it (nx d) j k=g:=by
  intro g hg
  have:∃j,j<p∧it (nx d) j k=g:=orb_closed (P:=fun g=>∃j,j<p∧it (nx d) j k=g) (fun z ⟨j,hj,ej⟩=>by
   by_cases e3:j+1=p
   ·refine ⟨0,hp,?_⟩
    rw [←ej]
    show k=it (nx d) (j+1) k
    rw [e3,e]
   ·exact ⟨j+1,by omega,by rw [←ej];rfl⟩) ⟨0,hp,rfl⟩ hg
  obtain ⟨j,hj,ej⟩:=this
  exact ⟨j,by omega,ej⟩
 refine ⟨h.len,fun g hg=>(h.iff g hg).trans ⟨?_,?_⟩⟩
 ·rintro (⟨x,hx,e1⟩ | ⟨j,_,e1⟩)
  ·exact ⟨x,by omega,e1⟩
  ·exact ⟨k,by omega,j,e1⟩
 ·rintro ⟨x,hx,e1⟩
  by_cases e2:x=k
  ·subst e2;exact .inr (all g e1)
  ·exact .inl ⟨x,by omega,e1⟩
noncomputable def nv (ps:List Int)(p k:Nat):Nat:=cnt (fun a=>pv ps a=p) k
noncomputable def nf (d:Dg)(ps:List Int)(p k:Nat):Nat:=cnt (fun h=>Least (nx d) h∧pv ps (h / 4)=p) k
def Ex (d:Dg)(ps es:List Int)(P k m:Nat):Prop:=es.length=P∧∀p,p<P→pv es p=(nf d ps p m:Int) - (nv ps p k:Int)
theorem Ex.start (d:Dg)(ps:List Int)(P:Nat):Ex d ps (List.replicate P 0) P 0 0:=by
 refine ⟨by simp,fun p hp=>?_⟩
 have:pv (List.replicate P 0) p=0:=by
  unfold pv;rw [List.getD_eq_getElem?_getD,List.getElem?_replicate,if_pos hp];rfl
 rw [this]
 simp [nf,nv,cnt]
theorem Ex.less {ps es:List Int}{P k:Nat}(h:Ex d ps es P k 0){q:Nat}(hq:q<P)(e:pv ps k=q):Ex d ps (es.set q (pv es q - 1)) P (k+1) 0:=by
 refine ⟨by rw [List.length_set,h.1],fun p hp=>?_⟩
 rw [pv_set (by rw [h.1];exact hq)]
 have hp0:=h.2 p hp
 by_cases e2:p=q
 ·subst e2
  rw [if_pos rfl,hp0]
  unfold nv
  rw [cnt_step_pos e];omega
 ·rw [if_neg e2,hp0]
  unfold nv
  rw [cnt_step_neg (fun e3=>e2 (by rw [e] at e3;omega))]
theorem Ex.more {ps es:List Int}{P k m:Nat}(h:Ex d ps es P k m){q:Nat}(hq:q<P)(e:pv ps (m / 4)=q)(hl:Least (nx d) m):Ex d ps (es.set q (pv es q+1)) P k (m+1):=by
 refine ⟨by rw [List.length_set,h.1],fun p hp=>?_⟩
 rw [pv_set (by rw [h.1];exact hq)]
 have hp0:=h.2 p hp
 by_cases e2:p=q
 ·subst e2
  rw [if_pos rfl,hp0]
  unfold nf
  rw [cnt_step_pos ⟨hl,e⟩];omega
 ·rw [if_neg e2,hp0]
  unfold nf
  rw [cnt_step_neg (fun e3=>e2 (by have:=e3.2;rw [e] at this;omega))]
theorem Ex.same {ps es:List Int}{P k m:Nat}(h:Ex d ps es P k m)(hl:¬Least (nx d) m):Ex d ps es P k (m+1):=by
 refine ⟨h.1,fun p hp=>?_⟩
 rw [h.2 p hp]
 unfold nf
 rw [cnt_step_neg (fun e3=>hl e3.1)]
def Rule (d:Dg):Prop:=∀c,c<d.n→cnt (fun h=>Least (nx d) h∧Comp d c (h / 4)) (4 * d.n)=cnt (fun b=>Comp d c b) d.n+2
theorem Ex.rule (hd:Wf d){ps es:List Int}{P:Nat}(hb:LB d ps P)(hall:∀a,a<d.n→0≤pv ps a)(h:Ex d ps es P d.n (4 * d.n)):(∀p,p<P→pv es p=2)↔Rule d:=by
 have key:∀c p:Nat,c<d.n→pv ps c=p→nf d ps p (4 * d.n)=cnt (fun h=>Least (nx d) h∧Comp d c (h / 4)) (4 * d.n)∧nv ps p d.n=cnt (fun b=>Comp d c b) d.n:=by
  intro c p hc e
  have one:∀b,b<d.n→(pv ps b=p↔Comp d c b):=fun b hb'=>⟨fun e2=>hb.conn c b hc hb' (hall c hc) (by rw [e,e2]),fun e2=>by rw [hb.same c b hc e2 (hall c hc),e]⟩
  refine ⟨cnt_congr _ (fun x hx=>?_),cnt_congr _ (fun x hx=>one x hx)⟩
  rw [one (x / 4) (by omega)]
 constructor
 ·intro h2 c hc
  have hlo:=hb.lo c hc
  have h0:=hall c hc
  obtain ⟨p,hp⟩:∃p:Nat,pv ps c=p:=⟨(pv ps c).toNat,by omega⟩
  obtain ⟨k1,k2⟩:=key c p hc hp
  have h3:=h2 p (by omega)
  rw [h.2 p (by omega),k1,k2] at h3
  omega
 ·intro h2 p hp
  obtain ⟨c,hc,e⟩:=hb.all p hp
  obtain ⟨k1,k2⟩:=key c p hc e
  rw [h.2 p hp,k1,k2,h2 c hc]
  omega
end Go.Proofs.YtdgliimmnnhhjaaGreatDoor.Pl
end
section
namespace Go.Proofs.YtdgliimmnnhhjaaGreatDoor.Pl
variable {N:Nat} {S:Nat→Prop} {f:Nat→Nat}
def Per (f:Nat→Nat)(x p:Nat):Prop:=0<p∧it f p x=x∧∀i,0<i→i<p→it f i x≠x
theorem least_nat {P:Nat→Prop}:∀(n:Nat),P n→∃m,m≤n∧P m∧∀k,k<m→¬P k
 | 0,h=>⟨0,Nat.le_refl _,h,fun k hk=>absurd hk (by omega)⟩
 | n + 1, h => by
   by_cases e:∃k,k<n+1∧P k
   ·obtain ⟨k,hk,hp⟩:=e
    obtain ⟨m,h1,h2,h3⟩:=least_nat k hp
    exact ⟨m,by omega,h2,h3⟩
   ·exact ⟨n+1,Nat.le_refl _,h,fun k hk hp=>e ⟨k,hk,hp⟩⟩
termination_by n=>n
theorem Bij.per (h:Bij N S f){x:Nat}(hx:S x):∃p,p≤N∧Per f x p:=by
 obtain ⟨q,h1,h2,h3⟩:=h.back hx
 obtain ⟨m,g1,⟨g2,g3⟩,g4⟩:=least_nat (P:=fun p=>0<p∧Pl.it f p x=x) q ⟨h1,h3⟩
 exact ⟨m,by omega,g2,g3,fun i hi hm e=>g4 i hm ⟨hi,e⟩⟩
def cyc (f:Nat→Nat)(x p:Nat):List Nat:=(List.range p).map (fun i=>it f i x)
theorem cyc_len (f:Nat→Nat)(x p:Nat):(cyc f x p).length=p:=by unfold cyc;simp
theorem cyc_succ (f:Nat→Nat)(x p:Nat):cyc f x (p+1)=cyc f x p++[it f p x]:=by unfold cyc;rw [List.range_succ,List.map_append];rfl
theorem cyc_get {f:Nat→Nat}{x p i:Nat}(hi:i<p):(cyc f x p).getD i 0=it f i x:=by
 unfold cyc
 rw [List.getD_eq_getElem?_getD,List.getElem?_map,List.getElem?_range hi];rfl
theorem mem_cyc {x p:Nat}(hp:Per f x p){y:Nat}:y ∈ cyc f x p↔Orb f x y:=by
 unfold cyc
 rw [List.mem_map]
 constructor
 ·rintro ⟨i,_,e⟩;exact ⟨i,e⟩
 ·rintro ⟨k,e⟩
  refine ⟨k % p,List.mem_range.2 (Nat.mod_lt _ hp.1),?_⟩
  have h1:k=k % p+k / p * p:=by rw [Nat.mul_comm];exact (Nat.mod_add_div k p).symm
  rw [h1,it_add,it_mul f p x hp.2.1] at e
  exact e
structure Fcs (f:Nat→Nat) (W:Nat→Prop) (N k:Nat) (fs:List (List Nat)) (bs:List Bool):Prop where
 len:bs.length=N
 is:∀l,l ∈ fs→∃h p,h<N∧W h∧Per f h p∧l=cyc f h p
 seen:∀h,h<N→(gb bs h=true↔∃l,l ∈ fs∧h ∈ l)
 all:∀h,h<k→W h→gb bs h=true
 one:∀(i j:Nat) (l m:List Nat) (h:Nat),fs[i]? = some l→fs[j]? = some m→h ∈ l→h ∈ m→i=j
theorem Fcs.start (f:Nat→Nat)(W:Nat→Prop)(N:Nat):Fcs f W N 0 [] (List.replicate N false):=by
 refine ⟨by simp,fun l h=>by simp at h,fun h hh=>?_,fun h hh=>absurd hh (by omega),fun i j l m h e=>by simp at e⟩
 constructor
 ·intro e;unfold gb at e;rw [List.getD_eq_getElem?_getD,List.getElem?_replicate,if_pos hh] at e;exact absurd e (by decide)
 ·rintro ⟨l,h,_⟩;simp at h
theorem Fcs.skip {W:Nat→Prop}{k:Nat}{fs:List (List Nat)}{bs:List Bool}(h:Fcs f W N k fs bs)(hs:gb bs k=true∨¬W k):Fcs f W N (k+1) fs bs :=
 ⟨h.len, h.is, h.seen, fun x hx hw => by
   by_cases e:x=k
   ·subst e
    rcases hs with hs | hs
    ·exact hs
    ·exact absurd hw hs
   ·exact h.all x (by omega) hw,h.one⟩
def mark (bs:List Bool):List Nat→List Bool
 | []=>bs
 | x :: l=>mark (bs.set x true) l
theorem mark_append (bs:List Bool):∀(l m:List Nat),mark bs (l++m)=mark (mark bs l) m:=by
 intro l
 induction l generalizing bs with
 | nil=>intro m;rfl
 | cons x l ih=>intro m;exact ih (bs.set x true) m
theorem mark_len (bs:List Bool)(l:List Nat):(mark bs l).length=bs.length:=by
 induction l generalizing bs with
 | nil=>rfl
 | cons x l ih=>show (mark (bs.set x true) l).length=_;rw [ih,List.length_set]
theorem gb_mark {bs:List Bool}{l:List Nat}(hl:∀x,x ∈ l→x<bs.length)(h:Nat):gb (mark bs l) h=true↔gb bs h=true∨h ∈ l:=by
 induction l generalizing bs with
 | nil=>simp [mark]
 | cons x l ih =>
   show gb (mark (bs.set x true) l) h=true↔_
   rw [ih (fun y hy=>by rw [List.length_set];exact hl y (List.mem_cons_of_mem _ hy)),gb_set (hl x List.mem_cons_self) true h,List.mem_cons]
   by_cases e:h=x
   ·simp [e]
   ·simp [e]
theorem Fcs.add {W:Nat→Prop}(hb:Bij N S f)(hS:∀x,x<N→S x)(hN:∀x,S x→x<N){k p:Nat}{fs:List (List Nat)}{bs:List Bool}(h:Fcs f W N k fs bs)(hk:k<N)(hw:W k)(hn:gb bs k=false)(hp:Per f k p) :
 Fcs f W N (k+1) (fs++[cyc f k p]) (mark bs (cyc f k p)):=by
 have hin:∀x,x ∈ cyc f k p→x<bs.length:=fun x hx=>by
  rw [h.len];exact hN x (hb.orb_mem (hS k hk) ((mem_cyc hp).1 hx))
 have apart:∀l x,l ∈ fs→x ∈ l→¬x ∈ cyc f k p:=fun l x hl hx hc=>by
  obtain ⟨g,q,h1,h2,h3,rfl⟩:=h.is l hl
  have e1:=(mem_cyc h3).1 hx
  have e2:=(mem_cyc hp).1 hc
  have e3:Orb f g k:=e1.trans (hb.symm (hS k hk) e2)
  have:=(h.seen k hk).2 ⟨_,hl,(mem_cyc h3).2 e3⟩
  rw [hn] at this
  exact absurd this (by decide)
 refine ⟨by rw [mark_len,h.len],fun l hl=>?_,fun x hx=>?_,fun x hx hwx=>?_,fun i j l m x e1 e2 h1 h2=>?_⟩
 ·rcases List.mem_append.1 hl with hl | hl
  ·exact h.is l hl
  ·rw [List.mem_singleton] at hl
   exact ⟨k,p,hk,hw,hp,hl⟩
 ·rw [gb_mark hin,h.seen x hx]
  constructor
  ·rintro (⟨l,h1,h2⟩ | h2)
   ·exact ⟨l,List.mem_append_left _ h1,h2⟩
   ·exact ⟨_,List.mem_append_right _ (List.mem_singleton.2 rfl),h2⟩
  ·rintro ⟨l,h1,h2⟩
   rcases List.mem_append.1 h1 with h1 | h1
   ·exact .inl ⟨l,h1,h2⟩
   ·rw [List.mem_singleton] at h1;subst h1;exact .inr h2
 ·rw [gb_mark hin]
  by_cases e:x=k
  ·subst e;exact .inr ((mem_cyc hp).2 (Orb.refl f x))
  ·exact .inl (h.all x (by omega) hwx)
 ·rw [List.getElem?_append] at e1 e2
  by_cases c1:i<fs.length
  ·rw [if_pos c1] at e1
   by_cases c2:j<fs.length
   ·rw [if_pos c2] at e2
    exact h.one i j l m x e1 e2 h1 h2
   ·rw [if_neg c2] at e2
    have:=List.mem_of_getElem? e2
    rw [List.mem_singleton] at this
    subst this
    exact absurd h2 (apart l x (List.mem_of_getElem? e1) h1)
  ·rw [if_neg c1] at e1
   have t1:=List.mem_of_getElem? e1
   rw [List.mem_singleton] at t1
   by_cases c2:j<fs.length
   ·rw [if_pos c2] at e2
    subst t1
    exact absurd h1 (apart m x (List.mem_of_getElem? e2) h2)
   ·rw [if_neg c2] at e2
    have a1:=(List.getElem?_eq_some_iff.1 e1).1
    have a2:=(List.getElem?_eq_some_iff.1 e2).1
    simp only [List.length_singleton] at a1 a2
    omega
theorem Fcs.label {W:Nat→Prop}(hb:Bij N S f)(hS:∀x,x<N→S x){fs:List (List Nat)}{bs:List Bool}(h:Fcs f W N N fs bs)(hW:∀x,x<N→W x){F:Nat→Nat}(hF:∀(i:Nat) (l:List Nat) (x:Nat),fs[i]? = some l→x ∈ l→F x=i){x y:Nat}(hx:x<N)(hy:y<N):F x=F y↔Orb f x y:=by
 obtain ⟨l,h1,h2⟩:=(h.seen x hx).1 (h.all x hx (hW x hx))
 obtain ⟨m,g1,g2⟩:=(h.seen y hy).1 (h.all y hy (hW y hy))
 obtain ⟨i,hi⟩:=List.getElem?_of_mem h1
 obtain ⟨j,hj⟩:=List.getElem?_of_mem g1
 rw [hF i l x hi h2,hF j m y hj g2]
 obtain ⟨a,p,a1,a2,a3,rfl⟩:=h.is l h1
 have ox:=(mem_cyc a3).1 h2
 constructor
 ·intro e
  subst e
  rw [hi] at hj
  injection hj with hj
  subst hj
  have oy:=(mem_cyc a3).1 g2
  exact (hb.symm (hS a a1) ox).trans oy
 ·intro e
  exact h.one i j _ m y hi hj ((mem_cyc a3).2 (ox.trans e)) g2
end Go.Proofs.YtdgliimmnnhhjaaGreatDoor.Pl
end
section
namespace Go.Proofs.YtdgliimmnnhhjaaGreatDoor.Pl
variable {N:Nat} {S:Nat→Prop} {r a:Nat→Nat}
theorem Flat.bypass (h:Hm N S r a){x y u v:Nat}(hx:S x)(hy:S y)(hu:S u)(hv:S v)(hxy:x≠y)(huv:u≠v)(xu:x≠u)(xv:x≠v)(yu:y≠u)(yv:y≠v)
 (fx:a x=x) (fy:a y=y) (fu:a u=u) (fv:a v=v) (ho:Orb (phi r a) u v) (hf:Flat S r (tr (tr a u x) v y)):Flat S r (tr a x y):=by
 have h1:=h.tr hu hx fu fx
 have fv1:tr a u x v=v:=by rw [tr_ne (Ne.symm huv) (Ne.symm xv),fv]
 have fy1:tr a u x y=y:=by rw [tr_ne yu (Ne.symm hxy),fy]
 obtain ⟨f1,k1⟩:=Flat.del h1 hv hy (Ne.symm yv) fv1 fy1 hf
 obtain ⟨f0,k0⟩:=Flat.del h hu hx (Ne.symm xu) fu fx f1
 have cuv:=orb_phi_con ho
 have ovu:=h.pb.symm hu ho
 have cvu:=orb_phi_con ovu
 refine Flat.add h hx hy hxy fx fy (fun hc=>?_) f0
 have c2:Con r (tr a u x) v y:=(h.con_tr hu hx fu fx hv).2 (.inr (.inl ⟨cvu,hc⟩))
 have o2:=k1 c2
 by_cases oux:Orb (phi r a) u x
 ·have sub : Orb (phi r a) v y := by
   rw [phi_tr] at o2
   refine orb_sub (h.pb.tr hu hx) h.pb.eqv (fun z hz=>?_) hv o2
   by_cases z1:z=u
   ·subst z1;rw [tr_a];exact oux.trans (Orb.step _ _)
   ·by_cases z2:z=x
    ·subst z2;rw [tr_b];exact (h.pb.symm hu oux).trans (Orb.step _ _)
    ·rw [tr_ne z1 z2];exact Orb.step _ _
  exact (h.pb.symm hu oux).trans (ho.trans sub)
 ·rw [phi_tr,h.pb.merge hu hx oux hv] at o2
  rcases o2 with e | ⟨_,e⟩ | ⟨e,_⟩
  ·exact absurd (k0 ((orb_phi_con (ho.trans e)).trans (h.con_symm hx hc))) oux
  ·exact e
  ·exact absurd (ho.trans e) oux
def cut2 (a:Nat→Nat)(u v:Nat):Nat→Nat:=tr (tr a u (a u)) v (a v)
def byp (a:Nat→Nat)(u v:Nat):Nat→Nat:=tr (cut2 a u v) (a u) (a v)
theorem cut2_hm (h:Hm N S r a){u v:Nat}(hu:S u)(hv:S v)(huv:u≠v)(nu:a u≠u)(nv:a v≠v)(nuv:a u≠v) :
 Hm N S r (cut2 a u v)∧cut2 a u v u=u∧cut2 a u v v=v∧cut2 a u v (a u)=a u∧cut2 a u v (a v)=a v∧a=tr (tr (cut2 a u v) u (a u)) v (a v)∧a u≠a v∧a v≠u:=by
 have n1:a u≠a v:=fun e=>huv (h.ab.inj _ _ hu hv e)
 have n2:a v≠u:=fun e=>nuv (by rw [←e,h.inv v hv])
 obtain ⟨c1,c2,c3⟩:=Hm.cut h hu nu
 have e1:tr a u (a u) v=a v:=tr_ne (Ne.symm huv) (Ne.symm nuv)
 have e2:tr a u (a u) v≠v:=by rw [e1];exact nv
 obtain ⟨d1,d2,d3⟩:=Hm.cut c1 hv e2
 rw [e1] at d1 d2 d3
 refine ⟨d1,?_,d2,?_,d3,?_,n1,n2⟩
 ·unfold cut2;rw [tr_ne huv (Ne.symm n2),c2]
 ·unfold cut2;rw [tr_ne nuv n1,c3]
 ·unfold cut2
  funext z
  by_cases z1:z=v
  ·subst z1
   rw [tr_a]
   rw [tr_ne n2 (Ne.symm n1),tr_b,tr_ne (Ne.symm huv) (Ne.symm nuv)]
  ·by_cases z2:z=a v
   ·subst z2
    rw [tr_b,tr_ne (Ne.symm huv) (Ne.symm nuv),tr_a,tr_ne n2 (Ne.symm n1)]
   ·rw [tr_ne z1 z2]
    by_cases z3:z=u
    ·subst z3
     rw [tr_a,tr_ne nuv n1,tr_b]
    ·by_cases z4:z=a u
     ·subst z4
      rw [tr_b,tr_ne huv (Ne.symm n2),tr_a]
     ·rw [tr_ne z3 z4,tr_ne z1 z2,tr_ne z3 z4]
theorem byp_flat (h:Hm N S r a){u v:Nat}(hu:S u)(hv:S v)(huv:u≠v)(nu:a u≠u)(nv:a v≠v)(nuv:a u≠v)(ho:Orb (phi r (cut2 a u v)) u v)(hf:Flat S r a) :
 Hm N S r (byp a u v)∧Flat S r (byp a u v):=by
 obtain ⟨c0,c1,c2,c3,c4,c5,c6,c7⟩:=cut2_hm h hu hv huv nu nv nuv
 have hx:=h.ab.maps u hu
 have hy:=h.ab.maps v hv
 exact ⟨c0.tr hx hy c3 c4,Flat.bypass c0 hx hy hu hv c6 huv nu nuv c7 nv c3 c4 c1 c2 ho (by rw [←c5];exact hf)⟩
theorem byp_at (h:Hm N S r a){u v:Nat}(hu:S u)(hv:S v)(huv:u≠v)(nu:a u≠u)(nv:a v≠v)(nuv:a u≠v) :
 byp a u v u=u∧byp a u v v=v∧byp a u v (a u)=a v∧byp a u v (a v)=a u∧∀z,z≠u→z≠v→z≠a u→z≠a v→byp a u v z=a z:=by
 obtain ⟨c0,c1,c2,c3,c4,c5,c6,c7⟩:=cut2_hm h hu hv huv nu nv nuv
 unfold byp
 refine ⟨by rw [tr_ne (Ne.symm nu) (Ne.symm c7),c1],by rw [tr_ne (Ne.symm nuv) (Ne.symm nv),c2],by rw [tr_a,c4],by rw [tr_b,c3],fun z z1 z2 z3 z4=>?_⟩
 rw [tr_ne z3 z4]
 unfold cut2
 rw [tr_ne z2 z4,tr_ne z1 z3]
theorem cut2_at (u v:Nat){z:Nat}(z1:z≠u)(z2:z≠v)(z3:z≠a u)(z4:z≠a v):cut2 a u v z=a z:=by
 unfold cut2
 rw [tr_ne z2 z4,tr_ne z1 z3]
end Go.Proofs.YtdgliimmnnhhjaaGreatDoor.Pl
end
section
namespace Go.Proofs.YtdgliimmnnhhjaaGreatDoor.Pl
def mk (sg mt:List Int)(lp:Int):Dg:=⟨sg,mt.map Int.toNat,lp.toNat⟩
def VL (sg mt:List Int)(lp:Int):Prop:=Valid (mk sg mt lp)∧(∀z,z ∈ mt→0≤z)∧0≤lp
variable {sg mt:List Int} {lp:Int}
theorem mk_n (sg mt:List Int)(lp:Int):(mk sg mt lp).n=sg.length:=rfl
theorem mk_m {h:Nat}(hh:h<mt.length):(mk sg mt lp).m h=(pv mt h).toNat:=by
 unfold Dg.m mk pv
 rw [List.getD_eq_getElem?_getD,List.getD_eq_getElem?_getD,List.getElem?_map,List.getElem?_eq_getElem hh];rfl
theorem nats_mk (h:∀z,z ∈ mt→0≤z):(mk sg mt lp).mt.map (fun m:Nat=>(m:Int))=mt:=by
 unfold mk
 rw [List.map_map]
 refine (List.map_congr_left (fun z hz=>?_)).trans (List.map_id mt)
 have:=h z hz
 simp only [Function.comp_apply,id_eq]
 omega
theorem pv_mem {l:List Int}{h:Nat}(hh:h<l.length):pv l h ∈ l:=by
 unfold pv
 rw [List.getD_eq_getElem?_getD,List.getElem?_eq_getElem hh]
 exact List.getElem_mem hh
theorem VL.few (h:VL sg mt lp):sg.length≤64:=h.1.wf.few
theorem VL.len (h:VL sg mt lp):mt.length=4 * sg.length:=by have:=h.1.wf.len;unfold mk Dg.n at this;simpa using this
theorem VL.loops (h:VL sg mt lp):0≤lp∧lp≤64:=by
 have h1:=h.1.wf.lp
 have h2:=h.2.2
 unfold mk at h1
 simp only at h1
 omega
theorem VL.sign (h:VL sg mt lp){c:Nat}(hc:c<sg.length):pv sg c=1∨pv sg c = -1:=h.1.wf.sign c hc
theorem VL.mate (h:VL sg mt lp){k:Nat}(hk:k<mt.length):0≤pv mt k∧pv mt k<mt.length∧pv mt k≠k∧pv mt (pv mt k).toNat=k∧out (mk sg mt lp) k≠out (mk sg mt lp) (pv mt k).toNat:=by
 have hl:=h.len
 have hw:=h.1.wf
 have h0:=h.2.1 _ (pv_mem hk)
 have hk4:k<4 * (mk sg mt lp).n:=by rw [mk_n];omega
 have h1:=hw.lt k hk4
 have h2:=hw.ne k hk4
 have h3:=hw.inv k hk4
 have h4:=hw.way k hk4
 rw [mk_m hk] at h1 h2 h3 h4
 rw [mk_n] at h1
 have hm:(pv mt k).toNat<mt.length:=by omega
 rw [mk_m hm] at h3
 have h5:=h.2.1 _ (pv_mem hm)
 exact ⟨h0,by omega,by omega,by omega,h4⟩
theorem wf_of (h1:sg.length≤64)(h2:mt.length=4 * sg.length)(h3:0≤lp∧lp≤64)(h4:∀c,c<sg.length→pv sg c=1∨pv sg c = -1)
 (h5:∀k,k<mt.length→0≤pv mt k∧pv mt k<mt.length∧pv mt k≠k∧pv mt (pv mt k).toNat=k∧out (mk sg mt lp) k≠out (mk sg mt lp) (pv mt k).toNat):Wf (mk sg mt lp):=by
 refine ⟨h1,by unfold mk Dg.n;simpa using h2,by unfold mk;simp only;omega,h4,fun h hh=>?_,fun h hh=>?_,fun h hh=>?_,fun h hh=>?_⟩
 all_goals
  rw [mk_n] at hh
  have hl:h<mt.length:=by omega
  obtain ⟨g1,g2,g3,g4,g5⟩:=h5 h hl
  rw [mk_m hl]
 ·rw [mk_n];omega
 ·omega
 ·rw [mk_m (by omega),g4];rfl
 ·exact g5
theorem VL.of (hw:Wf (mk sg mt lp))(hp:∀z,z ∈ mt→0≤z)(hl:0≤lp):VL sg mt lp↔Rule (mk sg mt lp) :=
 ⟨fun h=>h.1.flat,fun h=>⟨⟨hw,h⟩,hp,hl⟩⟩
theorem mem_pv {l:List Int}{z:Int}(h:z ∈ l):∃k,k<l.length∧pv l k=z:=by
 obtain ⟨k,hk,e⟩:=List.mem_iff_getElem.1 h
 exact ⟨k,hk,by unfold pv;rw [List.getD_eq_getElem?_getD,List.getElem?_eq_getElem hk];exact e⟩
end Go.Proofs.YtdgliimmnnhhjaaGreatDoor.Pl
end
section
namespace Go.Proofs.YtdgliimmnnhhjaaGreatDoor.Pl
def shf (gs:List Nat)(h:Nat):Nat:=h - 4 * (gs.filter (fun c=>decide (c<h / 4))).length
def left (n:Nat)(gs:List Nat):List Nat:=(List.range n).filter (fun c => !gs.contains c)
def four (f:Nat→Nat)(c:Nat):List Nat:=[f (4 * c),f (4 * c+1),f (4 * c+2),f (4 * c+3)]
def shrS (gs:List Nat)(sg:List Int):List Int:=(left sg.length gs).map (fun c=>sg.getD c 0)
def shrM (gs:List Nat)(n:Nat)(mt:List Nat):List Nat:=(left n gs).flatMap (four (fun h=>shf gs (mt.getD h 0)))
theorem left_succ (n:Nat)(gs:List Nat):left (n+1) gs=left n gs++if gs.contains n then [] else [n]:=by
 unfold left
 rw [List.range_succ,List.filter_append]
 congr 1
 cases h:gs.contains n
 ·rw [List.filter_cons,if_pos (by rw [h];rfl)];rfl
 ·rw [List.filter_cons,if_neg (by rw [h];decide)];rfl
theorem left_zero (gs:List Nat):left 0 gs=[]:=rfl
theorem left_le (n:Nat)(gs:List Nat):(left n gs).length≤n:=by
 unfold left
 have:=List.length_filter_le (fun c => !gs.contains c) (List.range n)
 simpa using this
theorem flat4 (l:List Nat)(f:Nat→Nat):(l.flatMap (four f)).length=4 * l.length:=by
 induction l with
 | nil=>rfl
 | cons a l ih=>rw [List.flatMap_cons,List.length_append,ih,List.length_cons];unfold four;simp only [List.length_cons,List.length_nil];omega
theorem shrM_len (gs:List Nat)(n:Nat)(mt:List Nat):(shrM gs n mt).length=4 * (left n gs).length:=flat4 _ _
theorem shrS_len (gs:List Nat)(sg:List Int):(shrS gs sg).length=(left sg.length gs).length:=by unfold shrS;rw [List.length_map]
theorem left_one {n c:Nat}(h:c<n):(left n [c]).length+1=n:=by
 induction n with
 | zero=>omega
 | succ n ih =>
   rw [left_succ]
   by_cases e:c=n
   ·subst e
    have:∀k,k≤c→(left k [c]).length=k:=by
     intro k
     induction k with
     | zero=>intro _;rfl
     | succ k ihk => intro hk; rw [left_succ, List.length_append, ihk (by omega)]; have : [c].contains k = false := by simp; omega
                     rw [this];rfl
    have h2:=this c (Nat.le_refl _)
    simp [h2]
   ·have h2:=ih (by omega)
    have:[c].contains n=false:=by simp;omega
    rw [this,List.length_append]
    simp
    omega
theorem left_two {n x y:Nat}(h:x<y)(hy:y<n):(left n [x,y]).length+2=n:=by
 induction n with
 | zero=>omega
 | succ n ih =>
   rw [left_succ,List.length_append]
   by_cases e:y=n
   ·subst e
    have:∀k,k≤y→left k [x,y]=left k [x]:=by
     intro k
     induction k with
     | zero=>intro _;rfl
     | succ k ihk =>
       intro hk
       rw [left_succ,left_succ,ihk (by omega)]
       congr 1
       have:([x,y].contains k)=([x].contains k):=by
        rw [Bool.eq_iff_iff];simp;omega
       rw [this]
    rw [this y (Nat.le_refl _)]
    have:=left_one h
    simp
    omega
   ·have h2:=ih (by omega)
    have:[x,y].contains n=false:=by simp;omega
    rw [this]
    simp
    omega
def Few (gs:List Nat):Prop:=∀q:Nat,(gs.filter (fun c=>decide (c<q))).length≤q
theorem few_one (c:Nat):Few [c]:=by
 intro q
 by_cases e:c<q
 ·simp [List.filter_cons,e];omega
 ·simp [List.filter_cons,e]
theorem few_two {x y:Nat}(h:x<y):Few [x,y]:=by
 intro q
 by_cases e:x<q <;> by_cases e2:y<q <;> simp [List.filter_cons,e,e2] <;> omega
theorem shf_le {gs:List Nat}(hf:Few gs)(h:Nat):4 * (gs.filter (fun c=>decide (c<h / 4))).length≤h:=by
 have:=hf (h / 4)
 omega
end Go.Proofs.YtdgliimmnnhhjaaGreatDoor.Pl
end
section
namespace Go.Proofs.YtdgliimmnnhhjaaGreatDoor.Pl
section
variable {N M:Nat} {S T:Nat→Prop} {r a r' a' t:Nat→Nat}
theorem it_map {f f':Nat→Nat}(hS:∀x,S x→S (f x))(e:∀x,S x→f' (t x)=t (f x)){x:Nat}(hx:S x):∀k,it f' k (t x)=t (it f k x)∧S (it f k x)
 | 0=>⟨rfl,hx⟩
 | k + 1 => by
   obtain ⟨h1,h2⟩:=it_map hS e hx k
   exact ⟨by show f' (it f' k (t x))=t (f (it f k x));rw [h1,e _ h2],hS _ h2⟩
theorem orb_map {f f':Nat→Nat}(hS:∀x,S x→S (f x))(e:∀x,S x→f' (t x)=t (f x))(inj:∀x y,S x→S y→t x=t y→x=y){x y:Nat}(hx:S x)(hy:S y):Orb f x y↔Orb f' (t x) (t y):=by
 constructor
 ·rintro ⟨k,rfl⟩;exact ⟨k,(it_map hS e hx k).1⟩
 ·rintro ⟨k,h⟩
  obtain ⟨h1,h2⟩:=it_map hS e hx k
  exact ⟨k,inj _ _ h2 hy (by rw [←h1,h])⟩
theorem con_map {x y:Nat}(hS:∀x,S x→S (r x))(hA:∀x,S x→S (a x))(er:∀x,S x→r' (t x)=t (r x))(ea:∀x,S x→a' (t x)=t (a x))(inj:∀x y,S x→S y→t x=t y→x=y)(hx:S x)(hy:S y):Con r a x y↔Con r' a' (t x) (t y):=by
 have fw:∀{y},Con r a x y→Con r' a' (t x) (t y)∧S y:=by
  intro y e
  induction e with
  | refl=>exact ⟨.refl,hx⟩
  | left _ ih=>exact ⟨er _ ih.2 ▸ ih.1.left,hS _ ih.2⟩
  | right _ ih=>exact ⟨ea _ ih.2 ▸ ih.1.right,hA _ ih.2⟩
 have bw:∀{v},Con r' a' (t x) v→∃y,S y∧t y=v∧Con r a x y:=by
  intro v e
  induction e with
  | refl=>exact ⟨x,hx,rfl,.refl⟩
  | left _ ih=>obtain ⟨y,h1,rfl,h3⟩:=ih;exact ⟨r y,hS _ h1,(er _ h1).symm,h3.left⟩
  | right _ ih=>obtain ⟨y,h1,rfl,h3⟩:=ih;exact ⟨a y,hA _ h1,(ea _ h1).symm,h3.right⟩
 constructor
 ·intro e;exact (fw e).1
 ·intro e
  obtain ⟨y',h1,h2,h3⟩:=bw e
  rw [←inj _ _ h1 hy h2];exact h3
theorem Gen.map (hS:∀x,S x→S (r x))(hA:∀x,S x→S (a x))(er:∀x,S x→r' (t x)=t (r x))(ea:∀x,S x→a' (t x)=t (a x))(inj:∀x y,S x→S y→t x=t y→x=y)
 (hto:∀x,S x→T (t x)) (onto:∀y,T y→∃x,S x∧t x=y) {z:Int} (h:Gen S r a z):Gen T r' a' z:=by
 obtain ⟨v,d,k,f,c,h1,h2,h3,h4,h5,rfl⟩:=h
 refine ⟨v,d,k,f,c,h1.map t hto onto fun x y hx hy=>orb_map hS er inj hx hy,h2.map t hto onto fun x y hx hy=>⟨fun e=>by rw [e],fun e=>inj x y hx hy e⟩,h3.map t hto onto fun x y hx hy=>orb_map hA ea inj hx hy,
  h4.map t hto onto fun x y hx hy=>orb_map (fun x hx=>hS _ (hA x hx)) (fun x hx=>?_) inj hx hy,h5.map t hto onto fun x y hx hy=>con_map hS hA er ea inj hx hy,rfl⟩
 unfold phi
 rw [ea x hx,er _ (hA x hx)]
theorem Flat.sub {U:Nat→Prop}(h:Hm N S r a)(h':Hm N T r a)(hd:∀x,S x→¬T x)(hu:∀x,(S x∨T x)↔U x)(hf:Flat U r a):Flat S r a:=by
 obtain ⟨z,hz⟩:=h.gen
 obtain ⟨z',hz'⟩:=h'.gen
 have n1:=Gen.nonneg h hz
 have n2:=Gen.nonneg h' hz'
 have e:(fun x=>S x∨T x)=U:=funext fun x=>propext (hu x)
 have hs:=Gen.add h h' hd hz hz'
 rw [e] at hs
 have:=hf.unique hs
 have:z=0:=by omega
 rw [this] at hz
 exact hz
end
def idx (gs:List Nat)(c:Nat):Nat:=c - (gs.filter (fun g=>decide (g<c))).length
variable {gs:List Nat}
theorem shf_idx (hf:Few gs)(h:Nat):shf gs h=4 * idx gs (h / 4)+h % 4:=by
 have:=hf (h / 4)
 unfold shf idx
 omega
theorem flt_succ (c:Nat):∀gs:List Nat,gs.Nodup→(gs.filter (fun g=>decide (g<c+1))).length=(gs.filter (fun g=>decide (g<c))).length+if c ∈ gs then 1 else 0
 | [],_=>by simp
 | g :: gs, hn => by
   obtain ⟨h1,h2⟩:=List.nodup_cons.1 hn
   have ih:=flt_succ c gs h2
   rw [List.filter_cons,List.filter_cons]
   by_cases e:c=g
   ·subst e
    rw [if_neg h1] at ih
    simp [ih]
   ·by_cases e2:g<c
    ·simp [e2,show g<c+1 by omega,e,ih];omega
    ·simp [e2,show ¬g<c+1 by omega,e,ih]
theorem left_idx (hn:gs.Nodup)(c:Nat):(gs.filter (fun g=>decide (g<c))).length+(left c gs).length=c:=by
 induction c with
 | zero=>simp [left]
 | succ c ih =>
   rw [flt_succ c gs hn,left_succ,List.length_append]
   by_cases e:c ∈ gs <;> simp [e] <;> omega
theorem idx_left (hn:gs.Nodup)(c:Nat):idx gs c=(left c gs).length:=by
 have:=left_idx hn c
 unfold idx;omega
theorem left_get (hn:gs.Nodup){n c:Nat}(hc:c<n)(hg:c ∉ gs):(left n gs)[idx gs c]? = some c:=by
 induction n with
 | zero=>omega
 | succ n ih =>
   rw [left_succ]
   by_cases e:c=n
   ·subst e
    rw [idx_left hn,List.getElem?_append_right (Nat.le_refl _)]
    simp [hg]
   ·have h:=ih (by omega)
    have hl:idx gs c<(left n gs).length:=by
     rcases Nat.lt_or_ge (idx gs c) (left n gs).length with h1 | h1
     ·exact h1
     ·rw [List.getElem?_eq_none h1] at h;exact absurd h (by simp)
    rw [List.getElem?_append_left hl,h]
theorem idx_lt (hn:gs.Nodup){n c:Nat}(hc:c<n)(hg:c ∉ gs):idx gs c<(left n gs).length:=by
 have h:=left_get hn hc hg
 rcases Nat.lt_or_ge (idx gs c) (left n gs).length with h1 | h1
 ·exact h1
 ·rw [List.getElem?_eq_none h1] at h;exact absurd h (by simp)
theorem idx_onto (hn:gs.Nodup){n i:Nat}(hi:i<(left n gs).length):∃c,c<n∧c ∉ gs∧idx gs c=i:=by
 induction n with
 | zero=>simp [left] at hi
 | succ n ih =>
   rcases Nat.lt_or_ge i (left n gs).length with h | h
   ·obtain ⟨c,h1,h2,h3⟩:=ih h
    exact ⟨c,by omega,h2,h3⟩
   ·rw [left_succ,List.length_append] at hi
    by_cases e:n ∈ gs
    ·simp [e] at hi;omega
    ·simp [e] at hi
     exact ⟨n,by omega,e,by rw [idx_left hn];omega⟩
theorem idx_inj (hn:gs.Nodup){c c':Nat}(hg:c ∉ gs)(hg':c' ∉ gs)(e:idx gs c=idx gs c'):c=c':=by
 have h1:=left_get hn (n:=c+c'+1) (by omega) hg
 have h2:=left_get hn (n:=c+c'+1) (c:=c') (by omega) hg'
 rw [e,h2] at h1
 injection h1 with h1
 exact h1.symm
theorem four_get (f:Nat→Nat){s:Nat}(hs:s<4):∀(l:List Nat) (i:Nat),(l.flatMap (four f))[4 * i+s]? = l[i]?.map (fun c=>f (4 * c+s))
 | [],i=>by simp
 | c :: l, 0 => by
   rw [List.flatMap_cons]
   have:s=0∨s=1∨s=2∨s=3:=by omega
   rcases this with rfl | rfl | rfl | rfl <;> simp [four]
 | c :: l, i + 1 => by
   have ih:=four_get f hs l i
   rw [List.flatMap_cons,List.getElem?_append_right (by simp [four];omega)]
   have:4 * (i+1)+s - (four f c).length=4 * i+s:=by simp [four];omega
   rw [this,ih]
   simp
def rsD (d:Dg)(gs mt:List Nat)(lp:Nat):Dg:=⟨shrS gs d.sg,shrM gs d.n mt,lp⟩
theorem rs_n (d:Dg)(gs mt:List Nat)(lp:Nat):(rsD d gs mt lp).n=(left d.n gs).length:=shrS_len gs d.sg
theorem rs_s (hn:gs.Nodup)(d:Dg)(mt:List Nat)(lp:Nat){c:Nat}(hc:c<d.n)(hg:c ∉ gs):(rsD d gs mt lp).s (idx gs c)=d.s c:=by
 unfold rsD Dg.s shrS
 have e:=left_get hn hc hg
 unfold Dg.n at e
 rw [List.getD_eq_getElem?_getD,List.getElem?_map,e]
 rfl
theorem rs_m (hn:gs.Nodup)(hf:Few gs)(d:Dg)(mt:List Nat)(lp:Nat){h:Nat}(hh:h<4 * d.n)(hg:h / 4 ∉ gs):(rsD d gs mt lp).m (shf gs h)=shf gs (mt.getD h 0):=by
 unfold rsD Dg.m shrM
 rw [List.getD_eq_getElem?_getD,shf_idx hf h,four_get _ (Nat.mod_lt _ (by omega)),left_get hn (by omega) hg]
 simp only [Option.map_some,Option.getD_some]
 rw [show 4 * (h / 4)+h % 4=h by omega]
def stay (d:Dg)(gs:List Nat)(h:Nat):Prop:=h<4 * d.n∧h / 4 ∉ gs
def gone (d:Dg)(gs:List Nat)(h:Nat):Prop:=h<4 * d.n∧h / 4 ∈ gs
theorem shf_lt (hn:gs.Nodup)(hf:Few gs){d:Dg}(mt:List Nat)(lp:Nat){h:Nat}(hh:stay d gs h):shf gs h<4 * (rsD d gs mt lp).n:=by
 rw [rs_n,shf_idx hf]
 have:=idx_lt hn (n:=d.n) (c:=h / 4) (by have:=hh.1;omega) hh.2
 omega
theorem shf_inj (hn:gs.Nodup)(hf:Few gs){g h:Nat}(h1:g / 4 ∉ gs)(h2:h / 4 ∉ gs)(e:shf gs g=shf gs h):g=h:=by
 rw [shf_idx hf,shf_idx hf] at e
 have:=idx_inj hn h1 h2 (by omega)
 omega
theorem shf_onto (hn:gs.Nodup)(hf:Few gs){d:Dg}(mt:List Nat)(lp:Nat){y:Nat}(hy:y<4 * (rsD d gs mt lp).n):∃h,stay d gs h∧shf gs h=y:=by
 rw [rs_n] at hy
 obtain ⟨c,h1,h2,h3⟩:=idx_onto hn (n:=d.n) (i:=y / 4) (by omega)
 refine ⟨4 * c+y % 4,⟨by omega,by rw [show (4 * c+y % 4) / 4=c by omega];exact h2⟩,?_⟩
 rw [shf_idx hf,show (4 * c+y % 4) / 4=c by omega,h3]
 omega
theorem shf_tn (hf:Few gs)(h k:Nat):tn (shf gs h) k=shf gs (tn h k):=by
 rw [shf_idx hf,shf_idx hf,tn_div]
 unfold tn
 omega
theorem shf_div (hf:Few gs)(h:Nat):shf gs h / 4=idx gs (h / 4):=by rw [shf_idx hf];omega
theorem rs_out (hn:gs.Nodup)(hf:Few gs)(d:Dg)(mt:List Nat)(lp:Nat){h:Nat}(hh:stay d gs h):out (rsD d gs mt lp) (shf gs h)=out d h:=by
 have e:=rs_s hn d mt lp (c:=h / 4) (by have:=hh.1;omega) hh.2
 have e2:shf gs h % 4=h % 4:=by rw [shf_idx hf];omega
 unfold out
 rw [shf_div hf,e,e2]
structure Rs (d:Dg) (gs mt:List Nat) (lp:Nat) (b:Nat→Nat):Prop where
 nd:gs.Nodup
 few:Few gs
 hm:Hm (4 * d.n) (dart d) rot b
 cl:∀h,gone d gs h→b h / 4 ∈ gs
 at_:∀h,stay d gs h→mt.getD h 0=b h
 way:∀h,stay d gs h→out d h≠out d (b h)
 lp:lp≤64
variable {d:Dg} {mt:List Nat} {lp:Nat} {b:Nat→Nat}
theorem Rs.stay (R:Rs d gs mt lp b){h:Nat}(hh:stay d gs h):stay d gs (b h):=by
 have hl:=R.hm.ab.maps h hh.1
 refine ⟨hl,fun e=>hh.2 ?_⟩
 have:=R.cl (b h) ⟨hl,e⟩
 rwa [R.hm.inv h hh.1] at this
theorem Rs.m (R:Rs d gs mt lp b){h:Nat}(hh:Pl.stay d gs h):(rsD d gs mt lp).m (shf gs h)=shf gs (b h):=by
 rw [rs_m R.nd R.few d mt lp hh.1 hh.2,R.at_ h hh]
theorem rot_stay {h:Nat}(hh:stay d gs h):stay d gs (rot h):=⟨tn_lt hh.1,by show tn h 3 / 4 ∉ gs;rw [tn_div];exact hh.2⟩
theorem tn_stay {h k:Nat}(hh:stay d gs h):stay d gs (tn h k):=⟨tn_lt hh.1,by rw [tn_div];exact hh.2⟩
theorem rot_gone {h:Nat}(hh:gone d gs h):gone d gs (rot h):=⟨tn_lt hh.1,by show tn h 3 / 4 ∈ gs;rw [tn_div];exact hh.2⟩
theorem Rs.wf (hd:Wf d)(R:Rs d gs mt lp b):Wf (rsD d gs mt lp):=by
 have hle:=left_le d.n gs
 refine wf_by (by rw [rs_n];have:=hd.few;omega) (by rw [rs_n];exact shrM_len gs d.n mt) R.lp (fun c hc=>?_) (fun z hz=>?_)
 ·rw [rs_n] at hc
  obtain ⟨c,h1,h2,rfl⟩:=idx_onto R.nd hc
  rw [rs_s R.nd d mt lp h1 h2]
  exact hd.sign c h1
 ·obtain ⟨h,hs,rfl⟩:=shf_onto R.nd R.few mt lp hz
  have hb:=R.stay hs
  rw [R.m hs,R.m hb,R.hm.inv h hs.1,rs_out R.nd R.few d mt lp hs,rs_out R.nd R.few d mt lp hb]
  exact ⟨shf_lt R.nd R.few mt lp hb,rfl,R.way h hs⟩
theorem Rs.valid (hd:Wf d)(R:Rs d gs mt lp b)(hf:Flat (dart d) rot b):Valid (rsD d gs mt lp):=by
 refine Valid.iff.2 ⟨R.wf hd,?_⟩
 have h1:Hm (4 * d.n) (Pl.stay d gs) rot b:=⟨⟨fun _ h=>h.1,fun _ h=>rot_stay h,fun x y hx hy e=>R.hm.rb.inj x y hx.1 hy.1 e⟩,⟨fun _ h=>h.1,fun _ h=>R.stay h,fun x y hx hy e=>R.hm.ab.inj x y hx.1 hy.1 e⟩,fun x hx=>R.hm.inv x hx.1⟩
 have h2:Hm (4 * d.n) (gone d gs) rot b:=⟨⟨fun _ h=>h.1,fun _ h=>rot_gone h,fun x y hx hy e=>R.hm.rb.inj x y hx.1 hy.1 e⟩,⟨fun _ h=>h.1,fun x h=>⟨R.hm.ab.maps x h.1,R.cl x h⟩,fun x y hx hy e=>R.hm.ab.inj x y hx.1 hy.1 e⟩,fun x hx=>R.hm.inv x hx.1⟩
 have fs:Flat (Pl.stay d gs) rot b:=Flat.sub h1 h2 (fun x hx hy=>hx.2 hy.2) (fun x=>⟨fun h=>h.elim (·.1) (·.1),fun h=>(Classical.em (x / 4 ∈ gs)).elim (fun e => .inr ⟨h,e⟩) (fun e => .inl ⟨h,e⟩)⟩) hf
 exact Gen.map (S:=Pl.stay d gs) (t:=shf gs) (fun x hx=>rot_stay hx) (fun x hx=>R.stay hx) (fun x hx=>shf_tn R.few x 3) (fun x hx=>R.m hx) (fun x y hx hy e=>shf_inj R.nd R.few hx.2 hy.2 e) (fun x hx=>shf_lt R.nd R.few mt lp hx) (fun y hy=>shf_onto R.nd R.few mt lp hy) fs
end Go.Proofs.YtdgliimmnnhhjaaGreatDoor.Pl
end
section
namespace Go.Proofs.YtdgliimmnnhhjaaGreatDoor.Pl
theorem out_opp {d:Dg}(hd:Wf d){h:Nat}(hh:h<4 * d.n):out d (tn h 2) = !out d h:=by
 have s:=hd.sign (h / 4) (by omega)
 unfold out
 rw [tn_div,tn_mod]
 generalize d.s (h / 4)=s at *
 have ha:h % 4=0∨h % 4=1∨h % 4=2∨h % 4=3:=by omega
 rcases ha with a | a | a | a <;> rw [a] <;> rcases s with rfl | rfl <;> rfl
end Go.Proofs.YtdgliimmnnhhjaaGreatDoor.Pl
end
section
namespace Go.Proofs.YtdgliimmnnhhjaaGreatDoor.Pl
variable {d:Dg}
theorem rot_rot (h:Nat):rot (rot h)=tn h 2:=by unfold rot;rw [tn_tn];unfold tn;omega
theorem st_bij (hd:Wf d):Bij (4 * d.n) (dart d) (st d) :=
 ⟨fun _ h=>h,fun x hx=>tn_lt (hd.lt x hx),fun x y hx hy e=>hd.bij.inj x y hx hy (tn_inj e)⟩
theorem out_st (hd:Wf d){h:Nat}(hh:h<4 * d.n):out d (st d h)=out d h:=by
 unfold st
 rw [out_opp hd (hd.lt h hh),out_way hd hh,Bool.not_not]
theorem out_it (hd:Wf d){h:Nat}(hh:h<4 * d.n):∀k,out d (it (st d) k h)=out d h
 | 0=>rfl
 | k + 1 => by
   show out d (st d (it (st d) k h))=_
   rw [out_st hd ((st_bij hd).it k h hh),out_it hd hh k]
theorem least_back {N:Nat}{S:Nat→Prop}{f:Nat→Nat}(h:Bij N S f){x:Nat}(hx:S x):∃p,0<p∧it f p x=x∧∀j,0<j→j<p→it f j x≠x:=by
 obtain ⟨p,p0,_,e⟩:=h.back hx
 obtain ⟨q,⟨q0,hq⟩,hmin⟩:=least_of (p:=fun k=>0<k∧it f k x=x) p ⟨p0,e⟩
 exact ⟨q,q0,hq,fun j j0 jq e2=>by have:=hmin j ⟨j0,e2⟩;omega⟩
theorem no_opp (hd:Valid d){o:Nat}(ho:o<4 * d.n):d.m o≠tn o 2:=by
 intro he
 have hv:=Valid.iff.1 hd
 have hw:=hv.1
 have hm:=hw.hm
 have ho2:tn o 2<4 * d.n:=tn_lt ho
 have hne:o≠tn o 2:=fun e=>hw.ne o ho (by rw [he];exact e.symm)
 -- the half-edge q of the other strand that comes in,p that goes out
 obtain ⟨p,q,hpq,hqp,hcase,hop,hoq⟩:∃p q,q=tn p 2∧p=tn q 2∧(q=tn o 1∨q=tn o 3)∧out d p=true∧out d q=false:=by
  have h1:out d (tn (tn o 1) 2) = !out d (tn o 1):=out_opp hw (tn_lt ho)
  rw [tn_tn] at h1
  cases e:out d (tn o 1) with
  | true=>exact ⟨tn o 1,tn o 3,by rw [tn_tn],by rw [tn_tn];unfold tn;omega,.inr rfl,e,by rw [h1,e];rfl⟩
  | false=>exact ⟨tn o 3,tn o 1,by rw [tn_tn];unfold tn;omega,by rw [tn_tn],.inl rfl,by rw [h1,e];rfl,e⟩
 have hq:q<4 * d.n:=by rcases hcase with rfl | rfl <;> exact tn_lt ho
 have hp:p<4 * d.n:=by rw [hqp];exact tn_lt hq
 have qo:q≠o:=by rcases hcase with rfl | rfl <;> (unfold tn;omega)
 have qo2:q≠tn o 2:=by rcases hcase with rfl | rfl <;> (unfold tn;omega)
 have po:p≠o:=by rw [hqp];rcases hcase with rfl | rfl <;> (unfold tn;omega)
 have po2:p≠tn o 2:=by rw [hqp];rcases hcase with rfl | rfl <;> (unfold tn;omega)
 obtain ⟨y,hy⟩:∃y,y=d.m q:=⟨_,rfl⟩
 have hyl:y<4 * d.n:=by rw [hy];exact hw.lt q hq
 have hyq:d.m y=q:=by rw [hy,hw.inv q hq]
 have yo:y≠o:=fun e=>by rw [e,he] at hyq;exact qo2 hyq.symm
 have hmo2:d.m (tn o 2)=o:=by rw [←he,hw.inv o ho]
 have yo2:y≠tn o 2:=fun e=>by rw [e,hmo2] at hyq;exact qo hyq.symm
 have qy:q≠y:=fun e=>hw.ne q hq (by rw [←hy];exact e.symm)
 -- without the edge o
 obtain ⟨c1,c2,c3⟩:=Hm.cut hm ho (hw.ne o ho)
 rw [he] at c1 c2 c3
 obtain ⟨a0,ha0⟩:∃a0,a0=tr d.m o (tn o 2):=⟨_,rfl⟩
 rw [←ha0] at c1 c2 c3
 have a0e:tr a0 o (tn o 2)=d.m:=by rw [ha0,tr_tr]
 obtain ⟨f0,k0⟩:=Flat.del c1 ho ho2 hne c2 c3 (by rw [a0e];exact hv.2)
 have a0q:a0 q=y:=by rw [ha0,tr_ne qo qo2,hy]
 have a0y:a0 y=q:=by rw [ha0,tr_ne yo yo2,hyq]
 -- and without the edge q
 obtain ⟨d1,d2,d3⟩:=Hm.cut c1 hq (by rw [a0q];exact Ne.symm qy)
 rw [a0q] at d1 d2 d3
 obtain ⟨a1,ha1⟩:∃a1,a1=tr a0 q y:=⟨_,rfl⟩
 rw [←ha1] at d1 d2 d3
 have a1e:tr a1 q y=a0:=by rw [ha1,tr_tr]
 obtain ⟨f1,k1⟩:=Flat.del d1 hq hyl qy d2 d3 (by rw [a1e];exact f0)
 have a1z:∀z,z≠o→z≠tn o 2→z≠q→z≠y→a1 z=d.m z:=fun z z1 z2 z3 z4=>by rw [ha1,tr_ne z3 z4,ha0,tr_ne z1 z2]
 have rr:∀z,Con rot a1 z (tn z 2):=fun z=>by rw [←rot_rot];exact (Con.refl.left).left
 -- the strand of p comes back along q's edge
 have hsb:=st_bij hw
 have fo:st d o=o:=by unfold st;rw [he,tn_tn];exact tn_four o
 have fo2:st d (tn o 2)=tn o 2:=by unfold st;rw [hmo2]
 obtain ⟨k,kp,ke,kl⟩:=least_back hsb (x:=p) hp
 have run:∀j,j<k→Con rot a1 p (it (st d) j p):=by
  intro j
  induction j with
  | zero=>intro _;exact .refl
  | succ j ih =>
    intro hj
    have h1:=ih (by omega)
    have hz:=hsb.it j p hp
    obtain ⟨z,ez⟩:∃z,z=it (st d) j p:=⟨_,rfl⟩
    show Con rot a1 p (st d (it (st d) j p))
    rw [←ez] at h1 hz ⊢
    have hfix:∀w,dart d w→st d w=w→z≠w→True:=fun _ _ _ _=>trivial
    have zo:z≠o:=fun e=>by
     have e2:it (st d) j p=it (st d) j o:=by
      rw [←ez,e]
      have:∀i,it (st d) i o=o:=fun i=>by
       induction i with
       | zero=>rfl
       | succ i ih=>show st d (it (st d) i o)=o;rw [ih,fo]
      exact (this j).symm
     exact po (hsb.it_inj j p o hp ho e2)
    have zo2:z≠tn o 2:=fun e=>by
     have e2:it (st d) j p=it (st d) j (tn o 2):=by
      rw [←ez,e]
      have:∀i,it (st d) i (tn o 2)=tn o 2:=fun i=>by
       induction i with
       | zero=>rfl
       | succ i ih=>show st d (it (st d) i (tn o 2))=tn o 2;rw [ih,fo2]
      exact (this j).symm
     exact po2 (hsb.it_inj j p _ hp ho2 e2)
    have zq:z≠q:=fun e=>by
     have:=out_it hw hp j
     rw [←ez,e,hop,hoq] at this
     exact absurd this (by decide)
    have zy:z≠y:=fun e=>by
     apply kl (j+1) (by omega) hj
     show st d (it (st d) j p)=p
     rw [←ez,e]
     unfold st
     rw [hyq,←hqp]
    have e3:a1 z=d.m z:=a1z z zo zo2 zq zy
    have h2:Con rot a1 p (d.m z):=by rw [←e3];exact h1.right
    exact h2.trans (rr (d.m z))
 have hlast:it (st d) (k - 1) p=y:=by
  have e:st d (it (st d) (k - 1) p)=p:=by
   have:it (st d) (k - 1+1) p=p:=by rw [show k - 1+1=k by omega];exact ke
   exact this
  have hz:=hsb.it (k - 1) p hp
  have e2:st d y=p:=by unfold st;rw [hyq,←hqp]
  exact hsb.inj _ _ hz hyl (e.trans e2.symm)
 have cpy:Con rot a1 p y:=by have:=run (k - 1) (by omega);rwa [hlast] at this
 have cqy:Con rot a1 q y:=by
  have:=rr q
  rw [←hqp] at this
  exact this.trans cpy
 have hn:¬Orb (phi rot a0) q y:=by
  rw [←a1e,phi_tr]
  exact d1.pb.part hq hyl qy (k1 cqy)
 have coo:Con rot a0 o (tn o 2):=by rw [←rot_rot];exact (Con.refl.left).left
 have ooo:=k0 coo
 have py:phi rot a0 y=rot q:=by unfold phi;rw [a0y]
 have po':phi rot a0 o=rot o:=by unfold phi;rw [c2]
 have po2':phi rot a0 (tn o 2)=rot (tn o 2):=by unfold phi;rw [c3]
 have sym:=fun {x y} (hx:dart d x) (e:Orb (phi rot a0) x y)=>c1.pb.symm hx e
 rcases hcase with e | e
 ·-- q=tn o 1: o2 goes to q,y goes to o
  have s1:Orb (phi rot a0) (tn o 2) q:=by
   have:=Orb.step (phi rot a0) (tn o 2)
   rw [po2',show rot (tn o 2)=q by rw [e];unfold rot;rw [tn_tn];unfold tn;omega] at this
   exact this
  have s2:Orb (phi rot a0) y o:=by
   have:=Orb.step (phi rot a0) y
   rw [py,show rot q=o by rw [e];unfold rot;rw [tn_tn];exact tn_four o] at this
   exact this
  exact hn (sym hyl (s2.trans (ooo.trans s1)))
 ·have s1 : Orb (phi rot a0) o q := by
   have:=Orb.step (phi rot a0) o
   rw [po',show rot o=q by rw [e];rfl] at this
   exact this
  have s2:Orb (phi rot a0) y (tn o 2):=by
   have:=Orb.step (phi rot a0) y
   rw [py,show rot q=tn o 2 by rw [e];unfold rot;rw [tn_tn];unfold tn;omega] at this
   exact this
  exact hn (sym hyl (s2.trans ((sym ho ooo).trans s1)))
end Go.Proofs.YtdgliimmnnhhjaaGreatDoor.Pl
end
section
namespace Go.Proofs.YtdgliimmnnhhjaaGreatDoor.Pl
def jl (l:List Nat)(a b:Nat):List Nat:=(l.set a b).set b a
theorem jl_len (l:List Nat)(a b:Nat):(jl l a b).length=l.length:=by unfold jl;simp
theorem jset_getD (l:List Nat)(a v z:Nat)(ha:a<l.length):(l.set a v).getD z 0=if z=a then v else l.getD z 0:=by
 rw [List.getD_eq_getElem?_getD,List.getD_eq_getElem?_getD,List.getElem?_set]
 by_cases e:a=z
 ·subst e;simp [ha]
 ·rw [if_neg e,if_neg (Ne.symm e)]
theorem jl_at {l:List Nat}{a b:Nat}(ha:a<l.length)(hb:b<l.length)(z:Nat):(jl l a b).getD z 0=if z=b then a else if z=a then b else l.getD z 0:=by
 unfold jl
 rw [jset_getD _ _ _ _ (by simpa using hb),jset_getD _ _ _ _ ha]
theorem tr_fix {a:Nat→Nat}{x y z:Nat}(hne:x≠y)(fx:a x=x)(fy:a y=y)(e:tr a x y z=z):a z=z∧z≠x∧z≠y:=by
 by_cases h1:z=x
 ·subst h1;rw [tr_a,fy] at e;exact absurd e.symm hne
 ·by_cases h2:z=y
  ·subst h2;rw [tr_b,fx] at e;exact absurd e hne
  ·rw [tr_ne h1 h2] at e;exact ⟨e,h1,h2⟩
structure MS (M:Nat) (o:Nat→Bool) (l:List Nat) (a:Nat→Nat):Prop where
 hm:Hm (4 * M) (fun h=>h<4 * M) rot a
 fl:Flat (fun h=>h<4 * M) rot a
 wy:∀z,z<4 * M→a z≠z→o (a z) = !o z
 len:l.length=4 * M
 at_:∀z,z<4 * M→a z≠z→l.getD z 0=a z
section
variable {M:Nat} {o:Nat→Bool} {l:List Nat} {a:Nat→Nat}
theorem MS.join' (m:MS M o l a){x y:Nat}(hx:x<4 * M)(hy:y<4 * M)(hne:x≠y)(fx:a x=x)(fy:a y=y)(ho:o y = !o x)(hf:Flat (fun h=>h<4 * M) rot (tr a x y)):MS M o (jl l x y) (tr a x y):=by
 refine ⟨m.hm.tr hx hy fx fy,hf,fun z hz e=>?_,by rw [jl_len,m.len],fun z hz e=>?_⟩
 ·by_cases h1:z=x
  ·subst h1;rw [tr_a,fy,ho]
  ·by_cases h2:z=y
   ·subst h2;rw [tr_b,fx,ho,Bool.not_not]
   ·rw [tr_ne h1 h2] at e ⊢;exact m.wy z hz e
 ·rw [jl_at (by rw [m.len];exact hx) (by rw [m.len];exact hy)]
  by_cases h2:z=y
  ·subst h2;rw [if_pos rfl,tr_b,fx]
  ·rw [if_neg h2]
   by_cases h1:z=x
   ·subst h1;rw [if_pos rfl,tr_a,fy]
   ·rw [if_neg h1,tr_ne h1 h2];rw [tr_ne h1 h2] at e;exact m.at_ z hz e
theorem MS.join (m:MS M o l a){x y:Nat}(hx:x<4 * M)(hy:y<4 * M)(hne:x≠y)(fx:a x=x)(fy:a y=y)(ho:o y = !o x)(hc:Orb (phi rot a) x y∨Orb (phi rot a) y x∨¬Con rot a x y):MS M o (jl l x y) (tr a x y):=by
 refine m.join' hx hy hne fx fy ho (Flat.add m.hm hx hy hne fx fy (fun e=>?_) m.fl)
 rcases hc with h | h | h
 ·exact h
 ·exact m.hm.pb.symm hy h
 ·exact absurd e h
theorem MS.two (m:MS M o l a){x u v:Nat}(hx:x<4 * M)(hu:u<4 * M)(hv:v<4 * M)(huv:u≠v)(nx:a x≠x)(fu:a u=u)(fv:a v=v)(ou:o u = !o x)(ov:o v=o x)
 (hf:Flat (fun h=>h<4 * M) rot (tr (tr (tr a x (a x)) x u) v (a x))):MS M o (jl (jl l x u) v (a x)) (tr (tr (tr a x (a x)) x u) v (a x)):=by
 obtain ⟨c1,c2,c3⟩:=Hm.cut m.hm hx nx
 have hy:a x<4 * M:=m.hm.ab.maps x hx
 have xu:x≠u:=fun e=>nx (by rw [e];exact fu)
 have xv:x≠v:=fun e=>nx (by rw [e];exact fv)
 have yu:a x≠u:=fun e=>by have:=m.hm.inv x hx;rw [e,fu] at this;exact xu this.symm
 have yv:a x≠v:=fun e=>by have:=m.hm.inv x hx;rw [e,fv] at this;exact xv this.symm
 have fu1:tr a x (a x) u=u:=by rw [tr_ne (Ne.symm xu) (Ne.symm yu),fu]
 have fv1:tr a x (a x) v=v:=by rw [tr_ne (Ne.symm xv) (Ne.symm yv),fv]
 have h1:=c1.tr hx hu c2 fu1
 have fv2:tr (tr a x (a x)) x u v=v:=by rw [tr_ne (Ne.symm xv) (Ne.symm huv),fv1]
 have fy2:tr (tr a x (a x)) x u (a x)=a x:=by rw [tr_ne nx yu,c3]
 have oy:=m.wy x hx nx
 have e1:tr (tr (tr a x (a x)) x u) v (a x) x=u:=by rw [tr_ne xv (Ne.symm nx),tr_a,fu1]
 have e2:tr (tr (tr a x (a x)) x u) v (a x) u=x:=by rw [tr_ne huv (Ne.symm yu),tr_b,c2]
 have e3:tr (tr (tr a x (a x)) x u) v (a x) v=a x:=by rw [tr_a,fy2]
 have e4:tr (tr (tr a x (a x)) x u) v (a x) (a x)=v:=by rw [tr_b,fv2]
 have e5:∀z,z≠x→z≠u→z≠v→z≠a x→tr (tr (tr a x (a x)) x u) v (a x) z=a z:=fun z z1 z2 z3 z4=>by rw [tr_ne z3 z4,tr_ne z1 z2,tr_ne z1 z4]
 refine ⟨h1.tr hv hy fv2 fy2,hf,fun z hz e=>?_,by rw [jl_len,jl_len,m.len],fun z hz e=>?_⟩
 ·by_cases z1:z=x
  ·rw [z1,e1,ou]
  ·by_cases z2:z=u
   ·rw [z2,e2,ou,Bool.not_not]
   ·by_cases z3:z=v
    ·rw [z3,e3,oy,ov]
    ·by_cases z4:z=a x
     ·rw [z4,e4,oy,ov,Bool.not_not]
     ·rw [e5 z z1 z2 z3 z4] at e ⊢;exact m.wy z hz e
 ·rw [jl_at (by rw [jl_len,m.len];exact hv) (by rw [jl_len,m.len];exact hy)]
  by_cases z4:z=a x
  ·rw [if_pos z4,z4,e4]
  ·rw [if_neg z4]
   by_cases z3:z=v
   ·rw [if_pos z3,z3,e3]
   ·rw [if_neg z3,jl_at (by rw [m.len];exact hx) (by rw [m.len];exact hu)]
    by_cases z2:z=u
    ·rw [if_pos z2,z2,e2]
    ·rw [if_neg z2]
     by_cases z1:z=x
     ·rw [if_pos z1,z1,e1]
     ·rw [if_neg z1,e5 z z1 z2 z3 z4];rw [e5 z z1 z2 z3 z4] at e;exact m.at_ z hz e
theorem two_fix (m:MS M o l a){x u v z:Nat}(hx:x<4 * M)(hu:u<4 * M)(hv:v<4 * M)(huv:u≠v)(nx:a x≠x)(fu:a u=u)(fv:a v=v)(e:tr (tr (tr a x (a x)) x u) v (a x) z=z):a z=z∧z≠u∧z≠v:=by
 have xu:x≠u:=fun e=>nx (by rw [e];exact fu)
 have xv:x≠v:=fun e=>nx (by rw [e];exact fv)
 have yu:a x≠u:=fun e=>by have:=m.hm.inv x hx;rw [e,fu] at this;exact xu this.symm
 have yv:a x≠v:=fun e=>by have:=m.hm.inv x hx;rw [e,fv] at this;exact xv this.symm
 obtain ⟨c1,c2,c3⟩:=Hm.cut m.hm hx nx
 have fu1:tr a x (a x) u=u:=by rw [tr_ne (Ne.symm xu) (Ne.symm yu),fu]
 have fv1:tr a x (a x) v=v:=by rw [tr_ne (Ne.symm xv) (Ne.symm yv),fv]
 have fv2:tr (tr a x (a x)) x u v=v:=by rw [tr_ne (Ne.symm xv) (Ne.symm huv),fv1]
 have fy2:tr (tr a x (a x)) x u (a x)=a x:=by rw [tr_ne nx yu,c3]
 obtain ⟨g1,g2,g3⟩:=tr_fix (Ne.symm yv) fv2 fy2 e
 obtain ⟨g4,g5,g6⟩:=tr_fix xu c2 fu1 g1
 rw [tr_ne g5 g3] at g4
 exact ⟨g4,g6,g2⟩
theorem MS.detour (m:MS M o l a){x u v:Nat}(hx:x<4 * M)(hu:u<4 * M)(hv:v<4 * M)(huv:u≠v)(nx:a x≠x)(fu:a u=u)(fv:a v=v)(ou:o u = !o x)(ov:o v=o x)
 (n1:¬Con rot a x u) (ho:Orb (phi rot a) v u):MS M o (jl (jl l x u) v (a x)) (tr (tr (tr a x (a x)) x u) v (a x)):=by
 refine m.two hx hu hv huv nx fu fv ou ov ?_
 obtain ⟨c1,c2,c3⟩:=Hm.cut m.hm hx nx
 have hy:a x<4 * M:=m.hm.ab.maps x hx
 have xu:x≠u:=fun e=>nx (by rw [e];exact fu)
 have xv:x≠v:=fun e=>nx (by rw [e];exact fv)
 have yu:a x≠u:=fun e=>by have:=m.hm.inv x hx;rw [e,fu] at this;exact xu this.symm
 have yv:a x≠v:=fun e=>by have:=m.hm.inv x hx;rw [e,fv] at this;exact xv this.symm
 have fu1:tr a x (a x) u=u:=by rw [tr_ne (Ne.symm xu) (Ne.symm yu),fu]
 have fv1:tr a x (a x) v=v:=by rw [tr_ne (Ne.symm xv) (Ne.symm yv),fv]
 -- what the cut map holds together,the whole one does
 have up:∀{z w},z<4 * M→Con rot (tr a x (a x)) z w→Con rot a z w:=by
  intro z w hz e
  refine con_sub c1 m.hm.ceqv (fun t _=>Con.refl.left) (fun t ht=>?_) hz e
  by_cases t1:t=x
  ·subst t1;rw [c2];exact .refl
  ·by_cases t2:t=a x
   ·subst t2;rw [c3];exact .refl
   ·rw [tr_ne t1 t2];exact Con.refl.right
 have cxy:Con rot a x (a x):=Con.refl.right
 have k1:¬Con rot (tr a x (a x)) x u:=fun e=>n1 (up hx e)
 have k2:¬Con rot (tr a x (a x)) (a x) u:=fun e=>n1 (cxy.trans (up hy e))
 -- v's face does not come to x
 have ho2:Orb (phi rot (tr a x (a x))) v u:=by
  have cv:Con rot a v u:=orb_phi_con ho
  obtain ⟨k,hk⟩:=ho
  have run:∀j,it (phi rot (tr a x (a x))) j v=it (phi rot a) j v:=by
   intro j
   induction j with
   | zero=>rfl
   | succ j ih =>
     show phi rot (tr a x (a x)) (it (phi rot (tr a x (a x))) j v)=phi rot a (it (phi rot a) j v)
     rw [ih]
     have hz:=m.hm.pb.it j v hv
     have ov':Con rot a v (it (phi rot a) j v):=orb_phi_con ⟨j,rfl⟩
     have z1:it (phi rot a) j v≠x:=fun e=>n1 (by rw [e] at ov';exact (m.hm.con_symm hv ov').trans cv)
     have z2:it (phi rot a) j v≠a x:=fun e=>n1 (by rw [e] at ov';exact cxy.trans ((m.hm.con_symm hv ov').trans cv))
     show rot (tr a x (a x) (it (phi rot a) j v))=rot (a (it (phi rot a) j v))
     rw [tr_ne z1 z2]
  exact ⟨k,by rw [run];exact hk⟩
 have hg:Gen (fun h=>h<4 * M) rot (tr (tr a x (a x)) x (a x)) 0:=by rw [tr_tr];exact m.fl
 exact Gen.detour c1 hx hy hu hv (Ne.symm nx) huv c2 c3 fu1 fv1 k1 k2 ho2 hg
theorem MS.push (m:MS M o l a){y c e p:Nat}(hy:y<4 * M)(hc:c<4 * M)(he:e<4 * M)(ce:c≠e)(ny:a y≠y)(fc:a c=c)(fe:a e=e)(oc:o c = !o y)(oe:o e=o y)
 (e1:phi rot a e=p) (e2:phi rot a p=c) (py:p≠y) (pc:p≠c) (pyy:p≠a y) (hn:Orb (phi rot a) c y∨¬Con rot a c y):MS M o (jl (jl l y c) e (a y)) (tr (tr (tr a y (a y)) y c) e (a y)):=by
 refine m.two hy hc he ce ny fc fe oc oe ?_
 obtain ⟨c1,c2,c3⟩:=Hm.cut m.hm hy ny
 have hy':a y<4 * M:=m.hm.ab.maps y hy
 have yc:y≠c:=fun h=>ny (by rw [h];exact fc)
 have ye:y≠e:=fun h=>ny (by rw [h];exact fe)
 have yyc:a y≠c:=fun h=>by have:=m.hm.inv y hy;rw [h,fc] at this;exact yc this.symm
 have yye:a y≠e:=fun h=>by have:=m.hm.inv y hy;rw [h,fe] at this;exact ye this.symm
 refine Flat.push c1 (p:=p) hy hy' hc he (Ne.symm ny) yc ye ce yyc yye c2 c3 (by rw [tr_ne (Ne.symm yc) (Ne.symm yyc),fc]) (by rw [tr_ne (Ne.symm ye) (Ne.symm yye),fe]) ?_ ?_ py pc ?_ ?_
 ·unfold phi;rw [tr_ne (Ne.symm ye) (Ne.symm yye)];exact e1
 ·unfold phi;rw [tr_ne py pyy];exact e2
 ·rw [tr_tr];exact hn
 ·rw [tr_tr];exact m.fl
end
theorem MS.valid {d':Dg}{a:Nat→Nat}(m:MS d'.n (out d') d'.mt a)(few:d'.n≤64)(lp:d'.lp≤64)(sign:∀c,c<d'.n→d'.s c=1∨d'.s c = -1)(nf:∀z,z<4 * d'.n→a z≠z):Valid d':=by
 have e:∀z,z<4 * d'.n→d'.m z=a z:=fun z hz=>by
  rw [←m.at_ z hz (nf z hz)]
  unfold Dg.m
  rw [List.getD_eq_getElem?_getD,List.getD_eq_getElem?_getD,List.getElem?_eq_getElem (by rw [m.len];exact hz)]
  rfl
 refine Valid.iff.2 ⟨wf_by few m.len lp sign fun z hz=>?_,?_⟩
 ·have h2:=m.hm.ab.maps z hz
  rw [e z hz,e _ h2]
  refine ⟨h2,m.hm.inv z hz,?_⟩
  rw [m.wy z hz (nf z hz)]
  cases out d' z <;> decide
 ·exact Gen.congr m.hm (fun _ _=>rfl) (fun z hz=>(e z hz).symm) m.fl
end Go.Proofs.YtdgliimmnnhhjaaGreatDoor.Pl
end
section
namespace Go.Proofs.YtdgliimmnnhhjaaGreatDoor
open Go.RowKit
theorem hide {p:Prop}(h:p):Hid p:=h
theorem ret_bool {a b:Bool}(h:a=b):Ending.returned (.bool a)=Ending.returned (.bool b):=by rw [h]
theorem ret_int {k:IntKind}{a b:Int}(h:a=b):Ending.returned (.int k a)=Ending.returned (.int k b):=by rw [h]
theorem lt_of_cell {w:World}{p:Addr}{v:Value}(h:w.cell? p=some v):p.block<w.heap.size:=by
 rcases Nat.lt_or_ge p.block w.heap.size with h1 | h1
 ·exact h1
 ·unfold World.cell? at h
  rw [Array.getElem?_eq_none h1] at h
  cases h
theorem cell_below {w w':World}{p:Addr}{v:Value}(h:w.cell? p=some v)(hb:Below w.heap.size w w'):w'.cell? p=some v :=
 (hb.cell (lt_of_cell h)).trans h
def RowAt (w:World)(A:Option Addr)(n:Nat)(xs:List Value):Prop :=
 xs.length=n∧(0<n→∃b o,A=some ⟨b,o,none⟩∧∀(j:Nat) u,xs[j]? = some u→w.cell? ⟨b,o+j,none⟩=some u)
theorem RowAt.nil (w:World):RowAt w none 0 []:=⟨rfl,fun h=>absurd h (by omega)⟩
theorem RowAt.keep {w w':World}{A:Option Addr}{n:Nat}{xs:List Value}(h:RowAt w A n xs)(hb:Below w.heap.size w w'):RowAt w' A n xs :=
 ⟨h.1,fun hn=>let ⟨b,o,e,hc⟩:=h.2 hn;⟨b,o,e,fun j u hu=>cell_below (hc j u hu) hb⟩⟩
theorem RowAt.at_ {w:World}{A:Option Addr}{n k:Nat}{xs:List Value}(h:RowAt w A n xs)(hk:k<n) :
 ∃b o,A=some ⟨b,o,none⟩∧w.cell? ⟨b,o+k,none⟩=some (xs[k]'(by have:=h.1;omega)):=by
 obtain ⟨b,o,e,hc⟩:=h.2 (by omega)
 have:=h.1
 exact ⟨b,o,e,hc k _ (List.getElem?_eq_getElem (by omega))⟩
def RowT (w:World)(t:TypeId)(A:Option Addr)(n:Nat)(xs:List Value):Prop :=
 xs.length=n∧(0<n→∃b o cs fr,A=some ⟨b,o,none⟩∧w.heap[b]? = some (.cells cs t fr)∧∀(j:Nat) u,xs[j]? = some u→cs[o+j]? = some u)
theorem RowT.row {w:World}{t:TypeId}{A:Option Addr}{n:Nat}{xs:List Value}(h:RowT w t A n xs):RowAt w A n xs :=
 ⟨h.1,fun hn=>let ⟨b,o,cs,fr,e,hb,hc⟩:=h.2 hn;⟨b,o,e,fun j u hu=>by rw [cell_of_row w b _ cs t fr hb];exact hc j u hu⟩⟩
theorem RowT.keep {w w':World}{t:TypeId}{A:Option Addr}{n:Nat}{xs:List Value}(h:RowT w t A n xs)(hb:Below w.heap.size w w'):RowT w' t A n xs :=
 ⟨h.1, fun hn => let ⟨b, o, cs, fr, e, hg, hc⟩ := h.2 hn; ⟨b, o, cs, fr, e, (hb.block b (by
   rcases Nat.lt_or_ge b w.heap.size with h1 | h1
   ·exact h1
   ·rw [Array.getElem?_eq_none h1] at hg;cases hg)).trans hg,hc⟩⟩
theorem RowT.grown {w w':World}{t t':TypeId}{A:Option Addr}{n:Nat}{xs:List Value}{row:Option Nat}(h:RowT w t A n xs)(hg:w.grownBy w' row)(hr:∀g,row=some g→∃cs fr,w.heap[g]? = some (.cells cs t' fr))(hne:t≠t'):RowT w' t A n xs :=
 ⟨h.1, fun hn => let ⟨b, o, cs, fr, e, hb, hc⟩ := h.2 hn; ⟨b, o, cs, fr, e, (hg.block b (by
   rcases Nat.lt_or_ge b w.heap.size with h1 | h1
   ·exact h1
   ·rw [Array.getElem?_eq_none h1] at hb;cases hb) (fun he=>by
    obtain ⟨cs',fr',h3⟩:=hr b he.symm
    rw [hb] at h3
    injection h3 with h3
    injection h3 with _ h4
    exact hne h4)).trans hb,hc⟩⟩
theorem ownsRow_block {w:World}{base:Nat}{e:TypeId}{size:Nat}{v:Value}{n:Nat}{xs:List Value}(h:w.ownsRow base e size v n xs):∀g,v.ownBlock=some g→∃cs fr,w.heap[g]? = some (.cells cs e fr):=by
 intro g hg
 rcases h.2 with ⟨rfl,_⟩ | ⟨g',cap,cur,rfl,_,h3,_⟩
 ·simp [Value.ownBlock] at hg
 ·simp [Value.ownBlock] at hg
  subst hg
  exact ⟨_,_,h3⟩
def IntsAt (w:World)(A:Option Addr)(n:Nat)(zs:List Int):Prop:=RowAt w A n (zs.map (.int .i64))
theorem IntsAt.keep {w w':World}{A:Option Addr}{n:Nat}{zs:List Int}(h:IntsAt w A n zs)(hb:Below w.heap.size w w'):IntsAt w' A n zs:=RowAt.keep h hb
theorem IntsAt.len {w:World}{A:Option Addr}{n:Nat}{zs:List Int}(h:IntsAt w A n zs):zs.length=n:=by have:=h.1;simpa using this
theorem IntsAt.at_ {w:World}{A:Option Addr}{n k:Nat}{zs:List Int}(h:IntsAt w A n zs)(hk:k<n) :
 ∃b o,A=some ⟨b,o,none⟩∧w.cell? ⟨b,o+k,none⟩=some (.int .i64 (zs.getD k 0)):=by
 obtain ⟨b,o,e,hc⟩:=RowAt.at_ h hk
 refine ⟨b,o,e,hc.trans ?_⟩
 have:=h.len
 rw [List.getElem_map,List.getD_eq_getElem?_getD,List.getElem?_eq_getElem (by omega)];rfl
def nats (l:List Nat):List Int:=l.map (fun m:Nat=>(m:Int))
structure DgAt (w:World) (A:Option Addr) (B:Option Addr) (d:Pl.Dg):Prop where
 s:IntsAt w A d.n d.sg
 m:IntsAt w B (4 * d.n) (nats d.mt)
theorem DgAt.keep {w w':World}{A B:Option Addr}{d:Pl.Dg}(h:DgAt w A B d)(hb:Below w.heap.size w w'):DgAt w' A B d:=⟨h.s.keep hb,h.m.keep hb⟩
theorem DgAt.sign {w:World}{A B:Option Addr}{d:Pl.Dg}(h:DgAt w A B d){c:Nat}(hc:c<d.n) :
 ∃b o,A=some ⟨b,o,none⟩∧w.cell? ⟨b,o+c,none⟩=some (.int .i64 (d.s c)):=h.s.at_ hc
theorem sign_at {w:World}{A:Option Addr}{d:Pl.Dg}(h:IntsAt w A d.n d.sg){c:Nat}(hc:c<d.n) :
 ∃b o,A=some ⟨b,o,none⟩∧w.cell? ⟨b,o+c,none⟩=some (.int .i64 (d.s c)):=h.at_ hc
theorem mate_at {w:World}{B:Option Addr}{d:Pl.Dg}(h:IntsAt w B (4 * d.n) (nats d.mt)){k:Nat}(hk:k<4 * d.n) :
 ∃b o,B=some ⟨b,o,none⟩∧w.cell? ⟨b,o+k,none⟩=some (.int .i64 (d.m k:Nat)):=by
 obtain ⟨b,o,e,hc⟩:=h.at_ hk
 refine ⟨b,o,e,hc.trans ?_⟩
 have hl:=h.len
 unfold nats at hl
 rw [List.length_map] at hl
 unfold nats Pl.Dg.m
 rw [List.getD_eq_getElem?_getD,List.getD_eq_getElem?_getD,List.getElem?_map,List.getElem?_eq_getElem (by omega)];rfl
end Go.Proofs.YtdgliimmnnhhjaaGreatDoor
end
section
namespace Go.Proofs.YtdgliimmnnhhjaaGreatDoor
open Go.RowKit
theorem turn_back (h:Nat)(w:World)(hh:h≤1000000) :
 Calls Tryz.prog 62 #[.int .i64 (h:Int),.int .i64 (-1)] w fun e w'=>e = .returned (.int .i64 (Pl.tn h 3:Nat))∧w=w':=by
 go_enter Tryz.func62,Tryz.ntmps62
 go_wp2
 go_ret
 exact ⟨ret_int (by unfold Pl.tn;omega),rfl⟩
theorem turn_opp (h:Nat)(w:World)(hh:h≤1000000) :
 Calls Tryz.prog 62 #[.int .i64 (h:Int),.int .i64 2] w fun e w'=>e = .returned (.int .i64 (Pl.tn h 2:Nat))∧w=w':=by
 go_enter Tryz.func62,Tryz.ntmps62
 go_wp2
 go_ret
 exact ⟨ret_int (by unfold Pl.tn;omega),rfl⟩
theorem opposite_any (h:Nat)(w:World)(hh:h≤1000000) :
 Calls Tryz.prog 101 #[.int .i64 (h:Int)] w fun e w'=>e = .returned (.int .i64 (Pl.tn h 2:Nat))∧w=w':=by
 go_enter Tryz.func101,Tryz.ntmps101
 go_wp2_with fail
 refine (turn_opp h _ hh).mono ?_
 rintro e w1 ⟨rfl,rfl⟩
 go_wp2
 go_ret
 exact ⟨rfl,rfl⟩
theorem out_zero {d:Pl.Dg}{h:Nat}(e:h % 4=0):Pl.out d h=false:=by unfold Pl.out;simp [e]
theorem out_one {d:Pl.Dg}{h:Nat}(e:h % 4=1):Pl.out d h=(d.s (h / 4) == 1):=by unfold Pl.out;simp [e]
theorem out_two {d:Pl.Dg}{h:Nat}(e:h % 4=2):Pl.out d h=true:=by unfold Pl.out;simp [e]
theorem out_three {d:Pl.Dg}{h:Nat}(e:h % 4=3):Pl.out d h=(d.s (h / 4) == -1):=by unfold Pl.out;simp [e]
theorem out_any (d:Pl.Dg)(A B:Option Addr)(cp q cq:Nat)(l:Value)(h:Nat)(w:World)(hh:h<4 * d.n)(hn:d.n≤1000)(hs:IntsAt w A d.n d.sg) :
 Calls Tryz.prog 35 #[.agg #[.slice A d.n cp,.slice B q cq,l],.int .i64 (h:Int)] w fun e w'=>e = .returned (.bool (Pl.out d h))∧Below w.heap.size w w':=by
 obtain ⟨b,o,rfl,hc⟩:=sign_at hs (c:=h / 4) (by omega)
 have hb:Below w.heap.size w (w.alloc (.cells #[.slice (some ⟨b,o,none⟩) d.n cp,.slice B q cq,l] 24)):=(Below.refl _ _).alloc (Nat.le_refl _) _
 have hc2:=cell_below hc hb
 go_enter Tryz.func35,Tryz.ntmps35
 go_wp2
 all_goals
  go_ret
  refine ⟨ret_bool ?_,hb⟩
  simp only [beq_iff_eq,beq_eq_false_iff_ne,ne_eq] at *
 ·rw [out_one (by omega)]
 ·rw [out_two (by omega)]
 ·rw [out_three (by omega)]
 ·rw [out_zero (by omega)]
theorem out_n (d:Pl.Dg)(A B:Option Addr)(n cp q cq:Nat)(l:Value)(h:Nat)(w:World)(e:n=d.n)(hh:h<4 * n)(hn:n≤1000)(hs:IntsAt w A n d.sg) :
 Calls Tryz.prog 35 #[.agg #[.slice A n cp,.slice B q cq,l],.int .i64 (h:Int)] w fun e w'=>e = .returned (.bool (Pl.out d h))∧Below w.heap.size w w':=by
 subst e;exact out_any d A B cp q cq l h w hh hn hs
theorem out2_any (d:Pl.Dg)(A B:Option Addr)(cp q cq:Nat)(l:Value)(h:Nat)(w:World)(hh:h<4 * d.n)(hn:d.n≤1000)(hs:IntsAt w A d.n d.sg) :
 Calls Tryz.prog 99 #[.agg #[.slice A d.n cp,.slice B q cq,l],.int .i64 (h:Int)] w fun e w'=>e = .returned (.bool (Pl.out d h))∧Below w.heap.size w w':=by
 obtain ⟨b,o,rfl,hc⟩:=sign_at hs (c:=h / 4) (by omega)
 have hb:Below w.heap.size w (w.alloc (.cells #[.slice (some ⟨b,o,none⟩) d.n cp,.slice B q cq,l] 24)):=(Below.refl _ _).alloc (Nat.le_refl _) _
 have hc2:=cell_below hc hb
 go_enter Tryz.func99,Tryz.ntmps99
 go_wp2
 all_goals
  go_ret
  refine ⟨ret_bool ?_,hb⟩
 ·rw [out_two (by omega)]
 ·rename_i e1
  rw [out_one (by omega)];try simp [e1]
 ·rename_i e1
  rw [out_one (by omega)];try simp [e1]
 ·rw [out_three (by omega)]
 ·rw [out_zero (by omega)];simp;omega
theorem out2_n (d:Pl.Dg)(A B:Option Addr)(n cp q cq:Nat)(l:Value)(h:Nat)(w:World)(e:n=d.n)(hh:h<4 * n)(hn:n≤1000)(hs:IntsAt w A n d.sg) :
 Calls Tryz.prog 99 #[.agg #[.slice A n cp,.slice B q cq,l],.int .i64 (h:Int)] w fun e w'=>e = .returned (.bool (Pl.out d h))∧Below w.heap.size w w':=by
 subst e;exact out2_any d A B cp q cq l h w hh hn hs
theorem next_any (d:Pl.Dg)(B:Option Addr)(cq:Nat)(h:Nat)(w:World)(hh:h<4 * d.n)(hn:d.n≤1000)(hm:IntsAt w B (4 * d.n) (nats d.mt))(hlt:d.m h<4 * d.n) :
 Calls Tryz.prog 86 #[.slice B (4 * d.n) cq,.int .i64 (h:Int)] w fun e w'=>e = .returned (.int .i64 (Pl.nx d h:Nat))∧w=w':=by
 obtain ⟨b,o,rfl,hc⟩:=mate_at hm hh
 go_enter Tryz.func86,Tryz.ntmps86
 go_wp2_with fail
 refine (turn_back _ _ (by omega)).mono ?_
 rintro e w1 ⟨rfl,rfl⟩
 go_wp2
 go_ret
 exact ⟨rfl,rfl⟩
end Go.Proofs.YtdgliimmnnhhjaaGreatDoor
end
section
namespace Go.Proofs.YtdgliimmnnhhjaaGreatDoor
open Go Go.RowKit
def OwnT (w:World)(base:Nat)(e:TypeId)(v:Value)(n:Nat)(xs:List Value):Prop :=
 xs.length=n∧∃g off cap cur,v = .slice (some ⟨g,off,none⟩) n cap∧base≤g∧w.heap[g]? = some (.cells cur e (0,0))∧n≤cap∧cap≤maxLen∧off+cap≤cur.size∧(cur.toList.drop off).take n=xs
theorem lt_of_heap {w:World}{g:Nat}{o:Obj}(h:w.heap[g]? = some o):g<w.heap.size:=by
 rcases Nat.lt_or_ge g w.heap.size with h1 | h1
 ·exact h1
 ·rw [Array.getElem?_eq_none h1] at h;cases h
theorem OwnT.keep {w w':World}{base:Nat}{e:TypeId}{v:Value}{n:Nat}{xs:List Value}(h:OwnT w base e v n xs)(hb:∀g,base≤g→g<w.heap.size→v.ownBlock=some g→w'.heap[g]? = w.heap[g]?):OwnT w' base e v n xs:=by
 obtain ⟨h0,g,off,cap,cur,rfl,h1,h2,h3⟩:=h
 exact ⟨h0,g,off,cap,cur,rfl,h1,(hb g h1 (lt_of_heap h2) rfl).trans h2,h3⟩
theorem OwnT.below {w w':World}{base:Nat}{e:TypeId}{v:Value}{n:Nat}{xs:List Value}(h:OwnT w base e v n xs)(hb:Below w.heap.size w w'):OwnT w' base e v n xs :=
 h.keep fun g _ h2 _=>hb.block g h2
theorem OwnT.cells {w:World}{base:Nat}{e:TypeId}{v:Value}{n:Nat}{xs:List Value}(h:OwnT w base e v n xs):∃g off cap,v = .slice (some ⟨g,off,none⟩) n cap∧base≤g∧g<w.heap.size∧n≤cap∧cap≤maxLen∧∀(j:Nat) u,xs[j]? = some u→w.cell? ⟨g,off+j,none⟩=some u:=by
 obtain ⟨h0,g,off,cap,cur,rfl,h1,h2,h3,h4,h5,h6⟩:=h
 refine ⟨g,off,cap,rfl,h1,lt_of_heap h2,h3,h4,fun j u hu=>?_⟩
 rw [cell_of_row w g _ cur e (0,0) h2]
 rw [←h6,List.getElem?_take] at hu
 split at hu
 ·rw [List.getElem?_drop] at hu
  rw [←Array.getElem?_toList];exact hu
 ·cases hu
theorem OwnT.tail0 {w:World}{base:Nat}{e:TypeId}{g off n cap:Nat}{x:Value}{xs:List Value}(h:OwnT w base e (.slice (some ⟨g,off,none⟩) (n+1) cap) (n+1) (x :: xs))(hc:cap=1):OwnT w base e (.slice (some ⟨g,off,none⟩) n (cap - 1)) n xs:=by
 obtain ⟨h0,g',off',cap',cur,e1,h1,h2,h3,h4,h5,h6⟩:=h
 injection e1 with e1 _ e2
 injection e1 with e1
 injection e1 with e3 e4
 subst e2;subst e3;subst e4
 have hl:xs.length=n:=by simpa using h0
 obtain rfl:n=0:=by omega
 exact ⟨hl,g,off,cap - 1,cur,rfl,h1,h2,by omega,by omega,by omega,by rw [List.take_zero];exact (List.eq_nil_of_length_eq_zero hl).symm⟩
theorem OwnT.tail {w:World}{base:Nat}{e:TypeId}{g off n cap:Nat}{x:Value}{xs:List Value}(h:OwnT w base e (.slice (some ⟨g,off,none⟩) (n+1) cap) (n+1) (x :: xs)):OwnT w base e (.slice (some ⟨g,off+1,none⟩) n (cap - 1)) n xs:=by
 obtain ⟨h0,g',off',cap',cur,e1,h1,h2,h3,h4,h5,h6⟩:=h
 injection e1 with e1 _ e2
 injection e1 with e1
 injection e1 with e3 e4
 subst e2;subst e3;subst e4
 have hl:xs.length=n:=by simpa using h0
 refine ⟨hl,g,off+1,cap - 1,cur,rfl,h1,h2,by omega,by omega,by omega,?_⟩
 have e5:cur.toList.drop off=(cur.toList.drop off).head?.getD x :: cur.toList.drop (off+1):=by
  have:cur.toList.drop off≠[]:=by
   intro e;rw [e] at h6;simp at h6
  rw [List.drop_eq_getElem_cons (by simp;omega)]
  simp
 rw [e5,List.take_succ_cons] at h6
 injection h6
section
variable {P:Program} (w:World)
theorem run_append_tail (base:Nat)(t ty e:TypeId)(i:TypeInfo)(z:Value)(bytes:Nat)(ht:P.underlying t=some (.slice e))(hi:P.info? e=some i)(hz:i.zero=some z)
 (hsize:i.size=1) (hby:i.bytes=bytes) (hzs:z.cells.size=1)
 (v:Value) (n:Nat) (xs:List Value) (hown:OwnT w base e v n xs)
 (a:Addr) (c:Nat) (x:Value) (hnews:w.cell? (a.add 0)=some x) (h1:x.oneCell'=true)
 (h63:n+1≤maxLen) (hbytes:(n+1) * bytes≤140737488355328) (hbase:base≤w.heap.size) :
 ∃v' w',(Builtin.append_ #[t,t] ty #[v,.slice (some a) 1 c]).run P w = .ok v' w'∧OwnT w' base e v' (n+1) (xs++[x])∧w.grownBy w' v.ownBlock:=by
 subst hby
 have hsmall:n+1≤9223372036854775807:=by simp only [maxLen] at h63;omega
 have hlen:(xs++[x]).length=n+1:=by rw [List.length_append,hown.1];rfl
 have hn1:∀(j:Nat) u,[x][j]? = some u→w.cell? (a.add j)=some u:=by
  intro j u hu
  match j,hu with
  | 0,hu=>simp at hu;subst hu;exact hnews
 obtain ⟨h0,g,off,cap,cur,rfl,hbg,hg,hnc,hcm,hcs,htake⟩:=hown
 by_cases hroom:n+1≤cap
 ·have hf:=run_firstCells_some (P:=P) w i.size 1 a 1 c [x] (by rw [hsize];rfl) hn1
  have hst:=run_storeCells_at P g (off+n) e [x] 0 cur w hg (by simp;omega) (by simpa using h1)
  simp only [Nat.add_zero] at hst
  rw [hsize] at hf
  have hr:(Builtin.append_ #[t,t] ty #[.slice (some ⟨g,off,none⟩) n cap,.slice (some a) 1 c]).run P w = .ok (.slice (some ⟨g,off,none⟩) (n+1) cap) (w.setRow g (cur.toList.take (off+n)++[x]++cur.toList.drop (off+n+[x].length)).toArray):=by
   simp only [List.length_singleton] at hst ⊢
   simp [Builtin.append_,run_underlying ht,sizeOf,typeInfo,hi,hsize,Builtin.lenOf,hroom,hf,Addr.add_lit,hst]
  refine ⟨_,_,hr,⟨hlen,g,off,cap,_,rfl,hbg,setRow_heap w g cur _ e _ hg,hroom,hcm,?_,?_⟩,⟨rfl,rfl,rfl,by simp,fun k _ hk=>setRow_other w g k _ (fun e=>hk (by simp [Value.ownBlock,e]))⟩⟩
  ·simp only [List.size_toArray,List.length_append,List.length_take,List.length_drop,Array.length_toList,List.length_cons,List.length_nil]
   omega
  ·have e1 : cur.toList.take (off + n) = cur.toList.take off ++ xs := by
    rw [←htake,List.take_add]
   rw [e1]
   simp only [List.append_assoc]
   have e2:(cur.toList.take off).length=off:=by rw [List.length_take,Array.length_toList];omega
   rw [List.drop_append,e2,Nat.sub_self,List.drop_zero,List.drop_eq_nil_of_le (by omega),List.nil_append,←List.append_assoc,←hlen,List.take_left]
 ·have holds : ∀ (j : Nat) u, xs[j]? = some u → w.cell? ((⟨g, off, none⟩ : Addr).add j) = some u := by
   intro j u hu
   have:(⟨g,off,none⟩:Addr).add j=⟨g,off+j,none⟩:=by unfold Addr.add;split <;> simp_all
   rw [this,cell_of_row w g _ cur e (0,0) hg]
   rw [←htake,List.getElem?_take] at hu
   split at hu
   ·rw [List.getElem?_drop] at hu
    rw [←Array.getElem?_toList];exact hu
   ·cases hu
  have hr:=run_append_grow (P:=P) w t ty e i z ht hi hz ⟨g,off,none⟩ n cap xs (by rw [hsize,h0];omega) holds a 1 c [x] (by rw [hsize];rfl) hn1 (by omega) (by omega) (growslice_fits (by omega) hbytes)
  have hge:=grownCap_ge w (n+1) cap e
  have hcm':grownCap w (n+1) cap e≤maxLen:=grownCap_le_maxLen w (n+1) cap e h63
  refine ⟨_,_,hr,⟨hlen,w.heap.size,0,_,_,rfl,hbase,heap_alloc_new w.drew _,hge,hcm',?_,?_⟩,⟨rfl,rfl,rfl,by simp,fun k hk _=>Below.heap_alloc w.drew _ k hk⟩⟩
  ·simp only [Array.size_append,List.size_toArray,size_zeroCells,hzs,h0,List.length_cons,List.length_nil]
   omega
  ·simp only [Array.toList_append,List.drop_zero]
   rw [←hlen]
   exact List.take_left
theorem wp_append_tail {o:Oper}{a:Act}{K:Act→World→Prop}{Q:Exit→Act→World→Prop}(s x:Operand)(t:TypeId)
 (ho:o.op = .call { callee := .builtin .append,args:=#[s,x],argTypes:=#[t,t] })
 (base:Nat) (e:TypeId) (i:TypeInfo) (z:Value) (bytes:Nat) (ht:P.underlying t=some (.slice e)) (hi:P.info? e=some i) (hz:i.zero=some z)
 (hsize:i.size=1) (hby:i.bytes=bytes) (hzs:z.cells.size=1)
 (v:Value) (n:Nat) (xs:List Value) (hs:a.eval s=v) (hown:OwnT w base e v n xs)
 (ad:Addr) (c:Nat) (u:Value) (hx:a.eval x = .slice (some ad) 1 c) (hnews:w.cell? (ad.add 0)=some u) (h1:u.oneCell'=true)
 (h63:n+1≤maxLen) (hbytes:(n+1) * bytes≤140737488355328) (hbase:base≤w.heap.size)
 (h:∀v' w',OwnT w' base e v' (n+1) (xs++[u])→w.grownBy w' v.ownBlock→K (a.put o.dst v') w'):o.wp P a w K Q:=by
 obtain ⟨v',w',hr,h2,h3⟩:=run_append_tail (P:=P) w base t o.type e i z bytes ht hi hz hsize hby hzs v n xs hown ad c u hnews h1 h63 hbytes hbase
 unfold Oper.wp execOp
 simp only [ho,resolve,invoke,builtin,Sem.run_bind,Sem.run_pure,Result.andThen_ok,List.map_toArray,List.map_cons,List.map_nil,hs,hx,hr]
 exact h v' w' h2 h3
theorem wpList_append_tail {ops:Array Oper}{rest:List Oper}{o:Oper}{a:Act}{Q:Exit→Act→World→Prop}(hgd:o.guard=none)(s x:Operand)(t:TypeId)
 (ho:o.op = .call { callee := .builtin .append,args:=#[s,x],argTypes:=#[t,t] })
 (base:Nat) (e:TypeId) (i:TypeInfo) (z:Value) (bytes:Nat) (ht:P.underlying t=some (.slice e)) (hi:P.info? e=some i) (hz:i.zero=some z)
 (hsize:i.size=1) (hby:i.bytes=bytes) (hzs:z.cells.size=1)
 (v:Value) (n:Nat) (xs:List Value) (hs:a.eval s=v) (hown:OwnT w base e v n xs)
 (ad:Addr) (c:Nat) (u:Value) (hx:a.eval x = .slice (some ad) 1 c) (hnews:w.cell? (ad.add 0)=some u) (h1:u.oneCell'=true)
 (h63:n+1≤maxLen) (hbytes:(n+1) * bytes≤140737488355328) (hbase:base≤w.heap.size)
 (h:∀v' w',OwnT w' base e v' (n+1) (xs++[u])→w.grownBy w' v.ownBlock→wpList P ops Q rest (a.put o.dst v') w'):wpList P ops Q (o :: rest) a w :=
 wpList_plain hgd fun _ hK=>wp_append_tail w s x t ho base e i z bytes ht hi hz hsize hby hzs v n xs hs hown ad c u hx hnews h1 h63 hbytes hbase fun v' w' h2 h3=>hK _ _ (h v' w' h2 h3)
end
end Go.Proofs.YtdgliimmnnhhjaaGreatDoor
end
section
namespace Go.Proofs.YtdgliimmnnhhjaaGreatDoor
open Go Go.RowKit
def Row (w:World)(g:Nat)(t:TypeId)(vs:List Value):Prop:=w.heap[g]? = some (.cells vs.toArray t (0,0))
theorem Row.lt {w:World}{g:Nat}{t:TypeId}{vs:List Value}(h:Row w g t vs):g<w.heap.size:=lt_of_heap h
theorem Row.cell {w:World}{g:Nat}{t:TypeId}{vs:List Value}(h:Row w g t vs){i:Nat}(hi:i<vs.length):w.cell? ⟨g,i,none⟩=some (vs[i]'hi):=by
 rw [cell_of_row w g i _ t (0,0) h];simp [hi]
theorem Row.free {w:World}{g:Nat}{t:TypeId}{vs:List Value}(h:Row w g t vs)(i:Nat):w.frozen? ⟨g,i,none⟩=false:=frozen_of_row w g i _ t h
theorem Row.set {w:World}{g:Nat}{t:TypeId}{vs:List Value}(h:Row w g t vs)(i:Nat)(v:Value):Row (w.setCell ⟨g,i,none⟩ v) g t (vs.set i v):=by
 unfold Row
 rw [Go.heap_setCell_same w g i _ t v h]
 simp
theorem Row.other {w:World}{g:Nat}{t:TypeId}{vs:List Value}(h:Row w g t vs){a:Addr}(ha:g≠a.block)(v:Value):Row (w.setCell a v) g t vs:=(Below.heap_setCell w a v g ha).trans h
theorem Row.alloc {w:World}{g:Nat}{t:TypeId}{vs:List Value}(h:Row w g t vs)(o:Obj):Row (w.alloc o) g t vs:=(Below.heap_alloc w o g h.lt).trans h
theorem Row.drew {w:World}{g:Nat}{t:TypeId}{vs:List Value}(h:Row w g t vs):Row w.drew g t vs:=h
theorem Row.below {w w':World}{g:Nat}{t:TypeId}{vs:List Value}(h:Row w g t vs)(hb:Below w.heap.size w w'):Row w' g t vs:=(hb.block g h.lt).trans h
theorem Row.grown {w w':World}{g:Nat}{t:TypeId}{vs:List Value}{r:Option Nat}(h:Row w g t vs)(hg:w.grownBy w' r)(hr:some g≠r):Row w' g t vs:=(hg.block g h.lt hr).trans h
theorem Row.new (w:World)(t:TypeId)(vs:List Value):Row (w.alloc (.cells vs.toArray t)) w.heap.size t vs:=heap_alloc_new w _
def IRow (w:World)(g:Nat)(zs:List Int):Prop:=Row w g 3 (zs.map (.int .i64))
theorem IRow.cell {w:World}{g:Nat}{zs:List Int}(h:IRow w g zs){i:Nat}(hi:i<zs.length):w.cell? ⟨g,i,none⟩=some (.int .i64 (Pl.pv zs i)):=by
 refine (Row.cell h (i:=i) (by simpa using hi)).trans ?_
 unfold Pl.pv
 rw [List.getElem_map,List.getD_eq_getElem?_getD,List.getElem?_eq_getElem hi];rfl
theorem IRow.set {w:World}{g:Nat}{zs:List Int}(h:IRow w g zs)(i:Nat)(v:Int):IRow (w.setCell ⟨g,i,none⟩ (.int .i64 v)) g (zs.set i v):=by
 unfold IRow
 rw [List.map_set]
 exact Row.set h i _
theorem IRow.ints {w:World}{g:Nat}{zs:List Int}(h:IRow w g zs):IntsAt w (some ⟨g,0,none⟩) zs.length zs:=by
 refine ⟨by simp,fun _=>⟨g,0,rfl,fun j u hu=>?_⟩⟩
 rw [Nat.zero_add]
 refine (cell_of_row w g j _ _ (0,0) h).trans ?_
 simpa using hu
def BRow (w:World)(g:Nat)(bs:List Bool):Prop:=Row w g 4 (bs.map .bool)
theorem BRow.cell {w:World}{g:Nat}{bs:List Bool}(h:BRow w g bs){i:Nat}(hi:i<bs.length):w.cell? ⟨g,i,none⟩=some (.bool (bs.getD i false)):=by
 refine (Row.cell h (i:=i) (by simpa using hi)).trans ?_
 rw [List.getElem_map,List.getD_eq_getElem?_getD,List.getElem?_eq_getElem hi];rfl
theorem BRow.set {w:World}{g:Nat}{bs:List Bool}(h:BRow w g bs)(i:Nat)(v:Bool):BRow (w.setCell ⟨g,i,none⟩ (.bool v)) g (bs.set i v):=by
 unfold BRow
 rw [List.map_set]
 exact Row.set h i _
theorem made_rep (v:Value)(n:Nat):madeCells #[v] n=(List.replicate n v).toArray:=by
 apply Array.ext'
 simp only [madeCells,Array.toList_map,Array.toList_range]
 refine List.ext_getElem (by simp) (fun i h1 h2=>?_)
 have:i % 1=0:=Nat.mod_one i
 simp [this]
theorem IRow.made (w:World)(n:Nat):IRow (w.alloc (.cells (Array.replicate n (Value.int .i64 0)) 3)) w.heap.size (List.replicate n 0):=by
 unfold IRow Row
 rw [List.map_replicate]
 exact heap_alloc_new w _
theorem BRow.made (w:World)(n:Nat):BRow (w.alloc (.cells (Array.replicate n (Value.bool false)) 4)) w.heap.size (List.replicate n false):=by
 unfold BRow Row
 rw [List.map_replicate]
 exact heap_alloc_new w _
theorem intInfo:(Tryz.prog.info? 3).map (fun i=>(i.zero,i.size,i.bytes))=some (some (.int .i64 0),1,8):=by kernel_rfl
theorem boolInfo:(Tryz.prog.info? 4).map (fun i=>(i.zero,i.size,i.bytes))=some (some (.bool false),1,1):=by kernel_rfl
theorem run_ints (n:Nat)(hn:n≤100000)(w:World):(Instr.makeSlice 22 (.int .i64 (n:Int)) (.int .i64 (n:Int))).run Tryz.prog w = .ok (.slice (some ⟨w.heap.size,0,none⟩) n n) (w.alloc (.cells (Array.replicate n (Value.int .i64 0)) 3)):=by
 obtain ⟨i0,hi,hz0,hz1,hz2⟩:=info_parts intInfo
 have:=run_make (P:=Tryz.prog) w 22 3 i0 (.int .i64 0) Tryz.underlying22 hi hz0 .i64 .i64 n n (by omega) (Int.le_refl _) (by rw [hz2];omega) (by omega)
 rw [hz1,Nat.mul_one,Int.toNat_natCast,show madeCells (Value.cells (.int .i64 0)) n=(List.replicate n (.int .i64 0)).toArray from made_rep _ _] at this
 exact this
theorem run_bools (n:Nat)(hn:n≤100000)(w:World):(Instr.makeSlice 108 (.int .i64 (n:Int)) (.int .i64 (n:Int))).run Tryz.prog w = .ok (.slice (some ⟨w.heap.size,0,none⟩) n n) (w.alloc (.cells (Array.replicate n (Value.bool false)) 4)):=by
 obtain ⟨i0,hi,hz0,hz1,hz2⟩:=info_parts boolInfo
 have:=run_make (P:=Tryz.prog) w 108 4 i0 (.bool false) Tryz.underlying108 hi hz0 .i64 .i64 n n (by omega) (Int.le_refl _) (by rw [hz2];omega) (by omega)
 rw [hz1,Nat.mul_one,Int.toNat_natCast,show madeCells (Value.cells (.bool false)) n=(List.replicate n (.bool false)).toArray from made_rep _ _] at this
 exact this
end Go.Proofs.YtdgliimmnnhhjaaGreatDoor
end
