/-
 The texts Rz.
-/
import Derived.Test.YtobbepmlmbbamaaH03
set_option linter.unusedVariables false
set_option linter.unusedSimpArgs false
section
namespace Go.Proofs.Ytobbepmlmbbamaa
open Go Go.RowKit
def sU (d:Pl.Dg)(h j:Nat):Nat:=if j % 2=0 then sb d h (j / 2) else sf d h (j / 2)
def rSM (d:Pl.Dg)(h:Nat):Nat→List Nat
 | 0=>d.mt
 | j+1=>jn (rSM d h j) ((sTo d h 3).getD (sU d h j) 0) ((sTo d h 3).getD (d.m (sU d h j)) 0)
def rSF (d:Pl.Dg)(h:Nat):Nat→List Nat
 | 0=>rSM d h 6
 | k+1=>jn (rSF d h k) (sb d h k) (sf d h k)
def rX (d:Pl.Dg)(h:Nat):Nat→Nat
 | 0=>4 * d.n
 | j+1=>if sU d h j<rX d h j∧sC d h (sU d h j)=true then sU d h j else rX d h j
section
variable {d:Pl.Dg} {h:Nat}
theorem sU_lt (hd:Pl.Wf d)(hh:h<4 * d.n)(j:Nat):sU d h j<4 * d.n:=by
 obtain ⟨h1,h2,h3,h4⟩:=s_lt hd hh (j / 2)
 unfold sU;split <;> assumption
theorem rSM_len (hd:Pl.Wf d):∀j,(rSM d h j).length=4 * d.n
 | 0=>hd.len
 | j+1=>by unfold rSM;rw [jn_len0,rSM_len hd j]
theorem rSF_len (hd:Pl.Wf d):∀k,(rSF d h k).length=4 * d.n
 | 0=>rSM_len hd 6
 | k+1=>by unfold rSF;rw [jn_len0,rSF_len hd k]
theorem sU_at (hd:Pl.Wf d)(hh:h<4 * d.n)(hi:is3 d h){k q:Nat}(hk:k<3)(hl:th d h k<4 * d.n)(hq:d.m (th d h k)=Pl.tn q 1) :
 (sU d h (2 * k)=Pl.tn (th d h k) 2∧sU d h (2 * k+1)=Pl.tn q 3)∨(sU d h (2 * k)=Pl.tn q 3∧sU d h (2 * k+1)=Pl.tn (th d h k) 2):=by
 have e1:sU d h (2 * k)=sb d h k:=by unfold sU;rw [if_pos (by omega),show 2 * k / 2=k by omega]
 have e2:sU d h (2 * k+1)=sf d h k:=by unfold sU;rw [if_neg (by omega),show (2 * k+1) / 2=k by omega]
 rcases ends hd hl hq with ⟨a,_,_,b⟩ | ⟨a,_,_,b⟩
 ·exact .inl ⟨by rw [e1,a],by rw [e2,b]⟩
 ·exact .inr ⟨by rw [e1,a],by rw [e2,b]⟩
theorem sU_O (hd:Pl.Wf d)(hh:h<4 * d.n)(hi:is3 d h){u:Nat}:sO d h u↔∃j,j<6∧u=sU d h j:=by
 have T:=tri_at hd hh hi
 have t0:=th_lt hd hh 0
 have t1:=th_lt hd hh 1
 have t2:=th_lt hd hh 2
 have a0:=sU_at hd hh hi (k:=0) (by omega) t0 T.ah0
 have a1:=sU_at hd hh hi (k:=1) (by omega) t1 T.ah1
 have a2:=sU_at hd hh hi (k:=2) (by omega) t2 T.ah2
 constructor
 ·rintro (e | e | e | e | e | e)
  ·rcases a0 with ⟨p,_⟩ | ⟨_,p⟩
   ·exact ⟨0,by omega,e.trans p.symm⟩
   ·exact ⟨1,by omega,e.trans p.symm⟩
  ·rcases a1 with ⟨p,_⟩ | ⟨_,p⟩
   ·exact ⟨2,by omega,e.trans p.symm⟩
   ·exact ⟨3,by omega,e.trans p.symm⟩
  ·rcases a2 with ⟨p,_⟩ | ⟨_,p⟩
   ·exact ⟨4,by omega,e.trans p.symm⟩
   ·exact ⟨5,by omega,e.trans p.symm⟩
  ·rcases a2 with ⟨_,p⟩ | ⟨p,_⟩
   ·exact ⟨5,by omega,e.trans p.symm⟩
   ·exact ⟨4,by omega,e.trans p.symm⟩
  ·rcases a0 with ⟨_,p⟩ | ⟨p,_⟩
   ·exact ⟨1,by omega,e.trans p.symm⟩
   ·exact ⟨0,by omega,e.trans p.symm⟩
  ·rcases a1 with ⟨_,p⟩ | ⟨p,_⟩
   ·exact ⟨3,by omega,e.trans p.symm⟩
   ·exact ⟨2,by omega,e.trans p.symm⟩
 ·rintro ⟨j,hj,rfl⟩
  have hj':j=0∨j=1∨j=2∨j=3∨j=4∨j=5:=by omega
  unfold sO
  rcases hj' with rfl | rfl | rfl | rfl | rfl | rfl
  ·rcases a0 with ⟨p,_⟩ | ⟨p,_⟩ <;> (rw [show sU d h 0=sU d h (2 * 0) from rfl,p];simp)
  ·rcases a0 with ⟨_,p⟩ | ⟨_,p⟩ <;> (rw [show sU d h 1=sU d h (2 * 0+1) from rfl,p];simp)
  ·rcases a1 with ⟨p,_⟩ | ⟨p,_⟩ <;> (rw [show sU d h 2=sU d h (2 * 1) from rfl,p];simp)
  ·rcases a1 with ⟨_,p⟩ | ⟨_,p⟩ <;> (rw [show sU d h 3=sU d h (2 * 1+1) from rfl,p];simp)
  ·rcases a2 with ⟨p,_⟩ | ⟨p,_⟩ <;> (rw [show sU d h 4=sU d h (2 * 2) from rfl,p];simp)
  ·rcases a2 with ⟨_,p⟩ | ⟨_,p⟩ <;> (rw [show sU d h 5=sU d h (2 * 2+1) from rfl,p];simp)
theorem rSM_half (hd:Pl.Wf d)(hh:h<4 * d.n)(hi:is3 d h):∀j,j≤6→Pl.Half (4 * d.n) d.m (Pl.cj (sT d h) d.m) (fun x=>∃i,i<j∧(x=sT d h (sU d h i)∨x=sT d h (d.m (sU d h i)))) (rSM d h j)
 | 0,_=>⟨hd.len,fun x hx => .inr ⟨getD_m (by rw [hd.len];exact hx),fun ⟨u,h,_⟩=>absurd h (by omega)⟩⟩
 | j + 1, hj => by
   have ih:=rSM_half hd hh hi j (by omega)
   have J:=sj_at hd hh hi
   have hu:=sU_lt hd hh j
   have hm:=hd.lt _ hu
   have ho:sO d h (sU d h j):=(sU_O hd hh hi).2 ⟨j,by omega,rfl⟩
   show Pl.Half _ _ _ _ (jn (rSM d h j) ((sTo d h 3).getD (sU d h j) 0) ((sTo d h 3).getD (d.m (sU d h j)) 0))
   have e:(sTo d h 3).getD (d.m (sU d h j)) 0=sT d h (d.m (sU d h j)):=by
    by_cases h2:sO d h (d.m (sU d h j))
    ·exact (sTo_v hd hh hi hm).1 h2
    ·rw [(sTo_v hd hh hi hm).2 h2,J.far hu ho h2]
   rw [(sTo_v hd hh hi hu).1 ho,e,jn_eq]
   refine (ih.join (J.fl _ hu) (J.fl _ hm) (by unfold Pl.cj;rw [J.ff]) (by unfold Pl.cj;rw [J.ff,hd.inv _ hu])).mono ?_
   rintro x ⟨i,h1,h2⟩
   by_cases h3:i=j
   ·rw [h3] at h2
    rcases h2 with h2 | h2
    ·exact .inr (.inl h2)
    ·exact .inr (.inr h2)
   ·exact .inl ⟨i,by omega,h2⟩
theorem jn_half (hd:Pl.Wf d)(hh:h<4 * d.n)(hi:is3 d h){k q:Nat}{W:Nat→Prop}{l:List Nat}(hl:Pl.Half (4 * d.n) d.m (Pl.cj (sT d h) d.m) W l)(hq:d.m (th d h k)=Pl.tn q 1)(hql:q<4 * d.n)(e:Pl.cj (sT d h) d.m (Pl.tn (th d h k) 2)=Pl.tn q 3) :
 Pl.Half (4 * d.n) d.m (Pl.cj (sT d h) d.m) (fun x=>W x∨x=Pl.tn (th d h k) 2∨x=Pl.tn q 3) (jn l (sb d h k) (sf d h k)):=by
 have J:=sj_at hd hh hi
 have lh:=th_lt hd hh k
 have l1:Pl.tn (th d h k) 2<4 * d.n:=Pl.tn_lt lh
 have l2:Pl.tn q 3<4 * d.n:=Pl.tn_lt hql
 have e':Pl.cj (sT d h) d.m (Pl.tn q 3)=Pl.tn (th d h k) 2:=by
  rw [←e]
  unfold Pl.cj
  rw [J.ff,J.inv _ (J.fl _ l1),J.ff]
 rw [jn_eq]
 rcases ends hd lh hq with ⟨e1,_,_,e4⟩ | ⟨e1,_,_,e4⟩ <;> rw [e1,e4]
 ·exact hl.join l1 l2 e e'
 ·refine (hl.join l2 l1 e' e).mono ?_
  rintro x (h | h | h)
  ·exact .inl h
  ·exact .inr (.inr h)
  ·exact .inr (.inl h)
theorem rSF_eq (hd:Pl.Wf d)(hh:h<4 * d.n)(hi:is3 d h):rSF d h 3=sF d h 3:=by
 have T:=tri_at hd hh hi
 have T':=T.flip
 have J:=sj_at hd hh hi
 have t0:=th_lt hd hh 0
 have t1:=th_lt hd hh 1
 have t2:=th_lt hd hh 2
 have a0:Pl.Half (4 * d.n) d.m (Pl.cj (sT d h) d.m) _ (rSF d h 0):=rSM_half hd hh hi 6 (Nat.le_refl _)
 have a1:=jn_half hd hh hi (k:=0) (q:=th d h 1) a0 T.ah0 t1 T'.ah0
 have a2:=jn_half hd hh hi (k:=1) (q:=th d h 2) a1 T.ah1 t2 T'.ah1
 have a3:=jn_half hd hh hi (k:=2) (q:=th d h 0) a2 T.ah2 t0 T'.ah2
 have key:∀x,x<4 * d.n→(rSF d h 3).getD x 0=Pl.cj (sT d h) d.m x:=J.all a3 (fun u hu ho=>by
  obtain ⟨j,hj,e⟩:=(sU_O hd hh hi).1 ho
  refine ⟨?_,?_,?_⟩
  ·exact .inl (.inl (.inl ⟨j,hj,.inl (by rw [e])⟩))
  ·exact .inl (.inl (.inl ⟨j,hj,.inr (by rw [e])⟩))
  ·rcases ho with h | h | h | h | h | h <;> simp [h])
 refine getD_ext (by rw [rSF_len hd,sF_len hd]) (fun x hx=>?_)
 rw [rSF_len hd] at hx
 rw [key x hx,sF_v hd hh hi x hx]
theorem rX_le:∀j i,i<j→sC d h (sU d h i)=true→rX d h j≤sU d h i
 | j + 1, i, hi, hc => by
   unfold rX
   by_cases e:i=j
   ·subst e
    split
    ·exact Nat.le_refl _
    ·rename_i q
     exact Nat.not_lt.1 fun h=>q ⟨h,hc⟩
   ·have ih:=rX_le j i (by omega) hc
    split
    ·rename_i q;omega
    ·exact ih
theorem rX_of:∀j,rX d h j=4 * d.n∨∃i,i<j∧rX d h j=sU d h i∧sC d h (sU d h i)=true
 | 0 => .inl rfl
 | j + 1 => by
   unfold rX
   split
   ·rename_i q
    exact .inr ⟨j,by omega,rfl,q.2⟩
   ·rcases rX_of j with h | ⟨i,h1,h2,h3⟩
    ·exact .inl h
    ·exact .inr ⟨i,by omega,h2,h3⟩
theorem rX_eq (hd:Pl.Wf d)(hh:h<4 * d.n)(hi:is3 d h):rX d h 6=sX d h (4 * d.n):=by
 obtain ⟨l,v,u0,u1,u2⟩:=sX_v hd hh hi
 have hO:∀x,sC d h x=true→x<4 * d.n→∃i,i<6∧x=sU d h i:=fun x hc hx=>(sU_O hd hh hi).1 (by
  rcases (sC_iff hd hh hi hx).1 hc with e | e | e <;> simp [sO,e])
 have hs:sC d h (sX d h (4 * d.n))=true:=(sC_iff hd hh hi l).2 v
 obtain ⟨i,h1,h2⟩:=hO _ hs l
 have a1:rX d h 6≤sX d h (4 * d.n):=by
  rw [h2] at hs ⊢
  exact rX_le 6 i h1 hs
 rcases rX_of (d:=d) (h:=h) 6 with e | ⟨i,h1,h2,h3⟩
 ·omega
 ·rcases (sC_iff hd hh hi (sU_lt hd hh i)).1 h3 with e | e | e <;> omega
def innerP (d:Pl.Dg)(h u:Nat):Prop:=Pl.Per (Pl.nx (sldD d h)) u 3∧∀i,i<3→∃j,j<6∧Pl.it (Pl.nx (sldD d h)) i u=sU d h j
theorem inner_iff (hd:Pl.Wf d)(hh:h<4 * d.n)(hi:is3 d h){u:Nat}(hu:u<4 * d.n):innerP d h u↔sC d h u=true:=by
 obtain ⟨n0,n1,n2⟩:=nx_new hd hh hi
 have l:∀k,Pl.tn (th d h k) 2<4 * d.n:=fun k=>Pl.tn_lt (th_lt hd hh k)
 have sc:sC d h u=true↔sO d h u∧sO d h (lnx (sF d h 3) u)∧sO d h (lnx (sF d h 3) (lnx (sF d h 3) u))∧lnx (sF d h 3) (lnx (sF d h 3) (lnx (sF d h 3) u))=u:=by
  unfold sC
  simp only [Bool.and_eq_true,beq_iff_eq]
  rw [sOu_v hd hh hi,sOu_v hd hh hi,sOu_v hd hh hi]
  exact ⟨fun h=>⟨h.1.1.1,h.1.1.2,h.1.2,h.2⟩,fun h=>⟨⟨⟨h.1,h.2.1⟩,h.2.2.1⟩,h.2.2.2⟩⟩
 have bl:∀x,x<4 * d.n→lnx (sF d h 3) x<4 * d.n:=fun x hx=>by
  unfold lnx
  exact Pl.tn_lt (sF_lt hd hh 3 x hx)
 have b1:=bl u hu
 have b2:=bl _ b1
 have e1:=lnx_nx (h:=h) hd hu
 have e2:=lnx_nx (h:=h) hd b1
 have e3:=lnx_nx (h:=h) hd b2
 constructor
 ·rintro ⟨hp,hm⟩
  rw [sc]
  have o0:=(sU_O hd hh hi).2 (hm 0 (by omega))
  have o1:=(sU_O hd hh hi).2 (hm 1 (by omega))
  have o2:=(sU_O hd hh hi).2 (hm 2 (by omega))
  have c3:=hp.2.1
  rw [e3,e2,e1]
  exact ⟨o0,o1,o2,c3⟩
 ·intro hc
  have ho:=sc.1 hc
  have hv:=(sC_iff hd hh hi hu).1 hc
  have hi0:=hi
  obtain ⟨_,c1,c2,c3⟩:=hi
  have c0:th d h 0=h:=rfl
  have dv:∀k,Pl.tn (th d h k) 2 / 4=th d h k / 4:=fun k=>Pl.tn_div _ _
  have hne:Pl.nx (sldD d h) u≠u∧Pl.nx (sldD d h) (Pl.nx (sldD d h) u)≠u:=by
   rcases hv with e | e | e <;> rw [e]
   ·rw [n0,n1]
    constructor <;> (intro e;have:=congrArg (· / 4) e;simp only [dv] at this;omega)
   ·rw [n1,n2]
    constructor <;> (intro e;have:=congrArg (· / 4) e;simp only [dv] at this;omega)
   ·rw [n2,n0]
    constructor <;> (intro e;have:=congrArg (· / 4) e;simp only [dv] at this;omega)
  refine ⟨⟨by omega,?_,?_⟩,fun i hi'=>?_⟩
  ·show Pl.nx (sldD d h) (Pl.nx (sldD d h) (Pl.nx (sldD d h) u))=u
   rw [←e1,←e2,←e3];exact ho.2.2.2
  ·intro i h1 h2
   have:i=1∨i=2:=by omega
   rcases this with rfl | rfl
   ·exact hne.1
   ·exact hne.2
  ·refine (sU_O hd hh hi0).1 ?_
   have:i=0∨i=1∨i=2:=by omega
   rcases this with rfl | rfl | rfl
   ·exact ho.1
   ·have:=ho.2.1;rw [e1] at this;exact this
   ·have:=ho.2.2.1;rw [e2,e1] at this;exact this
end
end Go.Proofs.Ytobbepmlmbbamaa
end
