/-
  The texts Und.
-/
import Derived.Test.YtdgliimmnnhhjaaGreatDoorU01
set_option linter.unusedVariables false
set_option linter.unusedSimpArgs false
section
namespace Go.Proofs.YtdgliimmnnhhjaaGreatDoor.Pl
variable {d:Dg}
theorem tn_ne {h j k:Nat}(e:j % 4≠k % 4):tn h j≠tn h k:=by unfold tn;omega
theorem dg_m {d:Dg}(hd:Wf d){h:Nat}(hh:h<4 * d.n):d.mt.getD h 0=d.m h:=by
 unfold Dg.m
 have:=hd.len
 rw [List.getD_eq_getElem?_getD,List.getD_eq_getElem?_getD,List.getElem?_eq_getElem (by omega)]
 rfl
theorem kink_four (hd:Valid d){o:Nat}(ho:o<4 * d.n)(hk:d.m o / 4=o / 4):d.m o=tn o 1∨d.m o=tn o 3:=by
 have h1:=no_opp hd ho
 have h2:=(Valid.iff.1 hd).1.ne o ho
 unfold tn at h1 ⊢
 omega
theorem kink_byp (hd:Valid d){o:Nat}(ho:o<4 * d.n)(hk:d.m o / 4=o / 4)(hn:d.m (tn o 2)≠tn (d.m o) 2) :
 Hm (4 * d.n) (dart d) rot (byp d.m (tn (d.m o) 2) (tn o 2))∧Flat (dart d) rot (byp d.m (tn (d.m o) 2) (tn o 2)):=by
 have hv:=Valid.iff.1 hd
 have hw:=hv.1
 have hi:=hw.lt o ho
 have hA:tn o 2<4 * d.n:=tn_lt ho
 have hB:tn (d.m o) 2<4 * d.n:=tn_lt hi
 have hBA:tn (d.m o) 2≠tn o 2:=fun e=>hw.ne o ho (tn_inj e)
 have hmBA:d.m (tn (d.m o) 2)≠tn o 2:=fun e=>hn (by rw [←e,hw.inv _ hB])
 obtain ⟨c0,c1,c2,c3,c4,c5,c6,c7⟩:=cut2_hm hw.hm hB hA hBA (hw.ne _ hB) (hw.ne _ hA) hmBA
 refine byp_flat hw.hm hB hA hBA (hw.ne _ hB) (hw.ne _ hA) hmBA ?_ hv.2
 rcases kink_four hd ho hk with e | e
 ·-- B's next is A
  have s1:=Orb.step (phi rot (cut2 d.m (tn (d.m o) 2) (tn o 2))) (tn (d.m o) 2)
  rw [show phi rot (cut2 d.m (tn (d.m o) 2) (tn o 2)) (tn (d.m o) 2)=tn o 2 by
   unfold phi;rw [c1,e];unfold rot;rw [tn_tn,tn_tn];unfold tn;omega] at s1
  exact s1
 ·have s1:=Orb.step (phi rot (cut2 d.m (tn (d.m o) 2) (tn o 2))) (tn (d.m o) 2)
  rw [show phi rot (cut2 d.m (tn (d.m o) 2) (tn o 2)) (tn (d.m o) 2)=o by
   unfold phi;rw [c1,e];unfold rot;rw [tn_tn,tn_tn];unfold tn;omega] at s1
  have n1:o≠tn (d.m o) 2:=by rw [e,tn_tn];unfold tn;omega
  have n2:o≠tn o 2:=by unfold tn;omega
  have n3:o≠d.m (tn (d.m o) 2):=fun e2=>by
   have:d.m o=tn (d.m o) 2:=by have h:=hw.inv _ hB;rw [←e2] at h;exact h
   unfold tn at this;omega
  have n4:o≠d.m (tn o 2):=fun e2=>by
   have:d.m o=tn o 2:=by have h:=hw.inv _ hA;rw [←e2] at h;exact h
   exact no_opp hd ho this
  have s2:=Orb.step (phi rot (cut2 d.m (tn (d.m o) 2) (tn o 2))) o
  rw [show phi rot (cut2 d.m (tn (d.m o) 2) (tn o 2)) o=tn o 2 by
   unfold phi;rw [cut2_at _ _ n1 n2 n3 n4,e];unfold rot;rw [tn_tn];unfold tn;omega] at s2
  exact s1.trans s2
theorem kink_rs (hd:Valid d){o:Nat}(ho:o<4 * d.n)(hk:d.m o / 4=o / 4)(hn:d.m (tn o 2)≠tn (d.m o) 2){mt:List Nat}{lp:Nat}(hl:lp≤64)
 (hmt:∀h,h<4 * d.n→mt.getD h 0=if h=d.m (tn o 2) then d.m (tn (d.m o) 2) else if h=d.m (tn (d.m o) 2) then d.m (tn o 2) else d.m h) :
 Rs d [o / 4] mt lp (byp d.m (tn (d.m o) 2) (tn o 2)):=by
 have hw:=(Valid.iff.1 hd).1
 have hi:=hw.lt o ho
 have hA:tn o 2<4 * d.n:=tn_lt ho
 have hB:tn (d.m o) 2<4 * d.n:=tn_lt hi
 have hBA:tn (d.m o) 2≠tn o 2:=fun e=>hw.ne o ho (tn_inj e)
 have hmBA:d.m (tn (d.m o) 2)≠tn o 2:=fun e=>hn (by rw [←e,hw.inv _ hB])
 obtain ⟨b1,b2,b3,b4,b5⟩:=byp_at hw.hm hB hA hBA (hw.ne _ hB) (hw.ne _ hA) hmBA
 have q1:tn o 2 / 4=o / 4:=tn_div o 2
 have q2:tn (d.m o) 2 / 4=o / 4:=by rw [tn_div,hk]
 have four:=kink_four hd ho hk
 have inv:=hw.inv o ho
 -- the mates of A and B lie elsewhere
 have uA:d.m (tn o 2) / 4≠o / 4:=fun e=>by
  have h1:d.m (tn o 2)=o∨d.m (tn o 2)=d.m o∨d.m (tn o 2)=tn o 2∨d.m (tn o 2)=tn (d.m o) 2:=by rcases four with h | h <;> rw [h] <;> unfold tn at * <;> omega
  rcases h1 with h | h | h | h
  ·have:tn o 2=d.m o:=by have h2:=hw.inv _ hA;rw [h] at h2;exact h2.symm
   exact no_opp hd ho this.symm
  ·have:=hw.bij.inj _ _ hA ho h;unfold tn at this;omega
  ·exact hw.ne _ hA h
  ·exact hn h
 have uB:d.m (tn (d.m o) 2) / 4≠o / 4:=fun e=>by
  have h1:d.m (tn (d.m o) 2)=o∨d.m (tn (d.m o) 2)=d.m o∨d.m (tn (d.m o) 2)=tn o 2∨d.m (tn (d.m o) 2)=tn (d.m o) 2:=by rcases four with h | h <;> rw [h] at e ⊢ <;> unfold tn at * <;> omega
  rcases h1 with h | h | h | h
  ·have:tn (d.m o) 2=d.m o:=by have h2:=hw.inv _ hB;rw [h] at h2;exact h2.symm
   unfold tn at this;omega
  ·have:=hw.bij.inj _ _ hB ho h
   exact no_opp hd hi (by rw [inv];exact this.symm)
  ·exact hmBA h
  ·exact hw.ne _ hB h
 refine ⟨by simp,few_one _,(kink_byp hd ho hk hn).1,fun h hg=>?_,fun h hs=>?_,fun h hs=>?_,hl⟩
 ·have hc:h / 4=o / 4:=by simpa using hg.2
  have h1:h=o∨h=d.m o∨h=tn o 2∨h=tn (d.m o) 2:=by rcases four with h | h <;> rw [h] <;> unfold tn at * <;> omega
  have t1:o≠tn (d.m o) 2:=by rcases four with h | h <;> rw [h,tn_tn] <;> (unfold tn;omega)
  have t2:o≠tn o 2:=by unfold tn;omega
  have t3:d.m o≠tn (d.m o) 2:=by unfold tn;omega
  have t4:d.m o≠tn o 2:=no_opp hd ho
  rcases h1 with rfl | rfl | rfl | rfl
  ·rw [b5 h t1 t2 (fun e=>uB (by rw [←e])) (fun e=>uA (by rw [←e]))];simpa using hk
  ·rw [b5 _ t3 t4 (fun e=>uB (by rw [←e,hk])) (fun e=>uA (by rw [←e,hk])),inv];simp
  ·rw [b2];simpa using q1
  ·rw [b1];simpa using q2
 ·have hc:h / 4≠o / 4:=by simpa using hs.2
  rw [hmt h hs.1]
  by_cases e1:h=d.m (tn o 2)
  ·rw [if_pos e1,e1,b4]
  ·rw [if_neg e1]
   by_cases e2:h=d.m (tn (d.m o) 2)
   ·rw [if_pos e2,e2,b3]
   ·rw [if_neg e2,b5 h (fun e=>hc (by rw [e,q2])) (fun e=>hc (by rw [e,q1])) e2 e1]
 ·have hc:h / 4≠o / 4:=by simpa using hs.2
  have oA:out d (d.m (tn o 2))=out d o:=by rw [out_way hw hA,out_opp hw ho,Bool.not_not]
  have oB:out d (d.m (tn (d.m o) 2)) = !out d o:=by rw [out_way hw hB,out_opp hw hi,out_way hw ho,Bool.not_not]
  by_cases e1:h=d.m (tn o 2)
  ·rw [e1,b4,oA,oB];cases out d o <;> decide
  ·by_cases e2:h=d.m (tn (d.m o) 2)
   ·rw [e2,b3,oA,oB];cases out d o <;> decide
   ·rw [b5 h (fun e=>hc (by rw [e,q2])) (fun e=>hc (by rw [e,q1])) e2 e1]
    exact hw.way h hs.1
theorem kink_rs0 (hd:Valid d){o:Nat}(ho:o<4 * d.n)(hk:d.m o / 4=o / 4)(hn:d.m (tn o 2)=tn (d.m o) 2){lp:Nat}(hl:lp≤64):Rs d [o / 4] d.mt lp d.m:=by
 have hw:=(Valid.iff.1 hd).1
 have hi:=hw.lt o ho
 have hA:tn o 2<4 * d.n:=tn_lt ho
 have four:=kink_four hd ho hk
 refine ⟨by simp,few_one _,hw.hm,fun h hg=>?_,fun h hs=>dg_m hw hs.1,fun h hs=>hw.way h hs.1,hl⟩
 have hc:h / 4=o / 4:=by simpa using hg.2
 have h1:h=o∨h=d.m o∨h=tn o 2∨h=tn (d.m o) 2:=by rcases four with h | h <;> rw [h] <;> unfold tn at * <;> omega
 rcases h1 with rfl | rfl | rfl | rfl
 ·simpa using hk
 ·rw [hw.inv o ho];simp
 ·rw [hn,tn_div,hk];simp
 ·rw [←hn,hw.inv _ hA,tn_div];simp
theorem kink_valid (hd:Valid d){o:Nat}(ho:o<4 * d.n)(hk:d.m o / 4=o / 4)(hn:d.m (tn o 2)≠tn (d.m o) 2){mt:List Nat}{lp:Nat}(hl:lp≤64)
 (hmt:∀h,h<4 * d.n→mt.getD h 0=if h=d.m (tn o 2) then d.m (tn (d.m o) 2) else if h=d.m (tn (d.m o) 2) then d.m (tn o 2) else d.m h):Valid (rsD d [o / 4] mt lp) :=
 (kink_rs hd ho hk hn hl hmt).valid (Valid.iff.1 hd).1 (kink_byp hd ho hk hn).2
theorem kink_valid0 (hd:Valid d){o:Nat}(ho:o<4 * d.n)(hk:d.m o / 4=o / 4)(hn:d.m (tn o 2)=tn (d.m o) 2){lp:Nat}(hl:lp≤64):Valid (rsD d [o / 4] d.mt lp) :=
 (kink_rs0 hd ho hk hn hl).valid (Valid.iff.1 hd).1 (Valid.iff.1 hd).2
end Go.Proofs.YtdgliimmnnhhjaaGreatDoor.Pl
end
