/-
  The texts Jp, Jt, Jw, Jy.
-/
import Derived.Test.YtdgliimmnnhhjaaGreatDoorU48
set_option linter.unusedVariables false
set_option linter.unusedSimpArgs false
section
namespace Go.Proofs.YtdgliimmnnhhjaaGreatDoor
open Go Go.RowKit
attribute [local go_sem ↓] Go.wp_at_zero Go.wp_at_succ
theorem ex_lone:EX 1 lone:=by
 refine ⟨lone_valid,by decide,fun A B n cp cq m lp W hn hm hl hg=>?_,fun k x y s o hz A B n cp cq m lp W hn hm hl hg=>?_,fun z hz=>?_⟩
 ·subst hn hl
  refine (steps_lt lone lone_valid A B cp cq m 1 W hm hg (by decide)).mono ?_
  rintro e w' ⟨v,h1,h2,h3⟩
  exact ⟨v,h1,by
   have e9:stL lone 1=keepZ lone.n 1 (allL lone):=by unfold stL;rw [if_pos (by decide)]
   rw [e9]
   exact h2.at,h3⟩
 ·rw [lone_st] at hz
  have hc:=(lone_v hz).1
  obtain ⟨rfl,rfl,rfl,hs⟩:k=1∧x = -1∧y=0∧(s=1∨s = -1):=by
   simp only [cuN,List.mem_cons,List.not_mem_nil,or_false,Mv.mk.injEq] at hz
   rcases hz with h | h | h | h
   ·exact ⟨h.1,h.2.1,h.2.2.1,.inr h.2.2.2.1⟩
   ·exact ⟨h.1,h.2.1,h.2.2.1,.inr h.2.2.2.1⟩
   ·exact ⟨h.1,h.2.1,h.2.2.1,.inl h.2.2.2.1⟩
   ·exact ⟨h.1,h.2.1,h.2.2.1,.inl h.2.2.2.1⟩
  subst hn hl
  refine (apply_1 lone lone_valid A B cp cq m (-1) 0 s o W hm hg (by unfold inR;simp;rcases hs with rfl | rfl <;> decide)).mono ?_
  rintro e w' ⟨_,h2,h3⟩
  obtain ⟨A8,B8,b8,b9,k9,x9,y9,s9,o9,_,he,hT⟩:=(h2 (by
   have:=hc
   rw [cu_code (by decide) hs] at this
   exact this)).split
  exact ⟨A8,B8,b8,b9,k9,x9,y9,s9,o9,he,hT,h3⟩
 ·rw [lone_st] at hz
  obtain ⟨_,h1,h2⟩:=lone_v hz
  exact ⟨h1,by rw [h2];omega⟩
theorem ball_lone (A B:Option Addr)(cp cq:Nat)(w:World)(hg:DgAt w A B lone)(ht:GT w) :
 Calls Tryz.prog 7 #[.agg #[.slice A 0 cp,.slice B 0 cq,.int .i64 1],.int .i64 1,.int .i64 1] w fun e w'=>∃(a:Option Addr) (c:Nat),e = .returned (.tuple #[.slice a 3 c,.int .i64 0])∧Below w.heap.size w w':=by
 refine (ball_any lone lone_valid (by decide) 1 1 (by decide) (by decide) (by decide) A B 0 cp cq 0 1 w rfl rfl rfl hg ht (fun r i l ks x hr hb hx hs=>?_) (fun r i l ks x j l' ks' hr hb hx hs h=>?_)).mono ?_
 ·have e:=fmo_lone hr
  subst e
  rcases bo_lone hb with ⟨rfl,rfl,_⟩ | ⟨rfl,t,rfl,ht2,h4⟩
  ·injection hx with hx
   subst hx
   exact ex_lone
  ·match t,ht2,h4,hx with
   | [a, b], _, h4, hx =>
     injection hx with hx
     subst hx
     have:=h4 a (by simp)
     omega
 ·have e:=fmo_lone hr
  subst e
  rcases bo_lone hb with ⟨rfl,rfl,rfl⟩ | ⟨rfl,t,rfl,ht2,h4⟩
  ·injection hx with hx
   subst hx
   change BR 0 (nd0 lone) (stL lone 1) [nd0 lone] [keyD lone] j l' ks' at h
   show l'.length≤300∧(stL lone 1).length≤100000
   rw [lone_st] at h ⊢
   obtain ⟨h1,⟨t,h2,h3,_⟩,_⟩:=br_lone h
   refine ⟨?_,by decide⟩
   rw [h2,List.length_cons,h3]
   omega
  ·match t,ht2,h4,hx with
   | [a, b], _, h4, hx =>
     injection hx with hx
     subst hx
     have:=h4 a (by simp)
     omega
 ·rintro e w' ⟨r,i,zs,ks,a,c,hr,hb,hE,rfl,_,hbl⟩
  have e:=fmo_lone hr
  subst e
  obtain ⟨l,hl⟩:∃l,l=zs.map Nm.a:=⟨_,rfl⟩
  have h2:l.length=zs.length:=by rw [hl,List.length_map]
  rw [←hl] at hb hE
  clear hl
  rcases bo_lone hb with ⟨rfl,rfl,rfl⟩ | ⟨rfl,t,rfl,ht2,h4⟩
  ·have:=hE (nd0 lone) rfl
   exact absurd this (by decide)
  ·refine ⟨a,c,?_,hbl⟩
   rw [←h2,List.length_cons,ht2]
set_option maxRecDepth 100000 in
set_option maxHeartbeats 4000000 in
theorem awake48 (w:World)(ht:GT w):Calls Tryz.prog 4 #[] w fun e w'=>e = .returned (.bool true)∧Below w.heap.size w w':=by
 have HT:=hide ht
 clear ht
 go_enter Tryz.func4,Tryz.ntmps4
 go_wp2_with fail
 refine (ball_lone none none 0 0 w (none_at _ 1) HT.out).mono ?_
 rintro e w1 ⟨a,c,rfl,hb1⟩
 have B1:=hide hb1
 clear hb1
 go_upto_region 3 with fail
 obtain ⟨W1,hW1⟩:∃W:World,W=((w1.alloc (.cells #[.int .i64 1] 3)).alloc (.cells #[.int .i64 1,.int .i64 0,.int .i64 3,.int .i64 2] 3)).alloc (.cells #[.slice (some ⟨w1.heap.size,0,none⟩) 1 1,.slice (some ⟨w1.heap.size+1,0,none⟩) 4 4,.int .i64 0] 24):=⟨_,rfl⟩
 have I1:=hide (show IRow W1 w1.heap.size [1] by rw [hW1];exact ((row_at (vs:=[.int .i64 1]) rfl).alloc _).alloc _)
 have I2:=hide (show IRow W1 (w1.heap.size+1) [1,0,3,2] by rw [hW1];exact (row_at (vs:=[.int .i64 1,.int .i64 0,.int .i64 3,.int .i64 2]) (by simp)).alloc _)
 have R1:=hide (show Row W1 (w1.heap.size+1+1) 24 [.slice (some ⟨w1.heap.size,0,none⟩) 1 1,.slice (some ⟨w1.heap.size+1,0,none⟩) 4 4,.int .i64 0] by rw [hW1];exact row_at (vs:=[_,_,_]) (by simp))
 have b1:Below w1.heap.size w1 W1:=by rw [hW1];exact (((Below.refl _ _).alloc (Nat.le_refl _) _).alloc (by simp) _).alloc (by simp;omega) _
 have B2:=hide (B1.out.trans (b1.mono B1.out.size))
 have D1:=hide (show DgAt W1 (some ⟨w1.heap.size,0,none⟩) (some ⟨w1.heap.size+1,0,none⟩) kink from ⟨I1.out.ints,I2.out.ints⟩)
 rw [←hW1]
 clear hW1 b1 B1 I1 I2
 obtain ⟨d0,d1,d2,d3⟩:=box3 R1.out
 go_wp2_with fail
 refine (untie_kink _ _ 1 4 _ D1.out).mono ?_
 rintro e w3 ⟨AL,cL,rfl,hv,hb3⟩
 have B3:=hide (B2.out.trans (hb3.mono B2.out.size))
 obtain ⟨A5,c5,he5,hV⟩:=hv.mv
 injection he5 with e1 e2 e3
 subst e1
 subst e3
 obtain ⟨g8,zk,zx,zy,zs,zo,rfl,hgl,hz,c0,c1,c2,c3,c4⟩:=hV.at_ (j:=0) (by decide)
 obtain ⟨rfl,rfl,rfl,rfl,rfl⟩:(2:Int)=zk∧(0:Int)=zx∧(0:Int)=zy∧(0:Int)=zs∧false=zo:=by simpa using hz
 simp only [Nat.zero_mul,Nat.zero_add] at c0 c1 c2 c3 c4
 clear hv hV hb3 B2 D1 R1 d0 d1 d2 d3 e2 hz
 go_wp2
 go_ret
 exact ⟨rfl,B3.out⟩
end Go.Proofs.YtdgliimmnnhhjaaGreatDoor
end
section
namespace Go.Proofs.YtdgliimmnnhhjaaGreatDoor
open Go Go.RowKit
attribute [local go_sem ↓] Go.wp_at_zero Go.wp_at_succ
theorem step_app_src {P:Program}{w:World}{ops:Array Oper}{o:Oper}{a:Act}{K:Act→World→Prop}{Q:Exit→Act→World→Prop}{E:Prop}(hgd:o.guard=none)(s x:Operand)(t:TypeId)
 (ho:o.op = .call { callee := .builtin .append,args:=#[s,x],argTypes:=#[t,t] })
 (base:Nat) (e:TypeId) (i:TypeInfo) (z:Value) (bytes:Nat) (ht:P.underlying t=some (.slice e)) (hi:P.info? e=some i) (hz:i.zero=some z)
 (hsize:i.size=5) (hby:i.bytes=bytes) (hzs:z.cells.size=5)
 (v:Value) (n:Nat) (xs:List Value) (hs:a.eval s=v) (hown:w.ownsRow base e 5 v n xs)
 (A:Option Addr) (m c:Nat) (ys:List Value) (hx:a.eval x = .slice A m c) (hin:SrcAt w A m ys)
 (h63:n+m≤maxLen) (hbytes:(n+m) * bytes≤140737488355328) (hbase:base≤w.heap.size)
 (h:∀v' w',w'.ownsRow base e 5 v' (n+m) (xs++ys)→w.grownBy w' v.ownBlock→K (a.put o.dst v') w') :
 if Region.wanted o (yielded ops a.tmps)=true then Oper.wp P o a w K Q else E:=by
 have hw:Region.wanted o (yielded ops a.tmps)=true:=by simp [Region.wanted,hgd]
 rw [if_pos hw]
 exact wp_append_src w s x t ho base e i z bytes ht hi hz hsize hby hzs v n xs hs hown A m c ys hx hin h63 hbytes hbase h
theorem own_farB {W:World}{base s n g:Nat}{e:TypeId}{v:Value}{xs:List Value}(h:W.ownsRow base e s v n xs)(hg:g<base):some g≠v.ownBlock:=fun he=>by
 have:=(h.lt g he.symm).1
 omega
theorem moveInfoS:(Tryz.prog.info? 43).map (fun i=>(i.zero,i.size,i.bytes))=some (some (.agg #[.int .i64 0,.int .i64 0,.int .i64 0,.int .i64 0,.bool false]),5,40):=by kernel_rfl
set_option maxRecDepth 100000 in
set_option maxHeartbeats 4000000 in
theorem steps_ge (d:Pl.Dg)(hd:Pl.Valid d)(A B:Option Addr)(cp cq m:Nat)(most:Int)(w:World)(hm:m=4 * d.n)(hg:DgAt w A B d)(hge:most≤(d.n:Int)) :
 Calls Tryz.prog 19 #[.agg #[.slice A d.n cp,.slice B m cq,.int .i64 d.lp],.int .i64 most] w fun e w'=>∃v,e = .returned v∧MovesAt w' v (remL d++slD d)∧Below w.heap.size w w':=by
 have HM:=hide hm
 have HG:=hide hg
 have hn:=hd.wf.few
 clear hm hg
 obtain ⟨W0,hW0⟩:∃W:World,W=((w.alloc (.cells #[.slice A d.n cp,.slice B m cq,.int .i64 (d.lp:Int)] 24)).alloc (.cells #[.int .i64 most] 3)).alloc (.cells #[.int .i64 (d.n:Int)] 3):=⟨_,rfl⟩
 have b3:Below w.heap.size w W0:=by rw [hW0];exact (((Below.refl _ _).alloc (Nat.le_refl _) _).alloc (by simp) _).alloc (by simp;omega) _
 have R0:=hide (show Row W0 w.heap.size 24 [.slice A d.n cp,.slice B m cq,.int .i64 (d.lp:Int)] by rw [hW0];exact ((row_at (W:=w) (g:=w.heap.size) (t:=24) (vs:=[.slice A d.n cp,.slice B m cq,.int .i64 (d.lp:Int)]) rfl).alloc (.cells #[.int .i64 most] 3)).alloc (.cells #[.int .i64 (d.n:Int)] 3))
 have B0:=hide b3
 have hs0:w.heap.size<W0.heap.size:=R0.out.lt
 clear b3
 go_enter Tryz.func19,Tryz.ntmps19
 go_upto_region 3 with fail
 rw [←hW0]
 clear hW0
 have CR:=hide (fun (W:World) (hb:Below W0.heap.size W0 W)=>Removing_any d hd A B cp cq m W HM.out ((HG.out.keep B0.out).keep hb))
 have CS:=hide (fun (W:World) (hb:Below W0.heap.size W0 W)=>Slides_any d hd A B cp cq m W HM.out ((HG.out.keep B0.out).keep hb))
 have HC:=hide (show ∀W:World,Row W w.heap.size 24 [.slice A d.n cp,.slice B m cq,.int .i64 (d.lp:Int)]→W.cell? ⟨w.heap.size,0,none⟩=some (.slice A d.n cp)∧W.cell? ⟨w.heap.size,1,none⟩=some (.slice B m cq)∧W.cell? ⟨w.heap.size,2,none⟩=some (.int .i64 (d.lp:Int)) from fun W h=>by
  obtain ⟨a0,a1,a2,_⟩:=box3 h
  exact ⟨a0,a1,a2⟩)
 obtain ⟨i0,hi0,hx0,hx1,hx2⟩:=info_parts moveInfoS
 have lr:(remL d).length≤5000:=remL_le hn
 have ls:(slD d).length≤256:=by
  have h1:=slL_len d (4 * d.n)
  unfold slD
  omega
 have LRS:=hide (And.intro lr ls)
 obtain ⟨n1,hn1⟩:∃n,n=(remL d).length:=⟨_,rfl⟩
 obtain ⟨n2,hn2⟩:∃n,n=(slL d m).length:=⟨_,rfl⟩
 have HN1:=hide hn1
 have HN2:=hide hn2
 have lb:n1+n2≤maxLen:=by
  have:slL d m=slD d:=by unfold slD;rw [HM.out]
  rw [hn1,hn2,this]
  unfold maxLen
  omega
 have lb2:(n1+n2) * 40≤140737488355328:=by
  have:slL d m=slD d:=by unfold slD;rw [HM.out]
  have h3:n1+n2≤6000:=by rw [hn1,hn2,this];omega
  omega
 have kb:=(Below.refl W0.heap.size W0).drew
 have kc0:=HC.out W0 R0.out
 have kc:=HC.out W0.drew R0.out.drew
 have rx:=hide R0.out.drew
 clear hn1 hn2 lr ls
 go_region_held3 (fun W=>W.cell? ⟨w.heap.size,0,none⟩=some (.slice A d.n cp)∧W.cell? ⟨w.heap.size,1,none⟩=some (.slice B m cq)∧W.cell? ⟨w.heap.size,2,none⟩=some (.int .i64 (d.lp:Int)))
  ((first | (with_reducible exact kc) | (with_reducible exact kc0)))
  (first
    | (go_at_call 37
       refine Calls.mono (CR.out _ ?_) ?_
       ·exact kb
       rintro e w1 ⟨v1,rfl,⟨b1,hb1a,hb1b,own1⟩,hb1⟩
       obtain ⟨A1,c1,rfl⟩:=owns_slice own1
       rw [←HN1.out] at own1 ⊢
       have rm:=hide own1
       (try have sl:=hide (sl.out.kp (.of_below hb1)))
       have hgb1:=Nat.le_trans kb.size hb1a
       have hgb:=Nat.lt_of_lt_of_le hs0 hgb1
       have rx1:=hide (rx.out.below hb1)
       have kc1:=HC.out w1 rx1.out
       clear kc rx
       have kc:=kc1
       have rx:=rx1
       have kb:=kb.trans (hb1.mono kb.size)
       clear kc1 rx1 hb1 own1)
    | (go_at_call 38
       refine Calls.mono (CS.out _ ?_) ?_
       ·exact kb
       rintro e w2 ⟨v2,rfl,hv2,hb2⟩
       obtain ⟨b2,own2⟩:=hv2
       obtain ⟨A2,c2,rfl⟩:=owns_slice own2
       rw [←HN2.out] at own2 ⊢
       have sl:=hide (show MovesAt w2 (.slice A2 n2 c2) (slL d m) from ⟨b2,HN2.out ▸ own2⟩)
       (try have rm:=hide (own_below rm.out hb2))
       (try have hb1b:=Nat.le_trans hb1b hb2.size)
       have rx1:=hide (rx.out.below hb2)
       have kc1:=HC.out w2 rx1.out
       clear kc rx
       have kc:=kc1
       have rx:=rx1
       have kb:=kb.trans (hb2.mono kb.size)
       clear kc1 rx1 hb2 own2)
    | (refine step_app_src (by rfl) _ _ 39 (by rfl) b1 43 i0 _ 40 Tryz.underlying39 hi0 hx0 hx1 hx2 (by rfl) (.slice A1 n1 c1) n1 (mvs (remL d)) (by rfl) rm.out A2 n2 c2 (mvs (slL d m)) (by rfl) (src_of sl.out).2 lb lb2 hb1b ?_
       intro v9 w9 own9 gr9
       have OW9:=hide own9
       have rx1:=hide (Row.grown rx.out gr9 (own_farB rm.out hgb))
       have kc1:=HC.out w9 rx1.out
       clear kc
       have kc:=kc1
       have KB9:=hide (kb.grown gr9 kb.size (fun k hk=>Nat.le_trans hgb1 (rm.out.lt k hk).1))
       clear kc1 own9 gr9)
    | fail)
 clear kc kc0 rx
 go_wp2
 go_ret
 have e9:slL d m=slD d:=by unfold slD;rw [HM.out]
 refine ⟨v9,rfl,⟨b1,?_⟩,B0.out.trans (KB9.out.mono (Nat.le_of_lt hs0))⟩
 have own:=OW9.out
 rw [←mvs_append,HN1.out,HN2.out,←List.length_append,e9] at own
 exact own
theorem steps_any (d:Pl.Dg)(hd:Pl.Valid d)(A B:Option Addr)(n cp cq m lp:Nat)(most:Int)(w:World)(hn:n=d.n)(hm:m=4 * d.n)(hl:lp=d.lp)(hg:DgAt w A B d) :
 Calls Tryz.prog 19 #[.agg #[.slice A n cp,.slice B m cq,.int .i64 (lp:Int)],.int .i64 most] w fun e w'=>∃v,e = .returned v∧MovesAt w' v (stL d most)∧Below w.heap.size w w':=by
 subst hn hl
 unfold stL
 by_cases h:(d.n:Int)<most
 ·rw [if_pos h]
  refine (steps_lt d hd A B cp cq m most w hm hg h).mono ?_
  rintro e w' ⟨v,h1,h2,h3⟩
  exact ⟨v,h1,h2.at,h3⟩
 ·rw [if_neg h]
  exact steps_ge d hd A B cp cq m most w hm hg (by omega)
theorem apply_few (d:Pl.Dg)(hd:Pl.Valid d)(A B:Option Addr)(cp cq m:Nat)(mv:Mv)(w:World)(hm:m=4 * d.n)(hg:DgAt w A B d)(h5:mv.kind≠5)(hc:apC d mv=0) :
 Calls Tryz.prog 20 #[.agg #[.slice A d.n cp,.slice B m cq,.int .i64 d.lp],mv.v] w (ResC (apC d mv) (apD d mv) (apI d mv) w):=by
 obtain ⟨hk,hin,h0⟩:=apC_zero hc
 rw [hc]
 obtain ⟨k,x,y,s,o⟩:=mv
 simp only at hk h5 h0
 have hk5:k=1∨k=2∨k=3∨k=4:=by omega
 rcases hk5 with rfl | rfl | rfl | rfl
 ·rw [←show curlableC d x=0 from h0]
  exact apply_1 d hd A B cp cq m x y s o w hm hg hin
 ·obtain ⟨c,rfl⟩:=Int.eq_ofNat_of_zero_le (show 0≤x by have:=hin;unfold inR at this;simp at this;omega)
  rw [←show uncC d c=0 from h0]
  exact apply_2 d hd A B cp cq m c y s o w hm hg hin
 ·rw [←show pkQ d x y s=0 from h0]
  exact apply_3 d hd A B cp cq m x y s o w hm hg hin
 ·obtain ⟨c,rfl⟩:=Int.eq_ofNat_of_zero_le (show 0≤x by have:=hin;unfold inR at this;simp at this;omega)
  obtain ⟨c',rfl⟩:=Int.eq_ofNat_of_zero_le (show 0≤y by have:=hin;unfold inR at this;simp at this;omega)
  rw [←show unpC d c c'=0 from h0]
  exact apply_4 d hd A B cp cq m c c' s o w hm hg hin
theorem ex_all {most:Nat}(hm2:most≤2){d:Pl.Dg}(hd:Pl.Valid d)(hn:d.n≤most):EX (most:Int) d:=by
 refine ⟨hd,by omega,fun A B n cp cq m lp W h1 h2 h3 hg=>steps_any d hd A B n cp cq m lp most W h1 h2 h3 hg,fun k x y s o hz A B n cp cq m lp W h1 h2 h3 hg=>?_,fun z hz=>?_⟩
 ·subst h1 h3
  obtain ⟨hc,_,h5⟩:=stL_ok hd hm2 hn hz
  refine (apply_few d hd A B cp cq m ⟨k,x,y,s,o⟩ W h2 hg h5 hc).mono ?_
  rintro e w' ⟨_,h4,h5⟩
  obtain ⟨A8,B8,b8,b9,k9,x9,y9,s9,o9,_,he,hT⟩:=(h4 hc).split
  exact ⟨A8,B8,b8,b9,k9,x9,y9,s9,o9,he,hT,h5⟩
 ·obtain ⟨h1,h2,h5⟩:=stL_ok hd hm2 hn hz
  exact ⟨(ap_ok4 hd h5 h1).1,by omega⟩
end Go.Proofs.YtdgliimmnnhhjaaGreatDoor
end
section
namespace Go.Proofs.YtdgliimmnnhhjaaGreatDoor
open Go Go.RowKit
theorem ball_w (d:Pl.Dg)(hd:Pl.Valid d)(most rad:Nat)(hdm:d.n≤most)(hc:rad≤1∧most≤2∨rad≤2∧most≤1)(A B:Option Addr)(n0 cp cq m lp:Nat)(w:World)(hn0:n0=d.n)(hm:m=4 * d.n)(hl:lp=d.lp)(hg:DgAt w A B d)(ht:GT w) :
 Calls Tryz.prog 7 #[.agg #[.slice A n0 cp,.slice B m cq,.int .i64 (lp:Int)],.int .i64 (most:Int),.int .i64 (rad:Int)] w (BallPost d most rad w):=by
 have h2:most≤2:=by omega
 refine ball_any d hd (by omega) most rad hdm (by omega) (by omega) A B n0 cp cq m lp w hn0 hm hl hg ht (fun r i l ks x hF h hx hs=>?_) (fun r i l ks x j l' ks' hF h hx hs hr=>?_)
 ·obtain ⟨rv,_,rn,_⟩:=hF.ok hd
  obtain ⟨xv,xn,_⟩:=(BO.ok h2 h rv (by omega)).v x (List.mem_of_getElem? hx)
  exact ex_all h2 xv xn
 ·obtain ⟨rv,_,rn,_⟩:=hF.ok hd
  exact bo_few rv (by omega) hc h hx hs hr
end Go.Proofs.YtdgliimmnnhhjaaGreatDoor
end
section
namespace Go.Proofs.YtdgliimmnnhhjaaGreatDoor
open Go Go.RowKit
structure GwL (d:Pl.Dg) (most:Nat) (r:Pl.Dg) (zs zs':List Nm):Prop where
 hd:∃z,zs'[0]? = some z∧z.a.d=r
 le:zs.length≤zs'.length
 pos:0<zs.length
 eq:∀(i:Nat) (z z':Nm),zs[i]? = some z→zs'[i]? = some z'→z.a.d=z'.a.d
 ok:∀z,z ∈ zs'→Pl.Valid z.a.d∧z.a.d.n≤most∧strN z.a.d+z.a.d.lp=strN d+d.lp
 nd:∀(i:Nat) (z:Nm),zs'[i]? = some z→keyD z.a.d ∉ keysL ((zs'.take i).map Nm.a)
theorem nodup_take {α:Type}:∀{l:List α},l.Nodup→∀(i:Nat) (x:α),l[i]? = some x→x ∉ l.take i
 | [],_,i,x,h=>by simp at h
 | a :: l,hn,0,x,h=>by simp
 | a :: l, hn, i + 1, x, h => by
   rw [List.take_succ_cons,List.mem_cons]
   rintro (e | e)
   ·subst e
    exact (List.nodup_cons.1 hn).1 (List.mem_of_getElem? (by simpa using h))
   ·exact nodup_take (List.nodup_cons.1 hn).2 i x (by simpa using h) e
theorem grows_plain {d:Pl.Dg}(hd:Pl.Valid d){most r0 r1:Nat}(hm2:most≤2)(hr:r0≤r1)(hn:d.n≤most){r r' r2:Pl.Dg}(hF:FmO d r)(hF':FmO d r')(hF2:FmO d r2){i j:Nat}{zs zs':List Nm}{ks ks':List (List UInt8)}
 (h:BO most r0 r i (zs.map Nm.a) ks) (h':BO most r1 r' j (zs'.map Nm.a) ks') (he:∀x,(zs'.map Nm.a)[j]? = some x→r1≤x.s):GwL d most r2 zs zs':=by
 obtain ⟨e,t,ht⟩:=ball_grows hm2 hr hd hn hF hF' h h' he
 subst e
 have e2:r=r2:=FmO.eq hd hd ⟨_,Pl.Iso.refl _⟩ hF hF2
 subst e2
 obtain ⟨⟨t1,h1⟩,_,_⟩:=ball_facts hm2 hd hn hF h
 obtain ⟨⟨t2,h2⟩,g2,g3⟩:=ball_facts hm2 hd hn hF h'
 have hle:zs.length≤zs'.length:=by
  have:=congrArg List.length ht
  rw [List.length_append,List.length_map,List.length_map] at this
  omega
 have hpos:0<zs.length:=by
  have:=congrArg List.length h1
  rw [List.length_map,List.length_cons] at this
  omega
 refine ⟨?_,hle,hpos,fun i z z' hz hz'=>?_,fun z hz=>g2 z.a (List.mem_map_of_mem hz),fun i z hz=>?_⟩
 ·obtain ⟨z,hz⟩:∃z,zs'[0]? = some z:=⟨_,List.getElem?_eq_getElem (by omega)⟩
  refine ⟨z,hz,?_⟩
  have h3:(zs'.map Nm.a)[0]? = some z.a:=by rw [List.getElem?_map,hz];rfl
  rw [h2] at h3
  have h3:nd0 r=z.a:=by simpa using h3
  rw [←h3];rfl
 ·have h3:(zs'.map Nm.a)[i]? = some z'.a:=by rw [List.getElem?_map,hz'];rfl
  have h4:(zs.map Nm.a)[i]? = some z.a:=by rw [List.getElem?_map,hz];rfl
  rw [ht,List.getElem?_append_left (List.getElem?_eq_some_iff.1 h4).1,h4] at h3
  have h3:z.a=z'.a:=by simpa using h3
  rw [h3]
 ·have h3 : (keysL (zs'.map Nm.a))[i]? = some (keyD z.a.d) := by
   unfold keysL
   rw [List.getElem?_map,List.getElem?_map,hz];rfl
  have:=nodup_take g3 i _ h3
  rwa [show (keysL (zs'.map Nm.a)).take i=keysL ((zs'.take i).map Nm.a) by unfold keysL;rw [List.map_take,List.map_take]] at this
theorem DgsAt.kp {W W':World}{v:Value}{zs:List Nm}(h:DgsAt W v zs)(k1:KpT 24 W W')(k2:KpT 3 W W'):DgsAt W' v zs :=
 ⟨let ⟨b,h⟩:=h.1;⟨b,own_kp h k1⟩,fun z hz=>(h.2 z hz).kp k2⟩
theorem DgsAt.below {W W':World}{v:Value}{zs:List Nm}(h:DgsAt W v zs)(hb:Below W.heap.size W W'):DgsAt W' v zs:=h.kp (.of_below hb) (.of_below hb)
theorem dgs_get:∀(zs:List Nm) (j:Nat) (z:Nm),zs[j]? = some z→∀(i:Nat) (u:Value),(dg3 z)[i]? = some u→(dgs zs)[j * 3+i]? = some u
 | [],j,z,h,_,_,_=>by cases h
 | m :: ms, 0, z, h, i, u, hu => by
   obtain rfl:m=z:=by simpa using h
   show (dg3 m++dgs ms)[0 * 3+i]? = _
   rw [Nat.zero_mul,Nat.zero_add,List.getElem?_append_left (List.getElem?_eq_some_iff.1 hu).1]
   exact hu
 | m :: ms, j + 1, z, h, i, u, hu => by
   show (dg3 m++dgs ms)[(j+1) * 3+i]? = _
   rw [List.getElem?_append_right (by show 3≤_;omega),show (j+1) * 3+i - (dg3 m).length=j * 3+i by show (j+1) * 3+i - 3=_;omega]
   exact dgs_get ms j z (by simpa using h) i u hu
theorem DgsAt.cells {W:World}{g n c j:Nat}{z:Nm}{zs:List Nm}(h:DgsAt W (.slice (some ⟨g,0,none⟩) n c) zs)(hn:n=zs.length)(hz:zs[j]? = some z) :
 W.cell? ⟨g,j * 3,none⟩=some (.slice z.A z.a.d.n z.c)∧W.cell? ⟨g,j * 3+1,none⟩=some (.slice z.B (4 * z.a.d.n) z.e)∧W.cell? ⟨g,j * 3+2,none⟩=some (.int .i64 (z.a.d.lp:Int))∧DgT W z.A z.B z.a.d:=by
 subst hn
 obtain ⟨⟨b,o⟩,hd⟩:=h
 have hj:=(List.getElem?_eq_some_iff.1 hz).1
 have C:∀(t:Nat) (u:Value),t<3→(dg3 z)[t]? = some u→W.cell? ⟨g,j * 3+t,none⟩=some u:=fun t u ht e=>by
  rw [World.ownsRow.cellAt o (j * 3+t) (by omega),dgs_get zs j z hz t u e]
 exact ⟨C 0 _ (by omega) rfl,C 1 _ (by omega) rfl,C 2 _ (by omega) rfl,hd z (List.mem_of_getElem? hz)⟩
theorem DgsAt.form {W:World}{a:Option Addr}{n c:Nat}{zs:List Nm}(h:DgsAt W (.slice a n c) zs)(hp:0<zs.length)(hn:n=zs.length):∃g,a=some ⟨g,0,none⟩∧n≤maxLen:=by
 obtain ⟨⟨b,_,o⟩,hd⟩:=h
 rcases o with ⟨_,h0⟩ | ⟨g,cap,cur,hA,_,_,h2,h3,_⟩
 ·omega
 ·injection hA with hA hB hC
  exact ⟨g,hA,by omega⟩
structure SgL (w:World) (dv:List Value) (va vb:Value) (zs zs':List Nm) (gm i:Nat) (W:World):Prop where
 bx:Row W w.heap.size 24 dv
 da:DgsAt W va zs
 db:DgsAt W vb zs'
 mp:MapIs W gm (keysL ((zs'.take i).map Nm.a))
 gml:w.heap.size≤gm
 bel:Below w.heap.size w W
theorem SgL.below {w W W':World}{dv:List Value}{va vb:Value}{zs zs':List Nm}{gm i:Nat}(h:SgL w dv va vb zs zs' gm i W)(hb:Below W.heap.size W W'):SgL w dv va vb zs zs' gm i W' :=
 ⟨h.bx.below hb,h.da.below hb,h.db.below hb,h.mp.same (hb.block gm h.mp.lt),h.gml,h.bel.trans (hb.mono h.bel.size)⟩
theorem SgL.put {w W W':World}{dv:List Value}{va vb:Value}{zs zs':List Nm}{gm i:Nat}{z:Nm}(h:SgL w dv va vb zs zs' gm i W)(hz:zs'[i]? = some z)(hm:MapIs W' gm (keysL ((zs'.take i).map Nm.a)++[keyD z.a.d]))(hg:W.grownBy W' (some gm)):SgL w dv va vb zs zs' gm (i+1) W':=by
 have k:∀t,KpT t W W':=fun t => .of_map hg h.mp.obj
 refine ⟨h.bx.kp (k _),h.da.kp (k _) (k _),h.db.kp (k _) (k _),?_,h.gml,h.bel.grown hg h.bel.size fun j hj=>by injection hj with hj;have:=h.gml;omega⟩
 have e:keysL ((zs'.take (i+1)).map Nm.a)=keysL ((zs'.take i).map Nm.a)++[keyD z.a.d]:=by
  rw [List.take_add_one,hz]
  unfold keysL
  simp
 rw [e]
 exact hm
theorem SgL.look {w W:World}{dv:List Value}{va vb:Value}{zs zs':List Nm}{gm i:Nat}{z:Nm}{d r:Pl.Dg}{most:Nat}(h:SgL w dv va vb zs zs' gm i W)(hG:GwL d most r zs zs')(hz:zs'[i]? = some z){sk:ByteArray}(hk:sk.data.toList=keyD z.a.d)(hs:sk.size≤180000) :
 (Instr.lookup 35 (.map (some gm)) (.string sk) false).run Tryz.prog W = .ok (.bool false) W:=by
 have h2:=h.mp.look sk (by unfold maxLen;omega)
 rwa [hk,Pl.vb_false (hG.nd i z hz)] at h2
end Go.Proofs.YtdgliimmnnhhjaaGreatDoor
end
