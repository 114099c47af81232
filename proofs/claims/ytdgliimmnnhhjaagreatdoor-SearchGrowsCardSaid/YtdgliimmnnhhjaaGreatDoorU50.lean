/-
  The texts Jz.
-/
import Derived.Test.YtdgliimmnnhhjaaGreatDoorU20
import Derived.Test.YtdgliimmnnhhjaaGreatDoorU49
set_option linter.unusedVariables false
set_option linter.unusedSimpArgs false
section
namespace Go.Proofs.YtdgliimmnnhhjaaGreatDoor
open Go Go.RowKit
attribute [local go_sem ↓] Go.wp_at_zero Go.wp_at_succ
set_option maxRecDepth 100000 in
set_option maxHeartbeats 2000000 in
theorem r1eq_dg (d:Pl.Dg)(A B A2 B2:Option Addr)(n m l c e c2 e2 n2 m2 l2:Nat)(w:World)(hn:n=d.n)(hm:m=4 * d.n)(hl:l=d.lp)(hn2:n2=n)(hm2:m2=m)(hl2:l2=l)(h20:d.n≤20)(h:DgAt w A B d)(h2:DgAt w A2 B2 d) :
 Calls Tryz.prog 9 #[.agg #[.slice A n c,.slice B m e,.int .i64 (l:Int)],.agg #[.slice A2 n2 c2,.slice B2 m2 e2,.int .i64 (l2:Int)]] w fun e w'=>e = .returned (.bool true)∧Below w.heap.size w w':=by
 have hn1:n≤100000:=by omega
 have hm1:m≤100000:=by omega
 subst hn2 hm2 hl2
 have HX:=hide (show IntsAt w A n2 d.sg by rw [hn];exact h.s)
 have HY:=hide (show IntsAt w B m2 (nats d.mt) by rw [hm];exact h.m)
 have HX2:=hide (show IntsAt w A2 n2 d.sg by rw [hn];exact h2.s)
 have HY2:=hide (show IntsAt w B2 m2 (nats d.mt) by rw [hm];exact h2.m)
 clear h h2 hn hm hl h20
 have X1:=hide ((row_at (W:=w) (g:=w.heap.size) (t:=24) (vs:=[.slice A n2 c,.slice B m2 e,.int .i64 (l2:Int)]) rfl).below ((Below.refl _ _).alloc (Nat.le_refl _) (.cells #[.slice A2 n2 c2,.slice B2 m2 e2,.int .i64 (l2:Int)] 24)))
 have Y1:=hide (row_at (W:=w.alloc (.cells #[.slice A n2 c,.slice B m2 e,.int .i64 (l2:Int)] 24)) (g:=w.heap.size+1) (t:=24) (vs:=[.slice A2 n2 c2,.slice B2 m2 e2,.int .i64 (l2:Int)]) (by simp))
 have B0:=hide (show Below w.heap.size w ((w.alloc (.cells #[.slice A n2 c,.slice B m2 e,.int .i64 (l2:Int)] 24)).alloc (.cells #[.slice A2 n2 c2,.slice B2 m2 e2,.int .i64 (l2:Int)] 24)) from ((Below.refl _ _).alloc (Nat.le_refl _) _).alloc (by simp) _)
 obtain ⟨d0,d1,d2',d3⟩:=box3 X1.out
 obtain ⟨e0,e1,e2,e3⟩:=box3 Y1.out
 go_enter Tryz.func9,Tryz.ntmps9
 go_wp2_with fail
 refine (ints_eq A A2 n2 c c2 d.sg _ (HX.out.keep B0.out) (HX2.out.keep B0.out) hn1).mono ?_
 rintro e w1 ⟨rfl,hb1⟩
 have B1:=hide (B0.out.trans (hb1.mono B0.out.size))
 have X2:=hide (X1.out.below hb1)
 have Y2:=hide (Y1.out.below hb1)
 clear hb1 d0 d1 d2' d3 e0 e1 e2 e3 X1 Y1
 obtain ⟨d0,d1,d2',d3⟩:=box3 X2.out
 obtain ⟨e0,e1,e2,e3⟩:=box3 Y2.out
 go_wp2_with fail
 refine (ints_eq B B2 m2 _ _ (nats d.mt) _ (HY.out.keep B1.out) (HY2.out.keep B1.out) hm1).mono ?_
 rintro e w2 ⟨rfl,hb2⟩
 have B2:=hide (B1.out.trans (hb2.mono B1.out.size))
 have X3:=hide (X2.out.below hb2)
 have Y3:=hide (Y2.out.below hb2)
 clear hb2 d0 d1 d2' d3 e0 e1 e2 e3 X2 Y2
 obtain ⟨d0,d1,d2',d3⟩:=box3 X3.out
 obtain ⟨e0,e1,e2,e3⟩:=box3 Y3.out
 go_wp2
 go_ret
 exact ⟨rfl,B2.out⟩
theorem r1valid_n (d:Pl.Dg)(hd:Pl.Valid d)(A B:Option Addr)(n cp cq m lp:Nat)(w:World)(hn:n=d.n)(hm:m=4 * d.n)(hl:lp=d.lp)(hg:DgAt w A B d) :
 Calls Tryz.prog 6 #[.agg #[.slice A n cp,.slice B m cq,.int .i64 (lp:Int)]] w fun e w'=>e = .returned (.bool true)∧Below w.heap.size w w':=by
 subst hn hm hl
 have h1:=hd.wf.few
 have h2:=hd.wf.lp
 have h:=r1valid_any d.sg (nats d.mt) d.lp A B d.n (4 * d.n) cp cq w hg.s hg.m (by unfold maxLen;omega) (by unfold maxLen;omega) (by omega)
 rwa [Pl.vb_true (vl_of.2 hd)] at h
theorem small48_any (A B:Option Addr)(n q cp cq:Nat)(lp:Int)(w:World):Calls Tryz.prog 5 #[.agg #[.slice A n cp,.slice B q cq,.int .i64 lp],.int .i64 1] w fun e w'=>(e = .returned (.int .i64 0)∨e = .returned (.int .i64 1)∧n≤1)∧Below w.heap.size w w':=by
 by_cases h1:(1:Int)<(n:Int)
 ·go_enter Tryz.func5,Tryz.ntmps5
  go_wp2
  go_ret
  exact ⟨.inl rfl,(Below.refl _ _).alloc (Nat.le_refl _) _⟩
 ·by_cases h2:(40:Int)<(q:Int)
  ·go_enter Tryz.func5,Tryz.ntmps5
   go_wp2
   go_ret
   exact ⟨.inl rfl,(Below.refl _ _).alloc (Nat.le_refl _) _⟩
  ·by_cases h3:(3:Int)<lp
   ·go_enter Tryz.func5,Tryz.ntmps5
    go_wp2
    go_ret
    exact ⟨.inl rfl,(Below.refl _ _).alloc (Nat.le_refl _) _⟩
   ·go_enter Tryz.func5,Tryz.ntmps5
    go_wp2
    go_ret
    exact ⟨.inr ⟨rfl,by omega⟩,(Below.refl _ _).alloc (Nat.le_refl _) _⟩
set_option maxRecDepth 100000 in
set_option maxHeartbeats 4000000 in
theorem sgrows_bad (sg mt:List Int)(lp:Int)(A B:Option Addr)(n q cp cq mo rd:Nat)(w:World)(hs:IntsAt w A n sg)(hm:IntsAt w B q mt)(hn:n≤maxLen)(hq:q≤maxLen)(hlp:-9223372036854775808≤lp∧lp≤9223372036854775807)(hv:¬Pl.VL sg mt lp)(ht:GT w) :
 Calls Tryz.prog 3 #[.agg #[.slice A n cp,.slice B q cq,.int .i64 lp],.int .u8 (mo:Int),.int .u8 (rd:Int)] w fun e w'=>e = .returned (.bool true)∧Below w.heap.size w w':=by
 have HS:=hide hs
 have HM:=hide hm
 have HT:=hide ht
 clear hs hm ht
 have X0:=hide (row_at (W:=w) (g:=w.heap.size) (t:=24) (vs:=[.slice A n cp,.slice B q cq,.int .i64 lp]) rfl)
 have B0:=hide (show Below w.heap.size w (w.alloc (.cells #[.slice A n cp,.slice B q cq,.int .i64 lp] 24)) from (Below.refl _ _).alloc (Nat.le_refl _) _)
 go_enter Tryz.func3,Tryz.ntmps3
 go_wp2_with fail
 refine (awake48 _ (HT.out.below B0.out)).mono ?_
 rintro e w1 ⟨rfl,hb1⟩
 have Y0:=hide (X0.out.below hb1)
 have B1:=hide (B0.out.trans (hb1.mono B0.out.size))
 clear X0 B0 hb1
 obtain ⟨d0,d1,d2,d3⟩:=box3 Y0.out
 go_wp2_with fail
 refine (small48_any A B n q cp cq lp w1).mono ?_
 rintro e w2 ⟨he,hb2⟩
 have Z0:=hide (Y0.out.below hb2)
 have B2:=hide (B1.out.trans (hb2.mono B1.out.size))
 clear Y0 B1 hb2 d0 d1 d2 d3
 obtain ⟨d0,d1,d2,d3⟩:=box3 Z0.out
 rcases he with rfl | ⟨rfl,_⟩
 ·go_wp2
  go_ret
  exact ⟨rfl,B2.out⟩
 ·go_wp2_with fail
  refine (r1valid_any sg mt lp A B n q cp cq _ (HS.out.keep B2.out) (HM.out.keep B2.out) hn hq hlp).mono ?_
  rintro e w3 ⟨rfl,hb3⟩
  rw [Pl.vb_false hv]
  have B3:=hide (B2.out.trans (hb3.mono B2.out.size))
  clear hb3 d0 d1 d2 d3 B2 Z0
  go_wp2
  go_ret
  exact ⟨rfl,B3.out⟩
theorem ball_v (d:Pl.Dg)(hd:Pl.Valid d)(most rad:Nat)(mv rv:Int)(hmv:mv=(most:Int))(hrv:rv=(rad:Int))(hdm:d.n≤most)(hc:rad≤1∧most≤2∨rad≤2∧most≤1)(A B:Option Addr)(n0 cp cq m lp:Nat)(w:World)(hn0:n0=d.n)(hm:m=4 * d.n)(hl:lp=d.lp)(hg:DgAt w A B d)(ht:GT w) :
 Calls Tryz.prog 7 #[.agg #[.slice A n0 cp,.slice B m cq,.int .i64 (lp:Int)],.int .i64 mv,.int .i64 rv] w (BallPost d most rad w):=by
 subst hmv hrv
 exact ball_w d hd most rad hdm hc A B n0 cp cq m lp w hn0 hm hl hg ht
set_option maxRecDepth 100000 in
set_option maxHeartbeats 16000000 in
theorem sgrows_valid (d:Pl.Dg)(hd:Pl.Valid d)(A B:Option Addr)(n cp cq m lp mo rd:Nat)(w:World)(hn:n=d.n)(hm:m=4 * d.n)(hl:lp=d.lp)(hg:DgAt w A B d)(ht:GT w)(hmo:mo<256)(hrd:rd<256) :
 Calls Tryz.prog 3 #[.agg #[.slice A n cp,.slice B m cq,.int .i64 (lp:Int)],.int .u8 (mo:Int),.int .u8 (rd:Int)] w fun e w'=>e = .returned (.bool true)∧Below w.heap.size w w':=by
 have HN:=hide hn
 have HM:=hide hm
 have HL:=hide hl
 have HG:=hide hg
 have HT:=hide ht
 have HD:=hide hd
 have hn1:=hd.wf.few
 have hl1:=hd.wf.lp
 rw [←hn] at hn1
 rw [←hl] at hl1
 clear hn hm hl hg ht hd
 have X0:=hide (row_at (W:=w) (g:=w.heap.size) (t:=24) (vs:=[.slice A n cp,.slice B m cq,.int .i64 (lp:Int)]) rfl)
 have B0:=hide (show Below w.heap.size w (w.alloc (.cells #[.slice A n cp,.slice B m cq,.int .i64 (lp:Int)] 24)) from (Below.refl _ _).alloc (Nat.le_refl _) _)
 go_enter Tryz.func3,Tryz.ntmps3
 go_wp2_with fail
 refine (awake48 _ (HT.out.below B0.out)).mono ?_
 rintro e w1 ⟨rfl,hb1⟩
 have Y0:=hide (X0.out.below hb1)
 have B1:=hide (B0.out.trans (hb1.mono B0.out.size))
 clear X0 B0 hb1
 obtain ⟨d0,d1,d2,d3⟩:=box3 Y0.out
 go_wp2_with fail
 refine (small48_any A B n m cp cq (lp:Int) w1).mono ?_
 rintro e w2 ⟨he,hb2⟩
 have Z0:=hide (Y0.out.below hb2)
 have B2:=hide (B1.out.trans (hb2.mono B1.out.size))
 clear Y0 B1 hb2 d0 d1 d2 d3
 obtain ⟨d0,d1,d2,d3⟩:=box3 Z0.out
 rcases he with rfl | ⟨rfl,hnle⟩
 ·go_wp2
  go_ret
  exact ⟨rfl,B2.out⟩
 go_wp2_with fail
 refine (r1valid_n d HD.out A B n cp cq m lp _ HN.out HM.out HL.out (HG.out.keep B2.out)).mono ?_
 rintro e w3 ⟨rfl,hb3⟩
 have X3:=hide (Z0.out.below hb3)
 have B3:=hide (B2.out.trans (hb3.mono B2.out.size))
 clear hb3 d0 d1 d2 d3 B2 Z0
 obtain ⟨d0,d1,d2,d3⟩:=box3 X3.out
 obtain ⟨km,hkm⟩:∃k,k=mo % 2:=⟨_,rfl⟩
 have hkmi:(mo:Int).tmod 2=(km:Int):=by rw [hkm];rfl
 obtain ⟨kr,hkr⟩:∃k,k=rd % 2:=⟨_,rfl⟩
 have hkri:(rd:Int).tmod 2=(kr:Int):=by rw [hkr];rfl
 have hkm2:km≤1:=by omega
 have hkr2:kr≤1:=by omega
 obtain ⟨most,hmost⟩:∃k,k=n+km:=⟨_,rfl⟩
 have hw1:=hide (show (n:Int)+(km:Int)=(most:Int) by omega)
 obtain ⟨r0,hr0⟩:∃k,k=1+kr:=⟨_,rfl⟩
 have hw2:=hide (show 1+(kr:Int)=(r0:Int) by omega)
 have hmle:n≤most:=by omega
 have hm2:most≤2:=by omega
 clear hkm hkr
 obtain ⟨rad,ra,hrad,hra,hra2,hrc⟩:∃r k:Nat,(r=if 1<most then 1 else r0)∧r=k+1∧(r≤2)∧(r≤1∧most≤2∨r≤2∧most≤1):=by
  by_cases h:1<most
  ·exact ⟨1,0,by rw [if_pos h],rfl,by omega,by omega⟩
  ·exact ⟨r0,r0 - 1,by rw [if_neg h],by omega,by omega,by omega⟩
 have HRC:=hide hrc
 have hr1:=hide (show (1:Int)<(most:Int)→(rad:Int)=1 from fun h=>by rw [if_pos (show 1<most by omega)] at hrad;omega)
 have hr2:=hide (show ¬(1:Int)<(most:Int)→(r0:Int)=(rad:Int) from fun h=>by rw [if_neg (show ¬1<most by omega)] at hrad;omega)
 have HMR:=hide (And.intro hmost hr0)
 have HRA:=hide hra
 have hra1:1≤rad:=by omega
 clear hrad hrc hmost hr0 hra
 go_upto_region 7 with fail
 rw [hw1.out,hw2.out]
 clear hw1 hw2
 go_upto_if 40 with fail
 go_cut [8] from 39 to 40 (fun s8 wx=>s8 = .int .i64 (rad:Int)∧wx=w3)
 case first =>
  by_cases h1:(1:Int)<(most:Int)
  ·have hq:=hide (show (1:Int)=(rad:Int) by have:=hr1.out h1;omega)
   go_wp2_with fail
   go_meet
   exact ⟨by rw [hq.out],rfl⟩
  ·have hq:=hide (show (r0:Int)=(rad:Int) by exact hr2.out (by omega))
   go_wp2_with fail
   go_meet
   exact ⟨by rw [hq.out],rfl⟩
 case rest =>
  obtain ⟨rfl,rfl⟩:=hcut
  clear hr1 hr2
  have hdn:d.n≤most:=by have:=HMR.out;rw [←HN.out];omega
  have HDN:=hide hdn
  clear hdn
  go_wp2_with fail
  refine (ball_v d HD.out most ra _ _ rfl (by have:=HRA.out;omega) HDN.out (by have:=HRC.out;have:=HRA.out;omega) A B n cp cq m lp _ HN.out HM.out HL.out (HG.out.keep B3.out) (HT.out.below B3.out)).mono ?_
  rintro e w4 ⟨rA,iA,zA,kA,aA,cA,fA,bA,eA,rfl,gA,hb4⟩
  obtain ⟨NA,hNA⟩:∃k,k=zA.length:=⟨_,rfl⟩
  rw [←hNA] at gA
  rw [←hNA]
  have HFA:=hide fA
  have HBA:=hide bA
  have GA:=hide gA
  have HNA:=hide hNA
  have X4:=hide (X3.out.below hb4)
  have B4:=hide (B3.out.trans (hb4.mono B3.out.size))
  clear hb4 fA bA eA gA hNA X3 B3 d0 d1 d2 d3
  obtain ⟨d0,d1,d2,d3⟩:=box3 X4.out
  go_wp2_with fail
  refine (ball_v d HD.out most rad _ _ rfl rfl HDN.out HRC.out A B n cp cq m lp _ HN.out HM.out HL.out (HG.out.keep B4.out) (HT.out.below B4.out)).mono ?_
  rintro e w5 ⟨rB,iB,zB,kB,aB,cB,fB,bB,eB,rfl,gB,hb5⟩
  obtain ⟨NB,hNB⟩:∃k,k=zB.length:=⟨_,rfl⟩
  rw [←hNB] at gB
  rw [←hNB]
  have HNB:=hide hNB
  have GA5:=hide (GA.out.below hb5)
  have GB5:=hide gB
  have X5:=hide (X4.out.below hb5)
  have B5:=hide (B4.out.trans (hb5.mono B4.out.size))
  have HGW:=hide (fun (r2:Pl.Dg) (h2:FmO d r2)=>grows_plain HD.out hm2 (show ra≤rad by have:=HRA.out;omega) HDN.out HFA.out fB h2 HBA.out bB eB)
  clear hb5 fB bB eB gB hNB X4 B4 GA HFA HBA d0 d1 d2 d3
  obtain ⟨d0,d1,d2,d3⟩:=box3 X5.out
  go_wp2_with fail
  refine (form_any d HD.out (by have:=HN.out;omega) A B n cp cq m lp _ HN.out HM.out HL.out (HG.out.keep B5.out)).mono ?_
  rintro e w6 ⟨rF,AF,BF,cF,eF,hF,rfl,hTF,hb6⟩
  have GW:=hide (HGW.out rF hF)
  have HFO:=hide (hF.ok HD.out)
  have GA6:=hide (GA5.out.below hb6)
  have GB6:=hide (GB5.out.below hb6)
  have X6:=hide (X5.out.below hb6)
  have B6:=hide (B5.out.trans (hb6.mono B5.out.size))
  have TF:=hide hTF
  clear hF hTF hb6 X5 B5 GA5 GB5 HGW d0 d1 d2 d3
  go_upto_region 12 with fail
  obtain ⟨W7,hW7⟩:∃W:World,W=w6.alloc (.cells #[.slice AF n cF,.slice BF m eF,.int .i64 (lp:Int)] 24):=⟨_,rfl⟩
  obtain ⟨gF,hgF⟩:∃g,g=w6.heap.size:=⟨_,rfl⟩
  have b7:Below w6.heap.size w6 W7:=by rw [hW7];exact (Below.refl _ _).alloc (Nat.le_refl _) _
  have RF:=hide (show Row W7 gF 24 [.slice AF n cF,.slice BF m eF,.int .i64 (lp:Int)] by rw [hW7];exact row_at (vs:=[_,_,_]) hgF)
  rw [←hW7,←hgF]
  have GA7:=hide (GA6.out.below b7)
  have GB7:=hide (GB6.out.below b7)
  have X7:=hide (X6.out.below b7)
  have B7:=hide (B6.out.trans (b7.mono B6.out.size))
  have TF7:=hide (TF.out.keep b7)
  clear hW7 hgF b7 GA6 GB6 X6 B6 TF
  have hNA1:1≤NA:=by rw [HNA.out];exact GW.out.pos
  have hNAB:NA≤NB:=by rw [HNA.out,HNB.out];exact GW.out.le
  obtain ⟨ga,rfl,hNAm⟩:=GA7.out.form GW.out.pos HNA.out
  obtain ⟨gb,rfl,hNBm⟩:=GB7.out.form (by have:=GW.out.pos;have:=GW.out.le;omega) HNB.out
  unfold maxLen at hNAm hNBm
  obtain ⟨⟨z0,P0,Q0,c0,e0⟩,hz0,hz0d⟩:=GW.out.hd
  change z0.d=rF at hz0d
  have HC12:=hide (show ∀W:World,Below W7.heap.size W7 W→(W.cell? ⟨gb,0,none⟩=some (.slice P0 n c0)∧W.cell? ⟨gb,1,none⟩=some (.slice Q0 m e0)∧W.cell? ⟨gb,2,none⟩=some (.int .i64 (lp:Int))∧W.cell? ⟨gF,0,none⟩=some (.slice AF n cF)∧W.cell? ⟨gF,1,none⟩=some (.slice BF m eF)∧W.cell? ⟨gF,2,none⟩=some (.int .i64 (lp:Int))) from fun W hb=>by
   obtain ⟨b0,b1,b2,_⟩:=(GB7.out.below hb).cells HNB.out hz0
   obtain ⟨f0,f1,f2,_⟩:=box3 (RF.out.below hb)
   simp only [Nat.zero_mul,Nat.zero_add] at b0 b1 b2
   rw [hz0d,HFO.out.2.2.1,←HN.out] at b0
   rw [hz0d,HFO.out.2.2.1,←HM.out] at b1
   rw [hz0d,HFO.out.2.2.2,←HL.out] at b2
   exact ⟨b0,b1,b2,f0,f1,f2⟩)
  have CE12:=hide (fun (W:World) (hb:Below W7.heap.size W7 W)=>r1eq_dg rF P0 Q0 AF BF n m lp c0 e0 cF eF n m lp W (by rw [HFO.out.2.2.1];exact HN.out) (by rw [HFO.out.2.2.1];exact HM.out) (by rw [HFO.out.2.2.2];exact HL.out) rfl rfl rfl (by rw [HFO.out.2.2.1,←HN.out];omega) (by
   have h:=((GB7.out.below hb).cells HNB.out hz0).2.2.2.at
   rw [hz0d] at h
   exact h) (TF7.out.keep hb).at)
  have HZ0:=hide hz0d
  clear hz0 hz0d
  have h121:¬((NA:Int)<1):=by omega
  have h122:¬((NB:Int)<(NA:Int)):=by omega
  have h123:(0:Int)<(NB:Int):=by omega
  have h124:decide ((NA:Int)<1)=false:=decide_eq_false h121
  have h125:decide ((NB:Int)<(NA:Int))=false:=decide_eq_false h122
  have h126:0<NB:=by omega
  have h127:¬((NB:Int)≤0):=by omega
  go_cut [90] from 61 to 90 (fun v wx=>v = .bool false∧Below W7.heap.size W7 wx)
  case first =>
   have kb:=(Below.refl W7.heap.size W7).drew
   have kc0:=HC12.out W7 (Below.refl _ _)
   have kc:=HC12.out W7.drew kb
   go_region_held3 (fun W=>W.cell? ⟨gb,0,none⟩=some (.slice P0 n c0)∧W.cell? ⟨gb,1,none⟩=some (.slice Q0 m e0)∧W.cell? ⟨gb,2,none⟩=some (.int .i64 (lp:Int))∧W.cell? ⟨gF,0,none⟩=some (.slice AF n cF)∧W.cell? ⟨gF,1,none⟩=some (.slice BF m eF)∧W.cell? ⟨gF,2,none⟩=some (.int .i64 (lp:Int)))
    ((first | (with_reducible exact kc) | (with_reducible exact kc0)))
    (first
      | (go_at_call 9
         refine Calls.mono (CE12.out _ ?_) ?_
         ·exact kb
         rintro e w8 ⟨rfl,hb8⟩
         have kb:=kb.trans (hb8.mono kb.size)
         clear hb8 kc0
         have kc1:=HC12.out w8 kb
         clear kc
         have kc:=kc1
         clear kc1)
      | fail)
   all_goals (go_wp2_with fail;go_meet)
   all_goals exact ⟨rfl,kb⟩
  case rest =>
   obtain ⟨rfl,hb8⟩:=hcut
   have GA8:=hide (GA7.out.below hb8)
   have GB8:=hide (GB7.out.below hb8)
   have X8:=hide (X7.out.below hb8)
   have B8:=hide (B7.out.trans (hb8.mono B7.out.size))
   clear hb8 GA7 GB7 X7 B7 TF7 RF CE12 HC12 h121 h122 h123 h124 h125 h126 h127 HZ0 hra1 hra2
   have MM:∀W:World,(Instr.makeMap 35 none).run Tryz.prog W = .ok (.map (some W.heap.size)) (W.alloc (.map #[] 0)):=fun _=>rfl
   go_upto_region 15 with fail
   obtain ⟨W9,hW9⟩:∃W:World,W=wc.alloc (.map #[] 0):=⟨_,rfl⟩
   obtain ⟨gm,hgm⟩:∃g,g=wc.heap.size:=⟨_,rfl⟩
   have b9:Below wc.heap.size wc W9:=by rw [hW9];exact (Below.refl _ _).alloc (Nat.le_refl _) _
   have L9:=hide (show SgL w [.slice A n cp,.slice B m cq,.int .i64 (lp:Int)] (.slice (some ⟨ga,0,none⟩) NA cA) (.slice (some ⟨gb,0,none⟩) NB cB) zA zB gm 0 W9 from ⟨X8.out.below b9,GA8.out.below b9,GB8.out.below b9,by rw [hW9,hgm];exact MapIs.new wc,by rw [hgm];exact B8.out.size,B8.out.trans (b9.mono B8.out.size)⟩)
   rw [←hW9,←hgm]
   clear hW9 hgm b9 MM X8 GA8 GB8 B8
   obtain ⟨cc,hcc⟩:∃c,c=strN d+d.lp:=⟨_,rfl⟩
   have HCC:=hide hcc
   clear hcc
   go_wp2_with fail
   go_loopg [16,17] NB (fun g s16 s17 wx=>∃i:Nat,i+g=NB∧s16 = .int .i64 (i:Int)∧SgL w [.slice A n cp,.slice B m cq,.int .i64 (lp:Int)] (.slice (some ⟨ga,0,none⟩) NA cA) (.slice (some ⟨gb,0,none⟩) NB cB) zA zB gm i wx)
   case atStart=>exact ⟨0,by omega,rfl,L9.out⟩
   case round =>
    clear L9
    obtain ⟨i,hig,rfl,hl⟩:=hrel
    have HIG:=hide hig
    have K0:=hide hl
    clear hig hl
    by_cases hi:i<NB
    ·have hii:(i:Int)<(NB:Int):=by omega
     have i0:(0:Int)≤(i:Int):=by omega
     obtain ⟨z,hz⟩:∃z,zB[i]? = some z:=⟨_,List.getElem?_eq_getElem (by rw [←HNB.out];exact hi)⟩
     have HZ:=hide hz
     have ZOK:=hide (GW.out.ok z (List.mem_of_getElem? hz))
     have ZEQ:=hide (fun z1 (h:zA[i]? = some z1)=>GW.out.eq i z1 z h hz)
     have HLK:=hide (fun (W:World) (h:SgL w [.slice A n cp,.slice B m cq,.int .i64 (lp:Int)] (.slice (some ⟨ga,0,none⟩) NA cA) (.slice (some ⟨gb,0,none⟩) NB cB) zA zB gm i W) (sk:ByteArray) (hk:sk.data.toList=keyD z.a.d) (hs:sk.size≤180000)=>h.look GW.out hz hk hs)
     have HPUT:=hide (fun (W W':World) (h:SgL w [.slice A n cp,.slice B m cq,.int .i64 (lp:Int)] (.slice (some ⟨ga,0,none⟩) NA cA) (.slice (some ⟨gb,0,none⟩) NB cB) zA zB gm i W) (hm:MapIs W' gm (keysL ((zB.take i).map Nm.a)++[keyD z.a.d])) (hg:W.grownBy W' (some gm))=>SgL.put h hz hm hg)
     have HCB0:=hide (fun (W:World) (h:SgL w [.slice A n cp,.slice B m cq,.int .i64 (lp:Int)] (.slice (some ⟨ga,0,none⟩) NA cA) (.slice (some ⟨gb,0,none⟩) NB cB) zA zB gm i W)=>h.db.cells HNB.out hz)
     clear hz
     obtain ⟨⟨d2,mv2,f2,s2⟩,P,Q,pc,qc⟩:=z
     obtain ⟨n2,hn2⟩:∃n,n=d2.n:=⟨_,rfl⟩
     obtain ⟨m2,hm2'⟩:∃n,n=4 * d2.n:=⟨_,rfl⟩
     obtain ⟨l2,hl2⟩:∃n,n=d2.lp:=⟨_,rfl⟩
     have HN2:=hide hn2
     have HM2:=hide hm2'
     have HL2:=hide hl2
     have HD2:=hide (show Pl.Valid d2 from ZOK.out.1)
     have HC2:=hide (show strN d2+d2.lp=cc from ZOK.out.2.2.trans HCC.out.symm)
     have hn2m:n2≤most:=by rw [hn2];exact ZOK.out.2.1
     have HCB:=hide (show ∀W:World,SgL w [.slice A n cp,.slice B m cq,.int .i64 (lp:Int)] (.slice (some ⟨ga,0,none⟩) NA cA) (.slice (some ⟨gb,0,none⟩) NB cB) zA zB gm i W→(W.cell? ⟨gb,i * 3,none⟩=some (.slice P n2 pc)∧W.cell? ⟨gb,i * 3+1,none⟩=some (.slice Q m2 qc)∧W.cell? ⟨gb,i * 3+2,none⟩=some (.int .i64 (l2:Int)))∧DgT W P Q d2 from fun W h=>by
      obtain ⟨b0,b1,b2,b3⟩:=HCB0.out W h
      rw [HN2.out,HM2.out,HL2.out]
      exact ⟨⟨b0,b1,b2⟩,b3⟩)
     have HCX:=hide (show ∀W:World,SgL w [.slice A n cp,.slice B m cq,.int .i64 (lp:Int)] (.slice (some ⟨ga,0,none⟩) NA cA) (.slice (some ⟨gb,0,none⟩) NB cB) zA zB gm i W→(W.cell? ⟨w.heap.size,0,none⟩=some (.slice A n cp)∧W.cell? ⟨w.heap.size,1,none⟩=some (.slice B m cq)∧W.cell? ⟨w.heap.size,2,none⟩=some (.int .i64 (lp:Int))) from fun W h=>by
      obtain ⟨x0,x1,x2,_⟩:=box3 h.bx
      exact ⟨x0,x1,x2⟩)
     clear hn2 hm2' hl2 HCB0 ZOK
     have hl2b:l2≤64:=by have:=HD2.out.wf.lp;rw [HL2.out];exact this
     go_upto_region 18 with fail
     go_cut [113] from 92 to 143 (fun v wx=>v = .bool false∧SgL w [.slice A n cp,.slice B m cq,.int .i64 (lp:Int)] (.slice (some ⟨ga,0,none⟩) NA cA) (.slice (some ⟨gb,0,none⟩) NB cB) zA zB gm i wx)
     case first =>
      by_cases hiA:i<NA
      ·have hiAi:(i:Int)<(NA:Int):=by omega
       obtain ⟨z1,hz1⟩:∃z,zA[i]? = some z:=⟨_,List.getElem?_eq_getElem (by rw [←HNA.out];exact hiA)⟩
       have HD1:=hide (ZEQ.out z1 hz1)
       have HCA0:=hide (fun (W:World) (h:SgL w [.slice A n cp,.slice B m cq,.int .i64 (lp:Int)] (.slice (some ⟨ga,0,none⟩) NA cA) (.slice (some ⟨gb,0,none⟩) NB cB) zA zB gm i W)=>h.da.cells HNA.out hz1)
       clear hz1
       obtain ⟨⟨d1,mv1,f1,s1⟩,P1,Q1,pc1,qc1⟩:=z1
       obtain rfl:d1=d2:=HD1.out
       have HCA:=hide (show ∀W:World,SgL w [.slice A n cp,.slice B m cq,.int .i64 (lp:Int)] (.slice (some ⟨ga,0,none⟩) NA cA) (.slice (some ⟨gb,0,none⟩) NB cB) zA zB gm i W→(W.cell? ⟨ga,i * 3,none⟩=some (.slice P1 n2 pc1)∧W.cell? ⟨ga,i * 3+1,none⟩=some (.slice Q1 m2 qc1)∧W.cell? ⟨ga,i * 3+2,none⟩=some (.int .i64 (l2:Int)))∧DgT W P1 Q1 d1 from fun W h=>by
        obtain ⟨b0,b1,b2,b3⟩:=HCA0.out W h
        rw [HN2.out,HM2.out,HL2.out]
        exact ⟨⟨b0,b1,b2⟩,b3⟩)
       have HC18:=hide (show ∀W:World,SgL w [.slice A n cp,.slice B m cq,.int .i64 (lp:Int)] (.slice (some ⟨ga,0,none⟩) NA cA) (.slice (some ⟨gb,0,none⟩) NB cB) zA zB gm i W→(W.cell? ⟨ga,i * 3,none⟩=some (.slice P1 n2 pc1)∧W.cell? ⟨ga,i * 3+1,none⟩=some (.slice Q1 m2 qc1)∧W.cell? ⟨ga,i * 3+2,none⟩=some (.int .i64 (l2:Int))∧W.cell? ⟨gb,i * 3,none⟩=some (.slice P n2 pc)∧W.cell? ⟨gb,i * 3+1,none⟩=some (.slice Q m2 qc)∧W.cell? ⟨gb,i * 3+2,none⟩=some (.int .i64 (l2:Int))) from fun W h=>by
        obtain ⟨a0,a1,a2⟩:=(HCA.out W h).1
        obtain ⟨b0,b1,b2⟩:=(HCB.out W h).1
        exact ⟨a0,a1,a2,b0,b1,b2⟩)
       have CE18:=hide (fun (W:World) (h:SgL w [.slice A n cp,.slice B m cq,.int .i64 (lp:Int)] (.slice (some ⟨ga,0,none⟩) NA cA) (.slice (some ⟨gb,0,none⟩) NB cB) zA zB gm i W)=>r1eq_dg d1 P1 Q1 P Q n2 m2 l2 pc1 qc1 pc qc n2 m2 l2 W HN2.out HM2.out HL2.out rfl rfl rfl (by rw [←HN2.out];omega) (HCA.out W h).2.at (HCB.out W h).2.at)
       clear HCA HCA0 HD1
       have kb:=K0.out.below (Below.refl wr.heap.size wr).drew
       have kc0:=HC18.out wr K0.out
       have kc:=HC18.out wr.drew kb
       go_region_held3 (fun W=>W.cell? ⟨ga,i * 3,none⟩=some (.slice P1 n2 pc1)∧W.cell? ⟨ga,i * 3+1,none⟩=some (.slice Q1 m2 qc1)∧W.cell? ⟨ga,i * 3+2,none⟩=some (.int .i64 (l2:Int))∧W.cell? ⟨gb,i * 3,none⟩=some (.slice P n2 pc)∧W.cell? ⟨gb,i * 3+1,none⟩=some (.slice Q m2 qc)∧W.cell? ⟨gb,i * 3+2,none⟩=some (.int .i64 (l2:Int)))
        ((first | (with_reducible exact kc) | (with_reducible exact kc0)))
        (first
          | (go_at_call 9
             refine Calls.mono (CE18.out _ ?_) ?_
             ·exact kb
             rintro e w8 ⟨rfl,hb8⟩
             have kb1:=kb.below hb8
             clear kb
             have kb:=kb1
             clear hb8 kc0 kb1
             have kc1:=HC18.out w8 kb
             clear kc
             have kc:=kc1
             clear kc1)
          | fail)
       all_goals (go_wp2_with fail;go_meet)
       all_goals exact ⟨rfl,kb⟩
      ·have hiAi:¬((i:Int)<(NA:Int)):=by omega
       have hbA:decide ((i:Int)<(NA:Int))=false:=decide_eq_false hiAi
       go_quiet (fail)
       go_wp2
       go_meet
       exact ⟨rfl,K0.out.below (Below.drewN' (Below.refl _ _) _)⟩
     case rest =>
      obtain ⟨rfl,hL⟩:=hcut
      have J0:=hide hL
      clear hL K0 ZEQ
      obtain ⟨⟨b0,b1,b2⟩,bT⟩:=HCB.out _ J0.out
      have BT:=hide bT
      clear bT
      go_wp2_with fail
      refine (key_n d2 HD2.out (by rw [←HN2.out];omega) P Q n2 pc qc m2 l2 _ HN2.out HM2.out HL2.out BT.out.at (HT.out.below J0.out.bel)).mono ?_
      rintro e w10 ⟨sk,rfl,hsk,hsz,hb10⟩
      have J1:=hide (J0.out.below hb10)
      have HSK:=hide hsk
      clear hb10 hsk b0 b1 b2 BT J0
      go_upto_region 21 with fail
      have HC21:=hide (show ∀W:World,SgL w [.slice A n cp,.slice B m cq,.int .i64 (lp:Int)] (.slice (some ⟨ga,0,none⟩) NA cA) (.slice (some ⟨gb,0,none⟩) NB cB) zA zB gm i W→((Instr.lookup 35 (.map (some gm)) (.string sk) false).run Tryz.prog W = .ok (.bool false) W∧W.cell? ⟨gb,i * 3,none⟩=some (.slice P n2 pc)∧W.cell? ⟨gb,i * 3+1,none⟩=some (.slice Q m2 qc)∧W.cell? ⟨gb,i * 3+2,none⟩=some (.int .i64 (l2:Int))∧W.cell? ⟨w.heap.size,0,none⟩=some (.slice A n cp)∧W.cell? ⟨w.heap.size,1,none⟩=some (.slice B m cq)∧W.cell? ⟨w.heap.size,2,none⟩=some (.int .i64 (lp:Int))) from fun W h=>by
       obtain ⟨b0,b1,b2⟩:=(HCB.out W h).1
       obtain ⟨x0,x1,x2⟩:=HCX.out W h
       exact ⟨HLK.out W h sk HSK.out hsz,b0,b1,b2,x0,x1,x2⟩)
      have CP1:=hide (show ∀W:World,SgL w [.slice A n cp,.slice B m cq,.int .i64 (lp:Int)] (.slice (some ⟨ga,0,none⟩) NA cA) (.slice (some ⟨gb,0,none⟩) NB cB) zA zB gm i W→Calls Tryz.prog 11 #[.agg #[.slice P n2 pc,.slice Q m2 qc,.int .i64 (l2:Int)]] W (fun e w'=>e = .returned (.int .i64 (cc:Int))∧Below W.heap.size W w') from fun W h=>by
       have h2:=rcomps_any d2 HD2.out.wf P Q pc qc m2 W HM2.out (HCB.out W h).2.at
       rw [HC2.out,←HN2.out,←HL2.out] at h2
       exact h2)
      have CP2:=hide (show ∀W:World,SgL w [.slice A n cp,.slice B m cq,.int .i64 (lp:Int)] (.slice (some ⟨ga,0,none⟩) NA cA) (.slice (some ⟨gb,0,none⟩) NB cB) zA zB gm i W→Calls Tryz.prog 11 #[.agg #[.slice A n cp,.slice B m cq,.int .i64 (lp:Int)]] W (fun e w'=>e = .returned (.int .i64 (cc:Int))∧Below W.heap.size W w') from fun W h=>by
       have h2:=rcomps_any d HD.out.wf A B cp cq m W HM.out (HG.out.keep h.bel)
       rw [←HCC.out,←HN.out,←HL.out] at h2
       exact h2)
      have h211:¬((most:Int)<(n2:Int)):=by omega
      have h212:decide ((most:Int)<(n2:Int))=false:=decide_eq_false h211
      go_cut [141] from 92 to 143 (fun v wx=>v = .bool false∧SgL w [.slice A n cp,.slice B m cq,.int .i64 (lp:Int)] (.slice (some ⟨ga,0,none⟩) NA cA) (.slice (some ⟨gb,0,none⟩) NB cB) zA zB gm i wx)
      case first =>
       have kb:=J1.out.below (Below.refl w10.heap.size w10).drew
       have kc0:=HC21.out w10 J1.out
       have kc:=HC21.out w10.drew kb
       go_region_held3 (fun W=>(Instr.lookup 35 (.map (some gm)) (.string sk) false).run Tryz.prog W = .ok (.bool false) W∧W.cell? ⟨gb,i * 3,none⟩=some (.slice P n2 pc)∧W.cell? ⟨gb,i * 3+1,none⟩=some (.slice Q m2 qc)∧W.cell? ⟨gb,i * 3+2,none⟩=some (.int .i64 (l2:Int))∧W.cell? ⟨w.heap.size,0,none⟩=some (.slice A n cp)∧W.cell? ⟨w.heap.size,1,none⟩=some (.slice B m cq)∧W.cell? ⟨w.heap.size,2,none⟩=some (.int .i64 (lp:Int)))
        ((first | (with_reducible exact kc) | (with_reducible exact kc0)))
        (first
          | (go_at_call 11
             have hx:=hc1
             refine Calls.mono (CP2.out _ ?_) ?_
             ·exact kb
             rintro e w12 ⟨rfl,hb12⟩
             have kb1:=kb.below hb12
             clear kb
             have kb:=kb1
             clear hb12 kb1
             have kc1:=HC21.out w12 kb
             clear kc
             have kc:=kc1
             clear kc1)
          | (go_at_call 11
             refine Calls.mono (CP1.out _ ?_) ?_
             ·exact kb
             rintro e w11 ⟨rfl,hb11⟩
             have hc1:True:=trivial
             have kb1:=kb.below hb11
             clear kb
             have kb:=kb1
             clear hb11 kc0 kb1
             have kc1:=HC21.out w11 kb
             clear kc
             have kc:=kc1
             clear kc1)
          | fail)
       all_goals (go_wp2_with fail;go_meet)
       all_goals exact ⟨rfl,kb⟩
      case rest =>
       obtain ⟨rfl,hL⟩:=hcut
       have J2:=hide hL
       clear hL J1 h212 HC21 CP1 CP2
       obtain ⟨n3,D3,om3,hn3,hD3⟩:=J2.out.mp
       have OM3:=hide om3
       have HN3:=hide hn3
       have HD3:=hide hD3
       have hn3m:n3<maxLen:=by
        have h3:=hn3
        unfold keysL at h3
        rw [List.length_map,List.length_map,List.length_take] at h3
        unfold maxLen
        omega
       clear om3 hn3 hD3
       go_upto_region 17 with (refine wpList_mapUpdate_own _ (by rfl) _ _ _ 35 (by rfl) 9 4 skKey Tryz.underlying35 (plainElem Tryz.prog 4) gm n3 D3 (by rfl) OM3.out hn3m (.string sk) (.bool true) (.string sk.data.toList) (by rfl) (by rfl) (WideMaps.keyOf_string_mk Tryz.underlying9 (by unfold maxLen;omega)) _ _ (plainElem_bool Tryz.underlying4 true) ?_;intro w13 om4 gr4;have OM4:=hide om4;have GR4:=hide gr4;clear om4 gr4)
       have J3:=hide (HPUT.out _ w13 J2.out (by
        have h3:=MapIs.put OM3.out HN3.out HD3.out sk.data.toList OM4.out
        rw [HSK.out] at h3
        exact h3) GR4.out)
       clear J2 OM3 HN3 HD3 OM4 GR4
       go_wp2_with fail
       go_roundg (gk - 1)
       case measure=>have:=HIG.out;omega
       case rel=>exact ⟨i+1,by have:=HIG.out;omega,by go_num,J3.out⟩
    ·have hii:¬((i:Int)<(NB:Int)):=by omega
     go_wp2
     go_ret
     exact ⟨rfl,K0.out.bel⟩
theorem searchGrows_walk (sg mt:List Int)(lp:Int)(A B:Option Addr)(n q cp cq mo rd:Nat)(w:World)(hs:IntsAt w A n sg)(hm:IntsAt w B q mt)(hn:n≤maxLen)(hq:q≤maxLen)(hlp:-9223372036854775808≤lp∧lp≤9223372036854775807)(hmo:mo<256)(hrd:rd<256)(ht:GT w) :
 Calls Tryz.prog 3 #[.agg #[.slice A n cp,.slice B q cq,.int .i64 lp],.int .u8 (mo:Int),.int .u8 (rd:Int)] w fun e w'=>e = .returned (.bool true)∧Below w.heap.size w w':=by
 by_cases hv:Pl.VL sg mt lp
 ·have hl:=hs.len
  have hl2:=hm.len
  have hl3:=hv.len
  have en:(Pl.mk sg mt lp).n=n:=hl
  have em:nats (Pl.mk sg mt lp).mt=mt:=Pl.nats_mk hv.2.1
  have el:((Pl.mk sg mt lp).lp:Int)=lp:=by show ((lp.toNat:Nat):Int)=lp;have:=hv.2.2;omega
  have h:=sgrows_valid (Pl.mk sg mt lp) hv.1 A B n cp cq q (Pl.mk sg mt lp).lp mo rd w en.symm (by rw [en];omega) rfl ⟨by rw [en];exact hs,by rw [en,em,show 4 * n=q by omega];exact hm⟩ ht hmo hrd
  rw [el] at h
  exact h
 ·exact sgrows_bad sg mt lp A B n q cp cq mo rd w hs hm hn hq hlp hv ht
end Go.Proofs.YtdgliimmnnhhjaaGreatDoor
end
