/-
  The texts Jn.
-/
import Derived.Test.YtdgliimmnnhhjaaGreatDoorU47
set_option linter.unusedVariables false
set_option linter.unusedSimpArgs false
section
namespace Go.Proofs.YtdgliimmnnhhjaaGreatDoor
open Go Go.RowKit
attribute [local go_sem ↓] Go.wp_at_zero Go.wp_at_succ
structure EX (most:Int) (d:Pl.Dg):Prop where
 v:Pl.Valid d
 n:d.n≤20
 st:∀(A B:Option Addr) (n cp cq m lp:Nat) (W:World),n=d.n→m=4 * d.n→lp=d.lp→DgAt W A B d→Calls Tryz.prog 19 #[.agg #[.slice A n cp,.slice B m cq,.int .i64 (lp:Int)],.int .i64 most] W fun e w'=>∃v,e = .returned v∧MovesAt w' v (stL d most)∧Below W.heap.size W w'
 ap:∀(k x y s:Int) (o:Bool),(⟨k,x,y,s,o⟩:Mv) ∈ stL d most→∀(A B:Option Addr) (n cp cq m lp:Nat) (W:World),n=d.n→m=4 * d.n→lp=d.lp→DgAt W A B d →
  Calls Tryz.prog 20 #[.agg #[.slice A n cp,.slice B m cq,.int .i64 (lp:Int)],.agg #[.int .i64 k,.int .i64 x,.int .i64 y,.int .i64 s,.bool o]] W fun e w'=>∃(A8 B8:Option Addr) (b8 b9:Nat) (k9 x9 y9 s9:Int) (o9:Bool),e = .returned (.tuple #[.agg #[.slice A8 (apD d ⟨k,x,y,s,o⟩).n b8,.slice B8 (4 * (apD d ⟨k,x,y,s,o⟩).n) b9,.int .i64 ((apD d ⟨k,x,y,s,o⟩).lp:Int)],.agg #[.int .i64 k9,.int .i64 x9,.int .i64 y9,.int .i64 s9,.bool o9],.int .i64 0])∧DgT w' A8 B8 (apD d ⟨k,x,y,s,o⟩)∧Below W.heap.size W w'
 av:∀z,z ∈ stL d most→Pl.Valid (apD d z)∧(apD d z).n≤20
structure BaS (w:World) (b0 gt gm:Nat) (v:Value) (zs:List Nm) (ks:List (List UInt8)) (W:World):Prop where
 tb:TbL b0 gt gm v zs ks W
 bel:Below w.heap.size w W
 lo:w.heap.size≤b0
section
variable {w W W':World} {b0 gt gm:Nat} {v:Value} {zs:List Nm} {ks:List (List UInt8)}
theorem BaS.below (h:BaS w b0 gt gm v zs ks W)(hb:Below W.heap.size W W'):BaS w b0 gt gm v zs ks W':=⟨h.tb.below hb,h.bel.trans (hb.mono h.bel.size),h.lo⟩
theorem BaS.cell {g n c j t:Nat}{z:Nm}{u:Value}(h:BaS w b0 gt gm (.slice (some ⟨g,0,none⟩) n c) zs ks W)(hn:n=zs.length)(hz:zs[j]? = some z)(ht:t<10)(e:z.v[t]? = some u):W.cell? ⟨g,j * 10+t,none⟩=some u:=by
 subst hn
 have hj:=(List.getElem?_eq_some_iff.1 hz).1
 rw [World.ownsRow.cellAt h.tb.own _ (by omega),nms_get zs j z hz t u e]
end
structure BaI (w:World) (b0 gt gm:Nat) (most:Int) (i:Nat) (z:Nm) (l0:List Nd) (k0:List (List UInt8)) (g12:Nat) (vS:Value) (j:Nat) (v:Value) (zs:List Nm) (ks:List (List UInt8)) (W:World):Prop where
 s:BaS w b0 gt gm v zs ks W
 at_:Row W g12 56 z.v
 ne:v.ownBlock≠some g12
 lt:b0≤g12
 mv:MovesAt W vS (stL z.a.d most)
 br:BR i z.a (stL z.a.d most) l0 k0 j (zs.map Nm.a) ks
 dt:DgT W z.A z.B z.a.d
 hz:zs[i]? = some z
section
variable {w W W':World} {b0 gt gm i j g12:Nat} {most:Int} {z:Nm} {l0:List Nd} {k0:List (List UInt8)} {vS v:Value} {zs:List Nm} {ks:List (List UInt8)}
theorem BaI.below (h:BaI w b0 gt gm most i z l0 k0 g12 vS j v zs ks W)(hb:Below W.heap.size W W'):BaI w b0 gt gm most i z l0 k0 g12 vS j v zs ks W' :=
 ⟨h.s.below hb,h.at_.below hb,h.ne,h.lt,h.mv.kp (.of_below hb),h.br,h.dt.keep hb,h.hz⟩
end
theorem nms_set3 (zs:List Nm)(z:Nm)(x0 x1 x2:Value):(((nms (zs++[z])).set (zs.length * 10) x0).set (zs.length * 10+1) x1).set (zs.length * 10+2) x2=nms zs++([x0,x1,x2]++z.v.drop 3):=by
 have hl:=nms_len zs
 rw [nms_app,List.set_append_right _ _ (by omega),List.set_append_right _ _ (by omega),List.set_append_right _ _ (by omega),hl,Nat.sub_self,Nat.add_sub_cancel_left,Nat.add_sub_cancel_left]
 rfl
theorem AddO.row {b0 gt gm:Nat}{v v':Value}{zs:List Nm}{ks:List (List UInt8)}{W W':World}(h:AddO b0 gt gm v v' W W')(T:TbL b0 gt gm v zs ks W){g:Nat}{t:TypeId}{cs:Array Value}{fr:Nat × Nat}(hg:W.heap[g]? = some (.cells cs t fr))(h1:t≠54)(h2:v.ownBlock≠some g):W'.heap[g]? = some (.cells cs t fr):=by
 refine (h.kp g (lt_of_heap hg) (fun e=>?_) (fun e=>?_) h2).trans hg
 ·have hbx:W.heap[gt]? = some (.cells #[v,.map (some gm)] 54 (0,0)):=T.box
  rw [e,hbx] at hg
  injection hg with hg
  injection hg with _ hg
  exact h1 hg.symm
 ·obtain ⟨es,cl,h3⟩:=T.mp.obj
  rw [e,h3] at hg
  injection hg with hg
  cases hg
theorem AddO.kpt {b0 gt gm:Nat}{v v':Value}{zs:List Nm}{ks:List (List UInt8)}{W W':World}(h:AddO b0 gt gm v v' W W')(T:TbL b0 gt gm v zs ks W){t:TypeId}(h1:t≠54)(h2:t≠56):KpT t W W':=fun g cs fr hg=>by
 refine h.row T hg h1 fun e=>?_
 obtain ⟨cs',fr',h3⟩:=ownsRow_block T.own g e
 rw [hg] at h3
 injection h3 with h3
 injection h3 with _ h3
 exact h2 h3
theorem TbL.put {W:World}{b0 gt gm gn c F:Nat}{zs:List Nm}{z1 z2:Nm}{ks:List (List UInt8)}(h:TbL b0 gt gm (.slice (some ⟨gn,0,none⟩) (F+1) c) (zs++[z1]) ks W)(hF:F=zs.length)(x0 x1 x2:Value)(e:z2.v=[x0,x1,x2]++z1.v.drop 3)(hD:DgT W z2.A z2.B z2.a.d) :
 TbL b0 gt gm (.slice (some ⟨gn,0,none⟩) (F+1) c) (zs++[z2]) ks (((W.setCell ⟨gn,F * 10,none⟩ x0).setCell ⟨gn,F * 10+1,none⟩ x1).setCell ⟨gn,F * 10+2,none⟩ x2) ∧
 (∀g,g≠gn→(((W.setCell ⟨gn,F * 10,none⟩ x0).setCell ⟨gn,F * 10+1,none⟩ x1).setCell ⟨gn,F * 10+2,none⟩ x2).heap[g]? = W.heap[g]?) ∧
 Below b0 W (((W.setCell ⟨gn,F * 10,none⟩ x0).setCell ⟨gn,F * 10+1,none⟩ x1).setCell ⟨gn,F * 10+2,none⟩ x2) ∧
 (∀t,t≠56→KpT t W (((W.setCell ⟨gn,F * 10,none⟩ x0).setCell ⟨gn,F * 10+1,none⟩ x1).setCell ⟨gn,F * 10+2,none⟩ x2)):=by
 have hS:∀g,g≠gn→(((W.setCell ⟨gn,F * 10,none⟩ x0).setCell ⟨gn,F * 10+1,none⟩ x1).setCell ⟨gn,F * 10+2,none⟩ x2).heap[g]? = W.heap[g]?:=fun g hg=>by
  rw [Below.heap_setCell _ _ _ _ (show g≠(⟨gn,_,none⟩:Addr).block from hg),Below.heap_setCell _ _ _ _ (show g≠(⟨gn,_,none⟩:Addr).block from hg),Below.heap_setCell _ _ _ _ (show g≠(⟨gn,_,none⟩:Addr).block from hg)]
 have hgn:b0≤gn:=(h.own.lt gn rfl).1
 obtain ⟨cs,fr,hb⟩:=ownsRow_block h.own gn rfl
 have own:=h.own
 rw [show (zs++[z1]).length=F+1 by simp [hF]] at own
 have own3:=(((own.stored (F * 10) x0).1.stored (F * 10+1) x1).1.stored (F * 10+2) x2).1
 rw [hF,nms_set3,←e,←nms_app,←hF] at own3
 have K0:∀t,t≠56→KpT t W (((W.setCell ⟨gn,F * 10,none⟩ x0).setCell ⟨gn,F * 10+1,none⟩ x1).setCell ⟨gn,F * 10+2,none⟩ x2):=fun t ht g cs' fr' hg=>(hS g fun e=>by
  rw [e,hb] at hg
  injection hg with hg
  injection hg with _ hg
  exact ht hg.symm).trans hg
 refine ⟨⟨?_,?_,fun y hy=>?_,?_,h.lt,h.lm⟩,hS,((((Below.refl b0 W).setCell (show b0≤(⟨gn,_,none⟩:Addr).block from hgn) _).setCell (show b0≤(⟨gn,_,none⟩:Addr).block from hgn) _).setCell (show b0≤(⟨gn,_,none⟩:Addr).block from hgn) _),K0⟩
 ·refine (hS gt fun e=>?_).trans h.box
  have hbx:W.heap[gt]? = some (.cells #[.slice (some ⟨gn,0,none⟩) (F+1) c,.map (some gm)] 54 (0,0)):=h.box
  rw [e,hb] at hbx
  injection hbx with hbx
  injection hbx with _ hbx
  exact absurd hbx (by decide)
 ·rw [show (zs++[z2]).length=F+1 by simp [hF]]
  exact own3
 ·have K:=K0 3 (by decide)
  rcases List.mem_append.1 hy with hy | hy
  ·exact (h.nt y (List.mem_append_left _ hy)).kp K
  ·rw [List.mem_singleton.1 hy]
   exact hD.kp K
 ·refine h.mp.same (hS gm fun e=>?_)
  obtain ⟨es,cl,h3⟩:=h.mp.obj
  rw [e,hb] at h3
  injection h3 with h3
  cases h3
theorem dgInfoS:(Tryz.prog.info? 24).map (fun i=>(i.zero,i.size,i.bytes))=some (some (.agg #[.slice none 0 0,.slice none 0 0,.int .i64 0]),3,56):=by kernel_rfl
theorem i64wf {n:Int}(h:0≤n∧n≤1000000):(Lit.int .i64 n).wf=true:=by
 simp only [Lit.wf,Bool.and_eq_true,decide_eq_true_eq]
 have h1:IntKind.i64.min = -9223372036854775808:=by decide
 have h2:IntKind.i64.max=9223372036854775807:=by decide
 rw [h1,h2]
 omega
theorem BR.len {i:Nat}{x:Nd}{L:List Mv}{l0 l:List Nd}{ks0 ks:List (List UInt8)}{j:Nat}(h:BR i x L l0 ks0 j l ks)(e:l0.length=ks0.length):l.length=ks.length:=by
 induction h with
 | z=>exact e
 | no _ _ _ ih=>exact ih
 | ad _ _ _ _ ih=>simp [ih]
theorem BO.len {most:Int}{rad:Nat}{r0:Pl.Dg}{i:Nat}{l:List Nd}{ks:List (List UInt8)}(h:BO most rad r0 i l ks):l.length=ks.length:=by
 induction h with
 | z=>rfl
 | st _ _ _ hr ih=>exact hr.len ih
theorem valid_n (d:Pl.Dg)(hd:Pl.Valid d)(A B:Option Addr)(n0 cp cq m lp:Nat)(w:World)(hn0:n0=d.n)(hm:m=4 * d.n)(hl:lp=d.lp)(hg:DgAt w A B d) :
 Calls Tryz.prog 16 #[.agg #[.slice A n0 cp,.slice B m cq,.int .i64 (lp:Int)]] w fun e w'=>e = .returned (.bool true)∧Below w.heap.size w w':=by
 subst hn0 hl
 exact valid_yes d hd A B cp cq m w hm hg
def dg3 (z:Nm):List Value:=[.slice z.A z.a.d.n z.c,.slice z.B (4 * z.a.d.n) z.e,.int .i64 z.a.d.lp]
def dgs (zs:List Nm):List Value:=zs.flatMap dg3
theorem dgs_put {zs:List Nm}{xs:List Value}{k N:Nat}{y:Nm}(hl:xs.length=N * 3)(hk:k<N)(h:xs.take (k * 3)=dgs (zs.take k))(hy:zs[k]? = some y)(x0 x1 x2:Value)(e:dg3 y=[x0,x1,x2]) :
 (((xs.set (k * 3) x0).set (k * 3+1) x1).set (k * 3+2) x2).take ((k+1) * 3)=dgs (zs.take (k+1)):=by
 obtain ⟨P,R,a,b,c,hP,hx⟩:∃(P R:List Value) (a b c:Value),P.length=k * 3∧xs=P++a :: b :: c :: R:=by
  have hd:(xs.drop (k * 3)).length=N * 3 - k * 3:=by rw [List.length_drop,hl]
  match hq:xs.drop (k * 3),hd with
  | a :: b :: c :: R,_=>exact ⟨xs.take (k * 3),R,a,b,c,by rw [List.length_take];omega,by rw [←hq,List.take_append_drop]⟩
  | [],hd=>simp at hd;omega
  | [_],hd=>simp at hd;omega
  | [_,_],hd=>simp at hd;omega
 subst hx
 rw [←hP] at h ⊢
 rw [List.take_left] at h
 rw [List.set_append_right _ _ (by omega),List.set_append_right _ _ (by omega),List.set_append_right _ _ (by omega),Nat.sub_self,Nat.add_sub_cancel_left,Nat.add_sub_cancel_left,show (k+1) * 3=P.length+3 by omega,List.take_append,List.take_of_length_le (by omega),Nat.add_sub_cancel_left]
 have e5:zs.take (k+1)=zs.take k++[y]:=by rw [List.take_add_one,hy];rfl
 have e6:dgs (zs.take (k+1))=P++[x0,x1,x2]:=by
  rw [e5]
  unfold dgs at h ⊢
  rw [List.flatMap_append,←h]
  show P++(dg3 y++[])=_
  rw [e,List.append_nil]
 rw [e6]
 rfl
def DgsAt (W:World)(v:Value)(zs:List Nm):Prop:=(∃base,W.ownsRow base 24 3 v zs.length (dgs zs))∧∀z,z ∈ zs→DgT W z.A z.B z.a.d
def BallPost (d:Pl.Dg)(most rad:Nat)(w:World)(e:Ending)(w':World):Prop:=∃(r:Pl.Dg) (i:Nat) (zs:List Nm) (ks:List (List UInt8)) (a:Option Addr) (c:Nat),FmO d r∧BO most rad r i (zs.map Nm.a) ks∧(∀x,(zs.map Nm.a)[i]? = some x→rad≤x.s)∧e = .returned (.tuple #[.slice a zs.length c,.int .i64 0])∧DgsAt w' (.slice a zs.length c) zs∧Below w.heap.size w w'
set_option maxRecDepth 100000 in
set_option maxHeartbeats 8000000 in
theorem ball_any (d:Pl.Dg)(hd:Pl.Valid d)(h20:d.n≤20)(most rad:Nat)(hdm:d.n≤most)(hmost:most≤64)(hrad:rad≤4)(A B:Option Addr)(n0 cp cq m lp:Nat)(w:World)(hn0:n0=d.n)(hm:m=4 * d.n)(hl:lp=d.lp)(hg:DgAt w A B d)(ht:GT w)
 (hEX:∀r i l ks x,FmO d r→BO most rad r i l ks→l[i]? = some x→x.s<rad→EX most x.d)
 (hF:∀r i l ks x j l' ks',FmO d r→BO most rad r i l ks→l[i]? = some x→x.s<rad→BR i x (stL x.d most) l ks j l' ks'→l'.length≤300∧(stL x.d most).length≤100000) :
 Calls Tryz.prog 7 #[.agg #[.slice A n0 cp,.slice B m cq,.int .i64 (lp:Int)],.int .i64 (most:Int),.int .i64 (rad:Int)] w (BallPost d most rad w):=by
 have HM:=hide hm
 have HN:=hide hn0
 have HL:=hide hl
 have HG:=hide hg
 have HT:=hide ht
 have HD:=hide hd
 have HEX:=hide hEX
 have HF:=hide hF
 have hdn:=hd.wf.few
 have hdl:=hd.wf.lp
 have hn20:n0≤20:=by omega
 have hnm:n0≤most:=by omega
 clear hm hg ht hn0 hl hEX hF hd
 have X0:=hide (row_at (W:=w) (g:=w.heap.size) (t:=24) (vs:=[.slice A n0 cp,.slice B m cq,.int .i64 (lp:Int)]) rfl)
 have B0:=hide (show Below w.heap.size w (w.alloc (.cells #[.slice A n0 cp,.slice B m cq,.int .i64 (lp:Int)] 24)) from (Below.refl _ _).alloc (Nat.le_refl _) _)
 go_enter Tryz.func7,Tryz.ntmps7
 go_wp2_with fail
 refine (valid_n d HD.out A B n0 cp cq m lp _ HN.out HM.out HL.out (HG.out.keep B0.out)).mono ?_
 rintro e w1 ⟨rfl,hb1⟩
 have X1:=hide (X0.out.below hb1)
 have B1:=hide (B0.out.trans (hb1.mono B0.out.size))
 clear hb1 X0 B0
 obtain ⟨d0,d1,d2,d3⟩:=box3 X1.out
 go_wp2_with fail
 refine (fits_any A B n0 m cp cq (lp:Int) (most:Int) w1).mono ?_
 rintro e w2 ⟨he,hb2⟩
 rw [show fitB n0 (most:Int)=true by unfold fitB;simp;omega] at he
 subst he
 have X2:=hide (X1.out.below hb2)
 have B2:=hide (B1.out.trans (hb2.mono B1.out.size))
 clear hb2 X1 B1 d0 d1 d2 d3
 obtain ⟨d0,d1,d2,d3⟩:=box3 X2.out
 have r0:¬((rad:Int)<0):=by omega
 have r4:¬((4:Int)<(rad:Int)):=by omega
 go_wp2_with fail
 refine (form_any d HD.out h20 A B n0 cp cq m lp w2 HN.out HM.out HL.out (HG.out.keep B2.out)).mono ?_
 rintro e w3 ⟨r,A9,B9,c8,c9,hF,rfl,hT,hb3⟩
 have HFm:=hide hF
 have hrv:=HFm.out.ok HD.out
 have HT3:=hide hT
 have B3:=hide (B2.out.trans (hb3.mono B2.out.size))
 clear hb3 X2 B2 d0 d1 d2 d3 hF hT
 go_upto_region 6 with fail
 obtain ⟨w4,hw4⟩:∃W,W=w3.alloc (.cells #[.slice A9 n0 c8,.slice B9 m c9,.int .i64 (lp:Int)] 24):=⟨_,rfl⟩
 have b34:=(Below.refl w3.heap.size w3).alloc (Nat.le_refl _) (.cells #[.slice A9 n0 c8,.slice B9 m c9,.int .i64 (lp:Int)] 24)
 have X4:=hide (row_at (W:=w3) (g:=w3.heap.size) (t:=24) (vs:=[.slice A9 n0 c8,.slice B9 m c9,.int .i64 (lp:Int)]) rfl)
 rw [←hw4] at b34
 have X4':=X4.out
 rw [show w3.alloc (.cells (List.toArray [.slice A9 n0 c8,.slice B9 m c9,.int .i64 (lp:Int)]) 24)=w4 from hw4.symm] at X4'
 rw [←hw4]
 have X5:=hide X4'
 have B4:=hide (B3.out.trans (b34.mono B3.out.size))
 have HT4:=hide (HT3.out.keep b34)
 clear X4 X4' b34 hw4 B3 HT3
 obtain ⟨d0,d1,d2,d3⟩:=box3 X5.out
 have HRV:=hide hrv
 clear hrv
 go_wp2_with fail
 refine (newTable_any r HRV.out.1 (by rw [HRV.out.2.2.1];exact h20) A9 B9 n0 c8 c9 m lp w4 (by rw [HRV.out.2.2.1];exact HN.out) (by rw [HRV.out.2.2.1];exact HM.out) (by rw [HRV.out.2.2.2];exact HL.out) HT4.out (HT.out.below B4.out)).mono ?_
 rintro e w5 ⟨gt,gm,v,rfl,hTb,hb5⟩
 have S5:=hide (show BaS w w4.heap.size gt gm v [⟨nd0 r,A9,B9,c8,c9⟩] [keyD r] w5 from ⟨hTb,B4.out.trans (hb5.mono B4.out.size),B4.out.size⟩)
 obtain ⟨b0,hb0⟩:∃b,b=w4.heap.size:=⟨_,rfl⟩
 rw [←hb0] at S5
 clear hTb hb5 hb0 X5 B4 HT4 d0 d1 d2 d3
 go_wp2_with fail
 go_loopg [11,12,14,15,16,17,18,80] 301 (fun g s11 s12 s14 s15 s16 s17 s18 s80 wx=>∃(i:Nat) (v:Value) (zs:List Nm) (ks:List (List UInt8)),i+g=301∧i≤zs.length∧zs.length≤300∧s11 = .int .i64 (i:Int)∧BO most rad r i (zs.map Nm.a) ks∧BaS w b0 gt gm v zs ks wx)
 case atStart=>exact ⟨0,v,[⟨nd0 r,A9,B9,c8,c9⟩],[keyD r],by omega,by simp,by simp,rfl,.z,S5.out⟩
 case round =>
  clear S5
  obtain ⟨i,v,zs,ks,hig,hil,hz3,rfl,hbo,hS⟩:=hrel
  have HIG:=hide hig
  have HBO:=hide hbo
  have K0:=hide hS
  clear hig hbo hS
  obtain ⟨gO,hgO⟩:∃g,g=gk:=⟨_,rfl⟩
  rw [←hgO] at HIG
  obtain ⟨N,hN⟩:∃n,n=zs.length:=⟨_,rfl⟩
  have HN2:=hide hN
  obtain ⟨aLst,cL,hvL⟩:=owns_slice K0.out.tb.own
  subst hvL
  obtain ⟨q0,q1,q2⟩:=box2q K0.out.tb.box
  rw [←hN] at q0
  have hN3:N≤300:=by omega
  have i0:(0:Int)≤(i:Int):=by omega
  by_cases hend:∃x,(zs.map Nm.a)[i]? = some x∧x.s<rad
  ·have hi : i < N := by
    obtain ⟨x,hx,_⟩:=hend
    have:=(List.getElem?_eq_some_iff.1 hx).1
    rw [List.length_map] at this
    omega
   have hii:(i:Int)<(N:Int):=by omega
   obtain ⟨z,hz⟩:∃z,zs[i]? = some z:=⟨_,List.getElem?_eq_getElem (by rw [←hN];exact hi)⟩
   have HZ:=hide hz
   have HMA:=hide (show (zs.map Nm.a)[i]? = some z.a by rw [List.getElem?_map,hz];rfl)
   have hs:z.a.s<rad:=by
    obtain ⟨x,hx,h⟩:=hend
    rw [HMA.out] at hx
    injection hx with hx
    rw [hx];exact h
   have EXZ:=hide (HEX.out r i _ ks z.a HFm.out HBO.out HMA.out hs)
   have hN0:0<zs.length:=by omega
   obtain ⟨gl,cap,hA,hcap,hgl⟩:=World.ownsRow.form K0.out.tb.own hN0
   injection hA with hA _ hcc
   subst hA
   subst hcc
   have CA:=fun (t:Nat) (u:Value) (ht:t<10) (e:z.v[t]? = some u)=>(show wr.cell? ⟨gl,i * 10+t,none⟩=some u by rw [World.ownsRow.cellAt K0.out.tb.own _ (by omega),nms_get zs i z hz t u e])
   have NTZ:=hide (K0.out.tb.nt z (List.mem_of_getElem? hz))
   obtain ⟨⟨dz,⟨zk,zx,zy,zsg,zo⟩,zf,zsl⟩,zA,zB,zc,ze⟩:=z
   have c0:=CA 0 _ (by omega) rfl
   have c1:=CA 1 _ (by omega) rfl
   have c2:=CA 2 _ (by omega) rfl
   have c3:=CA 3 _ (by omega) rfl
   have c4:=CA 4 _ (by omega) rfl
   have c5:=CA 5 _ (by omega) rfl
   have c6:=CA 6 _ (by omega) rfl
   have c7:=CA 7 _ (by omega) rfl
   have c8':=CA 8 _ (by omega) rfl
   have c9':=CA 9 _ (by omega) rfl
   rw [Nat.add_zero] at c0
   simp only at c0 c1 c2 c3 c4 c5 c6 c7 c8' c9'
   obtain ⟨n8,hn8⟩:∃n,n=dz.n:=⟨_,rfl⟩
   obtain ⟨m8,hm8⟩:∃n,n=4 * dz.n:=⟨_,rfl⟩
   obtain ⟨l8,hl8⟩:∃n,n=dz.lp:=⟨_,rfl⟩
   rw [←hn8] at c0
   rw [←hm8] at c1
   rw [←hl8] at c2
   have HN8:=hide hn8
   have HM8:=hide hm8
   have HL8:=hide hl8
   simp only at hs
   have hsi:(zsl:Int)<(rad:Int):=by omega
   clear CA hz hn8 hm8 hl8 hN0 hcap hend
   go_upto_region 13 with fail
   obtain ⟨W7,hW7⟩:∃W,W=wr.alloc (.cells #[.slice zA n8 zc,.slice zB m8 ze,.int .i64 (l8:Int),.int .i64 zk,.int .i64 zx,.int .i64 zy,.int .i64 zsg,.bool zo,.int .i64 zf,.int .i64 (zsl:Int)] 56):=⟨_,rfl⟩
   obtain ⟨g12,hg12⟩:∃g,g=wr.heap.size:=⟨_,rfl⟩
   rw [←hW7,←hg12]
   have b7:Below wr.heap.size wr W7:=by rw [hW7];exact (Below.refl _ _).alloc (Nat.le_refl _) _
   have R7:=hide (show Row W7 g12 56 [.slice zA n8 zc,.slice zB m8 ze,.int .i64 (l8:Int),.int .i64 zk,.int .i64 zx,.int .i64 zy,.int .i64 zsg,.bool zo,.int .i64 zf,.int .i64 (zsl:Int)] by
    rw [hW7]
    exact row_at (vs:=[.slice zA n8 zc,.slice zB m8 ze,.int .i64 (l8:Int),.int .i64 zk,.int .i64 zx,.int .i64 zy,.int .i64 zsg,.bool zo,.int .i64 zf,.int .i64 (zsl:Int)]) hg12)
   have K7:=hide (K0.out.below b7)
   have NT7:=hide (NTZ.out.keep b7)
   have hne7:(Value.slice (some ⟨gl,0,none⟩) N cL).ownBlock≠some g12:=fun e=>by
    have e:gl=g12:=by injection e
    omega
   have hg12b:b0≤g12:=by have h1:=K0.out.tb.lt;have h2:=K0.out.tb.box.lt;omega
   clear hW7 hg12 b7 c0 c1 c2 c3 c4 c5 c6 c7 c8' c9' q0 q1 q2 NTZ K0
   obtain ⟨c0,c1,c2,c3,c4,c5,c6,c7,c8',c9',cf⟩:=box10 R7.out
   go_wp2_with fail
   refine (EXZ.out.st zA zB n8 zc ze m8 l8 _ HN8.out HM8.out HL8.out NT7.out.at).mono ?_
   rintro e w8 ⟨vS,rfl,hmv,hb8⟩
   obtain ⟨A5,c5',rfl,hV⟩:=hmv.mv
   obtain ⟨n5,hn5⟩:∃n,n=(stL dz most).length:=⟨_,rfl⟩
   have HN5:=hide hn5
   (try simp only at hmv hV)
   rw [←hn5] at hmv hV ⊢
   have HFB:=hide (fun j l' ks' hb=>HF.out r i _ ks ⟨dz,⟨zk,zx,zy,zsg,zo⟩,zf,zsl⟩ j l' ks' HFm.out HBO.out HMA.out hs hb)
   have hn5b:n5≤100000:=by rw [hn5];exact (HFB.out 0 _ _ .z).2
   have I8:=hide (show BaI w b0 gt gm most i ⟨⟨dz,⟨zk,zx,zy,zsg,zo⟩,zf,zsl⟩,zA,zB,zc,ze⟩ (zs.map Nm.a) ks g12 (.slice A5 n5 c5') 0 (.slice (some ⟨gl,0,none⟩) zs.length cL) zs ks w8 from
    ⟨K7.out.below hb8,by have:=R7.out.below hb8;rw [HN8.out,HM8.out,HL8.out] at this;exact this,by rw [HN2.out] at hne7;exact hne7,hg12b,hmv,.z,NT7.out.keep hb8,HZ.out⟩)
   clear hmv hV hn5 hb8 c0 c1 c2 c3 c4 c5 c6 c7 c8' c9' cf K7 R7 NT7 HZ hne7
   go_wp2_with fail
   go_loopg [14,15,16,17,18,80] n5 (fun g s14 s15 s16 s17 s18 s80 wx=>∃(j:Nat) (v':Value) (zs':List Nm) (ks':List (List UInt8)),j+g=n5∧s80 = .int .i64 (j:Int)∧BaI w b0 gt gm most i ⟨⟨dz,⟨zk,zx,zy,zsg,zo⟩,zf,zsl⟩,zA,zB,zc,ze⟩ (zs.map Nm.a) ks g12 (.slice A5 n5 c5') j v' zs' ks' wx)
   case atStart=>exact ⟨0,_,zs,ks,by omega,rfl,I8.out⟩
   case round =>
    clear I8
    obtain ⟨j,v',zs',ks',hjg,rfl,hl⟩:=hrel
    have HJG:=hide hjg
    have J0:=hide hl
    have hjn:j≤n5:=by omega
    have hz3':zs'.length≤300:=by have:=(HFB.out j _ _ hl.br).1;rw [List.length_map] at this;exact this
    have HKL:=hide (show ks'.length=zs'.length by have:=hl.br.len (show (zs.map Nm.a).length=ks.length from HBO.out.len);rw [List.length_map] at this;exact this.symm)
    clear hjg hl
    obtain ⟨gI,hgI⟩:∃g,g=gk:=⟨_,rfl⟩
    rw [←hgI] at HJG
    by_cases hj:j<n5
    ·have hji:(j:Int)<(n5:Int):=by omega
     have j0:(0:Int)≤(j:Int):=by omega
     obtain ⟨g5,mk,mx,my,ms,mo,rfl,hg5,hmv,c0,c1,c2,c3,c4⟩:=J0.out.mv.cells hj
     have HMV:=hide hmv
     have HMM:=hide (show (⟨mk,mx,my,ms,mo⟩:Mv) ∈ stL dz most from List.mem_of_getElem? hmv)
     clear hmv
     go_upto_region 16 with fail
     obtain ⟨W9,hW9⟩:∃W,W=wr.alloc (.cells #[.int .i64 mk,.int .i64 mx,.int .i64 my,.int .i64 ms,.bool mo] 43):=⟨_,rfl⟩
     obtain ⟨gM,hgM⟩:∃g,g=wr.heap.size:=⟨_,rfl⟩
     rw [←hW9,←hgM]
     have b9w:Below wr.heap.size wr W9:=by rw [hW9];exact (Below.refl _ _).alloc (Nat.le_refl _) _
     have RM:=hide (show Row W9 gM 43 [.int .i64 mk,.int .i64 mx,.int .i64 my,.int .i64 ms,.bool mo] by
      rw [hW9]
      exact row_at (vs:=[.int .i64 mk,.int .i64 mx,.int .i64 my,.int .i64 ms,.bool mo]) hgM)
     have J9:=hide (J0.out.below b9w)
     clear hW9 hgM b9w c0 c1 c2 c3 c4 J0
     have RA:=hide (show Row W9 g12 56 [.slice zA n8 zc,.slice zB m8 ze,.int .i64 (l8:Int),.int .i64 zk,.int .i64 zx,.int .i64 zy,.int .i64 zsg,.bool zo,.int .i64 zf,.int .i64 (zsl:Int)] from by
      have:=J9.out.at_
      rw [HN8.out,HM8.out,HL8.out]
      exact this)
     obtain ⟨c0,c1,c2,c3,c4,c5,c6,c7,c8',c9',cf⟩:=box10 RA.out
     obtain ⟨p0,p1,p2,p3,p4,pf⟩:=box5 RM.out
     go_wp2_with fail
     refine (EXZ.out.ap mk mx my ms mo HMM.out zA zB n8 zc ze m8 l8 _ HN8.out HM8.out HL8.out J9.out.dt.at).mono ?_
     rintro e w10 ⟨A8,B8,b8,b9,k9,x9,y9,s9,o9,rfl,hT,hb10⟩
     have HSL:=hide (EXZ.out.av _ HMM.out)
     (try simp only at hT)
     obtain ⟨r2,hr2⟩:∃r2,r2=apD dz ⟨mk,mx,my,ms,mo⟩:=⟨_,rfl⟩
     rw [←hr2] at hT HSL ⊢
     have HR2:=hide hr2
     obtain ⟨n9,hn9⟩:∃n,n=r2.n:=⟨_,rfl⟩
     obtain ⟨m9,hm9⟩:∃n,n=4 * r2.n:=⟨_,rfl⟩
     obtain ⟨l9,hl9⟩:∃n,n=r2.lp:=⟨_,rfl⟩
     rw [←hm9,←hn9,←hl9]
     have HN9:=hide hn9
     have HM9:=hide hm9
     have HL9:=hide hl9
     have HT9:=hide hT
     have J10:=hide (J9.out.below hb10)
     have RM10:=hide (RM.out.below hb10)
     clear hr2 hn9 hm9 hl9 hT hb10 c0 c1 c2 c3 c4 c5 c6 c7 c8' c9' cf p0 p1 p2 p3 p4 pf J9 RM RA
     go_upto_region 17 with fail
     obtain ⟨W11,hW11⟩:∃W,W=(w10.alloc (.cells #[.slice A8 n9 b8,.slice B8 m9 b9,.int .i64 (l9:Int)] 24)).alloc (.cells #[.int .i64 k9,.int .i64 x9,.int .i64 y9,.int .i64 s9,.bool o9] 43):=⟨_,rfl⟩
     obtain ⟨gA,hgA⟩:∃g,g=w10.heap.size:=⟨_,rfl⟩
     rw [←hW11,←hgA]
     have b11:Below w10.heap.size w10 W11:=by rw [hW11];exact ((Below.refl _ _).alloc (Nat.le_refl _) _).alloc (by simp) _
     have RA11:=hide (show Row W11 gA 24 [.slice A8 n9 b8,.slice B8 m9 b9,.int .i64 (l9:Int)] by
      rw [hW11]
      exact (row_at (vs:=[.slice A8 n9 b8,.slice B8 m9 b9,.int .i64 (l9:Int)]) hgA).alloc _)
     have J11:=hide (J10.out.below b11)
     have RM11:=hide (RM10.out.below b11)
     have HT11:=hide (HT9.out.keep b11)
     clear hW11 hgA b11 J10 RM10 HT9
     go_upto_region 18 with fail
     have HC:=hide (show ∀W:World,Row W gA 24 [.slice A8 n9 b8,.slice B8 m9 b9,.int .i64 (l9:Int)]→Row W gM 43 [.int .i64 mk,.int .i64 mx,.int .i64 my,.int .i64 ms,.bool mo]→Row W g12 56 [.slice zA n8 zc,.slice zB m8 ze,.int .i64 (l8:Int),.int .i64 zk,.int .i64 zx,.int .i64 zy,.int .i64 zsg,.bool zo,.int .i64 zf,.int .i64 (zsl:Int)] →
      W.cell? ⟨gA,0,none⟩=some (.slice A8 n9 b8)∧W.cell? ⟨gA,1,none⟩=some (.slice B8 m9 b9)∧W.cell? ⟨gA,2,none⟩=some (.int .i64 (l9:Int))∧W.cell? ⟨gM,0,none⟩=some (.int .i64 mk)∧W.cell? ⟨gM,1,none⟩=some (.int .i64 mx)∧W.cell? ⟨gM,2,none⟩=some (.int .i64 my)∧W.cell? ⟨gM,3,none⟩=some (.int .i64 ms)∧W.cell? ⟨gM,4,none⟩=some (.bool mo)∧W.cell? ⟨g12,9,none⟩=some (.int .i64 (zsl:Int)) from fun W h1 h2 h3=>by
      obtain ⟨a0,a1,a2,_⟩:=box3 h1
      obtain ⟨m0,m1,m2,m3,m4,_⟩:=box5 h2
      obtain ⟨_,_,_,_,_,_,_,_,_,m9,_⟩:=box10 h3
      exact ⟨a0,a1,a2,m0,m1,m2,m3,m4,m9⟩)
     have RT11:=hide (show Row W11 g12 56 [.slice zA n8 zc,.slice zB m8 ze,.int .i64 (l8:Int),.int .i64 zk,.int .i64 zx,.int .i64 zy,.int .i64 zsg,.bool zo,.int .i64 zf,.int .i64 (zsl:Int)] from by
      have:=J11.out.at_
      rw [HN8.out,HM8.out,HL8.out]
      exact this)
     obtain ⟨z1,hz1⟩:∃z:Nm,z=⟨⟨r2,⟨mk,mx,my,ms,mo⟩,(i:Int),zsl+1⟩,A8,B8,b8,b9⟩:=⟨_,rfl⟩
     have HZV:=hide (show z1.v=[.slice A8 n9 b8,.slice B8 m9 b9,.int .i64 (l9:Int),.int .i64 mk,.int .i64 mx,.int .i64 my,.int .i64 ms,.bool mo,.int .i64 (i:Int),.int .i64 ((zsl:Int)+1)] by
      rw [HN9.out,HM9.out,HL9.out,hz1]
      rfl)
     have HZD:=hide (show z1.A=A8∧z1.B=B8∧z1.a.d=r2 by rw [hz1];exact ⟨rfl,rfl,rfl⟩)
     have HZ1:=hide hz1
     clear hz1
     have CK:=hide (fun (W:World) (hb:Below W11.heap.size W11 W)=>key_n r2 HSL.out.1 HSL.out.2 A8 B8 n9 b8 b9 m9 l9 W HN9.out HM9.out HL9.out (HT11.out.keep hb).at (HT.out.below (J11.out.s.bel.trans (hb.mono J11.out.s.bel.size))))
     have hi300:i≤300:=by omega
     have hwi:(Lit.int .i64 (i:Int)).wf=true:=i64wf (by omega)
     have CA:=hide (fun (W:World) (sk:ByteArray) (hsz:sk.size≤180000) (hb:Below W11.heap.size W11 W)=>add_any b0 gt gm v' zs' ks' z1 A8 B8 n9 b8 m9 b9 (l9:Int) mk mx my ms mo (i:Int) ((zsl:Int)+1) sk W (J11.out.s.tb.below hb) HZV.out (by rw [HZD.out.1,HZD.out.2.1,HZD.out.2.2];exact HT11.out.keep hb) (by have h1:=J11.out.s.tb.lt;have h2:=(J11.out.s.tb.below hb).box.lt;omega) (by omega) (by have:=HKL.out;omega) hsz hwi)
     have hs4:zsl≤4:=by omega
     have hwz:IntKind.i64.wrap ((zsl:Int)+1)=(zsl:Int)+1:=IntWalk.i64_in _ (by omega)
     have kb:=(Below.refl W11.heap.size W11).drew
     have kc0:=HC.out W11 RA11.out RM11.out RT11.out
     have kc:=HC.out W11.drew RA11.out.drew RM11.out.drew RT11.out.drew
     by_cases hkn:keyD r2 ∈ ks'
     ·have HKN:=hide hkn
      clear hkn
      go_region_held3 (fun W=>W.cell? ⟨gA,0,none⟩=some (.slice A8 n9 b8)∧W.cell? ⟨gA,1,none⟩=some (.slice B8 m9 b9)∧W.cell? ⟨gA,2,none⟩=some (.int .i64 (l9:Int))∧W.cell? ⟨gM,0,none⟩=some (.int .i64 mk)∧W.cell? ⟨gM,1,none⟩=some (.int .i64 mx)∧W.cell? ⟨gM,2,none⟩=some (.int .i64 my)∧W.cell? ⟨gM,3,none⟩=some (.int .i64 ms)∧W.cell? ⟨gM,4,none⟩=some (.bool mo)∧W.cell? ⟨g12,9,none⟩=some (.int .i64 (zsl:Int)))
       ((first | (with_reducible exact kc) | (with_reducible exact kc0)))
       (first
         | (go_at_call 21
            refine Calls.mono (CA.out _ sk hsz ?_) ?_
            ·exact kb
            rintro e w13 hpost
            obtain ⟨rfl,hb13⟩:=hpost.1 hkm
            have kc1:=HC.out w13 (ra.out.below hb13) (rm.out.below hb13) (rt.out.below hb13)
            clear kc
            have kc:=kc1
            clear kc1
            have kb:=kb.trans (hb13.mono kb.size)
            clear hb13 hpost)
         | (go_at_call 10
            refine Calls.mono (CK.out _ ?_) ?_
            ·exact kb
            rintro e w12 ⟨sk,rfl,hsk,hsz,hb12⟩
            have HSK:=hide hsk
            have hkm:=HKN.out
            rw [←hsk] at hkm
            have ra:=hide (RA11.out.drew.below hb12)
            have rm:=hide (RM11.out.drew.below hb12)
            have rt:=hide (RT11.out.drew.below hb12)
            have kc1:=HC.out w12 ra.out rm.out rt.out
            clear kc kc0
            have kc:=kc1
            clear kc1
            have kb:=kb.trans (hb12.mono kb.size)
            clear hb12 hsk)
         | fail)
      have J13:=hide (J11.out.below kb)
      have HBR:=hide (show BR i ⟨dz,⟨zk,zx,zy,zsg,zo⟩,zf,zsl⟩ (stL dz most) (zs.map Nm.a) ks (j+1) (zs'.map Nm.a) ks' from
       .no J11.out.br HMV.out (by show keyD (apD dz _) ∈ ks';rw [←HR2.out];exact HKN.out))
      clear kc kb ra rm rt
      go_wp2_with fail
      go_roundg (gI - 1)
      case measure=>have:=HJG.out;omega
      case rel=>exact ⟨j+1,v',zs',ks',by have:=HJG.out;omega,by go_num,⟨J13.out.s,J13.out.at_,J13.out.ne,J13.out.lt,J13.out.mv,HBR.out,J13.out.dt,J13.out.hz⟩⟩
     ·have HKN:=hide hkn
      have ndT:(24:TypeId)≠54:=by decide
      have ndN:(24:TypeId)≠56:=by decide
      have nmT:(43:TypeId)≠54:=by decide
      have nmN:(43:TypeId)≠56:=by decide
      have nnT:(56:TypeId)≠54:=by decide
      have niT:(3:TypeId)≠54:=by decide
      have niN:(3:TypeId)≠56:=by decide
      clear hkn
      go_region_held3 (fun W=>W.cell? ⟨gA,0,none⟩=some (.slice A8 n9 b8)∧W.cell? ⟨gA,1,none⟩=some (.slice B8 m9 b9)∧W.cell? ⟨gA,2,none⟩=some (.int .i64 (l9:Int))∧W.cell? ⟨gM,0,none⟩=some (.int .i64 mk)∧W.cell? ⟨gM,1,none⟩=some (.int .i64 mx)∧W.cell? ⟨gM,2,none⟩=some (.int .i64 my)∧W.cell? ⟨gM,3,none⟩=some (.int .i64 ms)∧W.cell? ⟨gM,4,none⟩=some (.bool mo)∧W.cell? ⟨g12,9,none⟩=some (.int .i64 (zsl:Int)))
       ((first | (with_reducible exact kc) | (with_reducible exact kc0)))
       (first
         | (go_at_call 21
            refine Calls.mono (CA.out _ sk hsz ?_) ?_
            ·exact kb
            rintro e w13 hpost
            obtain ⟨rfl,v9,hTb,hAO⟩:=hpost.2 hkm
            have T12:=J11.out.s.tb.below kb
            have ra3:=hide (Row.kp ra.out (hAO.kpt T12 ndT ndN))
            have rm3:=hide (Row.kp rm.out (hAO.kpt T12 nmT nmN))
            have rt3:=hide (hAO.row T12 rt.out nnT J11.out.ne)
            have kc1:=HC.out w13 ra3.out rm3.out rt3.out
            clear kc
            have kc:=kc1
            clear kc1
            have HTB:=hide hTb
            have HAO:=hide hAO
            have HT12:=hide T12
            clear hpost hTb hAO T12)
         | (go_at_call 10
            refine Calls.mono (CK.out _ ?_) ?_
            ·exact kb
            rintro e w12 ⟨sk,rfl,hsk,hsz,hb12⟩
            have HSK:=hide hsk
            have hkm:=HKN.out
            rw [←hsk] at hkm
            have ra:=hide (RA11.out.drew.below hb12)
            have rm:=hide (RM11.out.drew.below hb12)
            have rt:=hide (RT11.out.drew.below hb12)
            have kc1:=HC.out w12 ra.out rm.out rt.out
            clear kc kc0
            have kc:=kc1
            clear kc1
            have kb:=kb.trans (hb12.mono kb.size)
            clear hb12 hsk)
         | fail)
      have HT13:=hide ((HT11.out.keep kb).kp (HAO.out.kpt HT12.out niT niN))
      have DT13:=hide ((J11.out.dt.keep kb).kp (HAO.out.kpt HT12.out niT niN))
      have MV13:=hide ((J11.out.mv.kp (.of_below kb)).kp (HAO.out.kpt HT12.out nmT nmN))
      have NE13:=hide (HAO.out.nb g12 rt.out.lt J11.out.ne)
      have BE13:=hide ((J11.out.s.bel.trans (kb.mono J11.out.s.bel.size)).trans (HAO.out.bel.mono J11.out.s.lo))
      have HSKE:=hide (show sk.data.toList=keyD r2 from HSK.out)
      obtain ⟨F,hF⟩:∃n,n=zs'.length:=⟨_,rfl⟩
      have HF2:=hide hF
      obtain ⟨a9,c9',rfl⟩:=owns_slice HTB.out.own
      have hTb:=HTB.out
      have hl1:(zs'++[z1]).length=F+1:=by rw [List.length_append,hF];rfl
      obtain ⟨gn,capn,hA,_,hgn⟩:=World.ownsRow.form hTb.own (by rw [hl1];omega)
      injection hA with hA _ hcc
      subst hA
      subst hcc
      have NE13':=NE13.out
      rw [hl1] at hTb
      (try rw [hl1] at NE13')
      (try rw [hl1])
      have TB13:=hide hTb
      have NEG:=hide NE13'
      obtain ⟨q0,q1,q2⟩:=box2q hTb.box
      have hF3:F≤300:=by omega
      have hl1b:=hide hl1
      have BRN:=hide (fun (r3:Pl.Dg) (h:FmO r2 r3)=>(show BR i ⟨dz,⟨zk,zx,zy,zsg,zo⟩,zf,zsl⟩ (stL dz most) (zs.map Nm.a) ks (j+1) (zs'.map Nm.a++[⟨r3,⟨mk,mx,my,ms,mo⟩,(i:Int),zsl+1⟩]) (ks'++[keyD r2]) from by
       have h2:=BR.ad (r:=r3) J11.out.br HMV.out (by show keyD (apD dz _) ∉ ks';rw [←HR2.out];exact HKN.out) (by show FmO (apD dz _) r3;rw [←HR2.out];exact h)
       change BR i ⟨dz,⟨zk,zx,zy,zsg,zo⟩,zf,zsl⟩ (stL dz most) (zs.map Nm.a) ks (j+1) (zs'.map Nm.a++[⟨r3,⟨mk,mx,my,ms,mo⟩,(i:Int),zsl+1⟩]) (ks'++[keyD (apD dz _)]) at h2
       rw [←HR2.out] at h2
       exact h2))
      have HZI:=hide (show ∀z2:Nm,(zs'++[z2])[i]? = some ⟨⟨dz,⟨zk,zx,zy,zsg,zo⟩,zf,zsl⟩,zA,zB,zc,ze⟩ from fun z2=>by
       rw [List.getElem?_append_left (List.getElem?_eq_some_iff.1 J11.out.hz).1]
       exact J11.out.hz)
      have JLT:=hide J11.out.lt
      have JLO:=hide J11.out.s.lo
      clear hTb NE13' NE13 hl1 kc kb ra rm rt J11 HT12 HAO HTB hF
      have hF7:¬((100000:Int)≤(F:Int)):=by omega
      have hF8:(F:Int)<100000:=by omega
      go_upto_region 22 with fail
      have HS4:=hide (show ∀W:World,Row W gt 54 [.slice (some ⟨gn,0,none⟩) (F+1) c9',.map (some gm)]→Row W gA 24 [.slice A8 n9 b8,.slice B8 m9 b9,.int .i64 (l9:Int)] →
       W.cell? ⟨gt,0,none⟩=some (.slice (some ⟨gn,0,none⟩) (F+1) c9')∧W.cell? ⟨gA,0,none⟩=some (.slice A8 n9 b8)∧W.cell? ⟨gA,1,none⟩=some (.slice B8 m9 b9)∧W.cell? ⟨gA,2,none⟩=some (.int .i64 (l9:Int)) from fun W h1 h2=>by
       obtain ⟨a0,a1,a2,_⟩:=box3 h2
       obtain ⟨m0,_⟩:=box2q h1
       exact ⟨m0,a0,a1,a2⟩)
      have CF:=hide (fun (W:World) (hb:Below w13.heap.size w13 W)=>form_any r2 HSL.out.1 HSL.out.2 A8 B8 n9 b8 b9 m9 l9 W HN9.out HM9.out HL9.out (HT13.out.keep hb).at)
      have EQZ:=hide (show ∀(r3:Pl.Dg) (A7 B7:Option Addr) (c6 c7:Nat),FmO r2 r3→(⟨⟨r3,⟨mk,mx,my,ms,mo⟩,(i:Int),zsl+1⟩,A7,B7,c6,c7⟩:Nm).v=[.slice A7 n9 c6,.slice B7 m9 c7,.int .i64 (l9:Int)]++z1.v.drop 3 from fun r3 A7 B7 c6 c7 h=>by
       have ho:=h.ok HSL.out.1
       rw [HZV.out,HN9.out,HM9.out,HL9.out,←ho.2.2.1,←ho.2.2.2]
       rfl)
      have CEL:=hide (show ∀W:World,TbL b0 gt gm (.slice (some ⟨gn,0,none⟩) (F+1) c9') (zs'++[z1]) (ks'++[sk.data.toList]) W→W.cell? ⟨gn,F * 10,none⟩=some (.slice A8 n9 b8)∧W.cell? ⟨gn,F * 10+1,none⟩=some (.slice B8 m9 b9)∧W.cell? ⟨gn,F * 10+2,none⟩=some (.int .i64 (l9:Int))∧∀o,W.frozen? ⟨gn,o,none⟩=false from fun W h=>by
       have own:=h.own
       rw [hl1b.out] at own
       have hzz:(zs'++[z1])[F]? = some z1:=by rw [HF2.out,List.getElem?_append_right (Nat.le_refl _),Nat.sub_self];rfl
       have C:∀(t:Nat) (u:Value),t<10→z1.v[t]? = some u→W.cell? ⟨gn,F * 10+t,none⟩=some u:=fun t u ht e=>by
        rw [World.ownsRow.cellAt own _ (by omega),nms_get _ F z1 hzz t u e]
       exact ⟨C 0 _ (by omega) (by rw [HZV.out];rfl),C 1 _ (by omega) (by rw [HZV.out];rfl),C 2 _ (by omega) (by rw [HZV.out];rfl),own_free own⟩)
      have NGA:=hide (show gA≠gn from fun e=>by
       obtain ⟨cs,fr,h2⟩:=ownsRow_block TB13.out.own gn rfl
       have h3:=ra3.out
       unfold Row at h3
       rw [e,h2] at h3
       injection h3 with h3
       injection h3 with _ h3
       exact absurd h3 (by decide))
      have NG12:=hide (show g12≠gn from fun e=>NEG.out (by rw [e];rfl))
      have kb:=(Below.refl w13.heap.size w13).drew
      have kc0:=HS4.out w13 TB13.out.box ra3.out
      have kc:=HS4.out w13.drew TB13.out.box.drew ra3.out.drew
      have kc15:=kc0
      have f0:(0:Int)≤(F:Int):=by omega
      have f1:(F:Int)<(F:Int)+1:=by omega
      go_region_held3 (fun W=>W.cell? ⟨gt,0,none⟩=some (.slice (some ⟨gn,0,none⟩) (F+1) c9')∧W.cell? ⟨gA,0,none⟩=some (.slice A8 n9 b8)∧W.cell? ⟨gA,1,none⟩=some (.slice B8 m9 b9)∧W.cell? ⟨gA,2,none⟩=some (.int .i64 (l9:Int)))
       ((first | (with_reducible exact kc) | (with_reducible exact kc15) | (with_reducible exact kc0)))
       (first
         | (go_at_call 8
            refine Calls.mono (CF.out _ ?_) ?_
            ·exact kb
            rintro e w14 ⟨r3,A7,B7,c6',c7',hF3,rfl,hT14,hb14⟩
            have kb4:=kb.trans (hb14.mono kb.size)
            have T14:=TB13.out.below kb4
            have PUT:=TbL.put (z2:=⟨⟨r3,⟨mk,mx,my,ms,mo⟩,(i:Int),zsl+1⟩,A7,B7,c6',c7'⟩) T14 HF2.out (.slice A7 n9 c6') (.slice B7 m9 c7') (.int .i64 (l9:Int)) (EQZ.out r3 A7 B7 c6' c7' hF3) hT14
            obtain ⟨ec0,ec1,ec2,ecf⟩:=CEL.out w14 T14
            have kc1:=HS4.out w14 T14.box (ra3.out.below kb4)
            have kc15:=HS4.out _ PUT.1.box (Row.kp (ra3.out.below kb4) (PUT.2.2.2 _ ndN))
            clear kc
            have kc:=kc1
            clear kc1
            have HF3:=hide hF3
            have HPUT:=hide PUT
            have HK4:=hide kb4
            clear PUT T14 kb4 hb14 hT14 hF3)
         | fail)
      clear kc kc15 ec0 ec1 ec2 ecf kb
      have HJ15:=hide HPUT.out
      go_wp2_with fail
      go_roundg (gI - 1)
      case measure=>have:=HJG.out;omega
      case rel =>
       obtain ⟨p1,p2,p3,p4⟩:=HJ15.out
       refine ⟨j+1,_,zs'++[⟨⟨r3,⟨mk,mx,my,ms,mo⟩,(i:Int),zsl+1⟩,A7,B7,c6',c7'⟩],ks'++[sk.data.toList],by have:=HJG.out;omega,by go_num,⟨⟨p1,(BE13.out.trans (HK4.out.mono BE13.out.size)).trans (p3.mono JLO.out),JLO.out⟩,?_,NEG.out,JLT.out,(MV13.out.kp (.of_below HK4.out)).kp (p4 _ nmN),?_,(DT13.out.kp (.of_below HK4.out)).kp (p4 _ niN),HZI.out _⟩⟩
       ·have h1:=(HK4.out.block g12 (lt_of_heap rt3.out)).trans rt3.out
        rw [HN8.out,HM8.out,HL8.out] at h1
        exact (p2 g12 NG12.out).trans h1
       ·rw [HSKE.out,List.map_append]
        exact BRN.out r3 HF3.out
    ·have hji:¬((j:Int)<(n5:Int)):=by omega
     have hj5:j=n5:=by omega
     have HBO2:=hide (show BO most rad r (i+1) (zs'.map Nm.a) ks' from by
      refine BO.st HBO.out HMA.out hs ?_
      have h:=J0.out.br
      rw [hj5,HN5.out] at h
      exact h)
     have HIZ:=hide (List.getElem?_eq_some_iff.1 J0.out.hz).1
     clear hj5
     go_wp2_with fail
     go_roundg (gO - 1)
     case measure=>have:=HIG.out;omega
     case rel=>exact ⟨i+1,v',zs',ks',by have:=HIG.out;omega,HIZ.out,hz3',by go_num,HBO2.out,J0.out.s⟩
  ·have HE:=hide (show ∀x,(zs.map Nm.a)[i]? = some x→rad≤x.s from fun x hx=>Nat.le_of_not_lt fun h=>hend ⟨x,hx,h⟩)
   clear hend
   by_cases hi:i<N
   ·have hii:(i:Int)<(N:Int):=by omega
    obtain ⟨z,hz⟩:∃z,zs[i]? = some z:=⟨_,List.getElem?_eq_getElem (by rw [←hN];exact hi)⟩
    have hzs2:=HE.out z.a (by rw [List.getElem?_map,hz];rfl)
    have hN0:0<zs.length:=by omega
    obtain ⟨gl,cap,hA,hcap,hgl⟩:=World.ownsRow.form K0.out.tb.own hN0
    injection hA with hA _ hcc
    subst hA
    subst hcc
    have c9':wr.cell? ⟨gl,i * 10+9,none⟩=some (.int .i64 (z.a.s:Int)):=by
     rw [World.ownsRow.cellAt K0.out.tb.own _ (by omega),nms_get zs i z hz 9 _ rfl]
    obtain ⟨zsl,hzsl⟩:∃n,n=z.a.s:=⟨_,rfl⟩
    rw [←hzsl] at hzs2 c9'
    have hsi:¬((zsl:Int)<(rad:Int)):=by omega
    clear hN0 hcap hz hzsl hN
    go_upto_region 26 with fail
    clear c9' hsi hzs2 q0 q1 q2
    obtain ⟨q0,q1,q2⟩:=box2q K0.out.tb.box
    rw [←HN2.out] at q0
    obtain ⟨i7,hi7,hy0,hy1,hy2⟩:=info_parts dgInfoS
    have hmk:i7.bytes * N≤281474976710656:=by rw [hy2];omega
    have hmx:N≤maxLen:=by unfold maxLen;omega
    go_upto_region 27 with (at_make;refine wpList_make_full _ (by rfl) _ _ 28 (by rfl) wr.heap.size 24 i7 _ 3 Tryz.underlying28 hi7 hy0 hy1 _ _ _ _ N (by rfl) (by rfl) (by first | rfl | simp) (by first | rfl | simp) hmk hmx (Nat.le_refl _) ?_;intro w26 own26 gr26)
    have B26:=hide ((Below.refl wr.heap.size wr).grown gr26 (Nat.le_refl _) (fun k hk=>by cases hk))
    have OW26:=hide own26
    have K26:=hide (K0.out.below B26.out)
    clear own26 gr26 q0 q1 q2
    obtain ⟨q0,q1,q2⟩:=box2q K26.out.tb.box
    rw [←HN2.out] at q0
    obtain ⟨wE,hwE⟩:∃W,W=wr:=⟨_,rfl⟩
    rw [←hwE] at B26 OW26 K0 ⊢
    have HWE:=hide hwE
    clear hwE
    go_wp2_with fail
    go_loopg [20,21,141] N (fun g s20 s21 s141 wx=>∃(k:Nat) (xs:List Value),k+g=N∧s141 = .int .i64 (k:Int)∧Below wE.heap.size wE wx∧wx.ownsRow wE.heap.size 24 3 (.slice (some ⟨wE.heap.size,0,none⟩) N N) N xs∧xs.take (k * 3)=dgs (zs.take k))
    case atStart=>exact ⟨0,_,by omega,rfl,B26.out,OW26.out,by simp [dgs]⟩
    case round =>
     obtain ⟨k,xs,hkg,rfl,hbx,hox,htk⟩:=hrel
     have HTK:=hide htk
     clear htk
     have HKG:=hide hkg
     have HBX:=hide hbx
     have HOX:=hide hox
     obtain ⟨gP,hgP⟩:∃g,g=gk:=⟨_,rfl⟩
     rw [←hgP] at HKG
     clear hkg hbx hox
     by_cases hkN:k<N
     ·have hkNi:(k:Int)<(N:Int):=by omega
      have k0:(0:Int)≤(k:Int):=by omega
      obtain ⟨y,hy⟩:∃y,zs[k]? = some y:=⟨_,List.getElem?_eq_getElem (by rw [←HN2.out];exact hkN)⟩
      have KX:=hide (K0.out.below HBX.out)
      have CB:=fun (t:Nat) (u:Value) (ht:t<10) (e:y.v[t]? = some u)=>KX.out.cell (t:=t) rfl hy ht e
      obtain ⟨⟨dy,⟨yk,yx,yy,ysg,yo⟩,yf,ysl⟩,yA,yB,yc,ye⟩:=y
      have c0:=CB 0 _ (by omega) rfl
      have c1:=CB 1 _ (by omega) rfl
      have c2:=CB 2 _ (by omega) rfl
      have c3:=CB 3 _ (by omega) rfl
      have c4:=CB 4 _ (by omega) rfl
      have c5:=CB 5 _ (by omega) rfl
      have c6:=CB 6 _ (by omega) rfl
      have c7:=CB 7 _ (by omega) rfl
      have c8:=CB 8 _ (by omega) rfl
      have c9:=CB 9 _ (by omega) rfl
      rw [Nat.add_zero] at c0
      simp only at c0 c1 c2 c3 c4 c5 c6 c7 c8 c9
      obtain ⟨u0,e0⟩:∃u,wr.cell? ⟨wE.heap.size,k * 3,none⟩=some u:=⟨_,(World.ownsRow.cellAt HOX.out (k * 3) (by omega)).trans (List.getElem?_eq_getElem (by have:=HOX.out.1;omega))⟩
      obtain ⟨u1,e1⟩:∃u,wr.cell? ⟨wE.heap.size,k * 3+1,none⟩=some u:=⟨_,(World.ownsRow.cellAt HOX.out (k * 3+1) (by omega)).trans (List.getElem?_eq_getElem (by have:=HOX.out.1;omega))⟩
      obtain ⟨u2,e2⟩:∃u,wr.cell? ⟨wE.heap.size,k * 3+2,none⟩=some u:=⟨_,(World.ownsRow.cellAt HOX.out (k * 3+2) (by omega)).trans (List.getElem?_eq_getElem (by have:=HOX.out.1;omega))⟩
      have ef:=own_free HOX.out
      have hlt9:wE.heap.size<wr.heap.size:=World.block_lt_of_cell? wr _ e0
      have HPT:=hide (dgs_put HOX.out.1 hkN HTK.out hy (.slice yA dy.n yc) (.slice yB (4 * dy.n) ye) (.int .i64 (dy.lp:Int)) rfl)
      clear CB hy
      go_wp2_with fail
      go_roundg (gP - 1)
      case measure=>have:=HKG.out;omega
      case rel =>
       refine ⟨k+1,((xs.set (k * 3) (.slice yA dy.n yc)).set (k * 3+1) (.slice yB (4 * dy.n) ye)).set (k * 3+2) (.int .i64 (dy.lp:Int)),by have:=HKG.out;omega,by go_num,?_,((((HOX.out.stored (k * 3) _).1.stored (k * 3+1) _).1.stored (k * 3+2) _).1.alloc _),HPT.out⟩
       ·have hB3:=((HBX.out.setCell (show wE.heap.size≤(⟨wE.heap.size,k * 3,none⟩:Addr).block from Nat.le_refl _) (.slice yA dy.n yc)).setCell (show wE.heap.size≤(⟨wE.heap.size,k * 3+1,none⟩:Addr).block from Nat.le_refl _) (.slice yB (4 * dy.n) ye)).setCell (show wE.heap.size≤(⟨wE.heap.size,k * 3+2,none⟩:Addr).block from Nat.le_refl _) (.int .i64 (dy.lp:Int))
        exact hB3.alloc hB3.size _
     ·have hkNi:¬((k:Int)<(N:Int)):=by omega
      go_wp2
      go_ret2
      have hkE:k=N:=by have:=HKG.out;omega
      have OWZ:wr.ownsRow wE.heap.size 24 3 (.slice (some ⟨wE.heap.size,0,none⟩) zs.length N) zs.length (dgs zs):=by
       have h1:=HTK.out
       have h2:=HOX.out
       have h3:=h2.1
       rw [hkE,List.take_of_length_le (by omega),List.take_of_length_le (by rw [HN2.out];exact Nat.le_refl _)] at h1
       rw [h1] at h2
       have h4:=h2
       rw [←HN2.out]
       exact h4
      exact ⟨r,i,zs,ks,some ⟨wE.heap.size,0,none⟩,N,HFm.out,HBO.out,HE.out,by rw [←HN2.out];rfl,⟨⟨_,OWZ⟩,fun z hz=>(K0.out.tb.nt z hz).keep HBX.out⟩,K0.out.bel.trans (HBX.out.mono K0.out.bel.size)⟩
   ·have hii:¬((i:Int)<(N:Int)):=by omega
    clear hN
    go_upto_region 26 with fail
    clear q0 q1 q2
    obtain ⟨q0,q1,q2⟩:=box2q K0.out.tb.box
    rw [←HN2.out] at q0
    obtain ⟨i7,hi7,hy0,hy1,hy2⟩:=info_parts dgInfoS
    have hmk:i7.bytes * N≤281474976710656:=by rw [hy2];omega
    have hmx:N≤maxLen:=by unfold maxLen;omega
    go_upto_region 27 with (at_make;refine wpList_make_full _ (by rfl) _ _ 28 (by rfl) wr.heap.size 24 i7 _ 3 Tryz.underlying28 hi7 hy0 hy1 _ _ _ _ N (by rfl) (by rfl) (by first | rfl | simp) (by first | rfl | simp) hmk hmx (Nat.le_refl _) ?_;intro w26 own26 gr26)
    have B26:=hide ((Below.refl wr.heap.size wr).grown gr26 (Nat.le_refl _) (fun k hk=>by cases hk))
    have OW26:=hide own26
    have K26:=hide (K0.out.below B26.out)
    clear own26 gr26 q0 q1 q2
    obtain ⟨q0,q1,q2⟩:=box2q K26.out.tb.box
    rw [←HN2.out] at q0
    obtain ⟨wE,hwE⟩:∃W,W=wr:=⟨_,rfl⟩
    rw [←hwE] at B26 OW26 K0 ⊢
    have HWE:=hide hwE
    clear hwE
    go_wp2_with fail
    go_loopg [20,21,141] N (fun g s20 s21 s141 wx=>∃(k:Nat) (xs:List Value),k+g=N∧s141 = .int .i64 (k:Int)∧Below wE.heap.size wE wx∧wx.ownsRow wE.heap.size 24 3 (.slice (some ⟨wE.heap.size,0,none⟩) N N) N xs∧xs.take (k * 3)=dgs (zs.take k))
    case atStart=>exact ⟨0,_,by omega,rfl,B26.out,OW26.out,by simp [dgs]⟩
    case round =>
     obtain ⟨k,xs,hkg,rfl,hbx,hox,htk⟩:=hrel
     have HTK:=hide htk
     clear htk
     have HKG:=hide hkg
     have HBX:=hide hbx
     have HOX:=hide hox
     obtain ⟨gP,hgP⟩:∃g,g=gk:=⟨_,rfl⟩
     rw [←hgP] at HKG
     clear hkg hbx hox
     by_cases hkN:k<N
     ·have hkNi:(k:Int)<(N:Int):=by omega
      have k0:(0:Int)≤(k:Int):=by omega
      obtain ⟨y,hy⟩:∃y,zs[k]? = some y:=⟨_,List.getElem?_eq_getElem (by rw [←HN2.out];exact hkN)⟩
      have KX:=hide (K0.out.below HBX.out)
      obtain ⟨gl2,cap2,hA2,_,_⟩:=World.ownsRow.form K0.out.tb.own (by rw [←HN2.out];omega)
      injection hA2 with hA2 _ hcc2
      subst hA2
      clear hcc2
      have CB:=fun (t:Nat) (u:Value) (ht:t<10) (e:y.v[t]? = some u)=>KX.out.cell (t:=t) rfl hy ht e
      obtain ⟨⟨dy,⟨yk,yx,yy,ysg,yo⟩,yf,ysl⟩,yA,yB,yc,ye⟩:=y
      have c0:=CB 0 _ (by omega) rfl
      have c1:=CB 1 _ (by omega) rfl
      have c2:=CB 2 _ (by omega) rfl
      have c3:=CB 3 _ (by omega) rfl
      have c4:=CB 4 _ (by omega) rfl
      have c5:=CB 5 _ (by omega) rfl
      have c6:=CB 6 _ (by omega) rfl
      have c7:=CB 7 _ (by omega) rfl
      have c8:=CB 8 _ (by omega) rfl
      have c9:=CB 9 _ (by omega) rfl
      rw [Nat.add_zero] at c0
      simp only at c0 c1 c2 c3 c4 c5 c6 c7 c8 c9
      obtain ⟨u0,e0⟩:∃u,wr.cell? ⟨wE.heap.size,k * 3,none⟩=some u:=⟨_,(World.ownsRow.cellAt HOX.out (k * 3) (by omega)).trans (List.getElem?_eq_getElem (by have:=HOX.out.1;omega))⟩
      obtain ⟨u1,e1⟩:∃u,wr.cell? ⟨wE.heap.size,k * 3+1,none⟩=some u:=⟨_,(World.ownsRow.cellAt HOX.out (k * 3+1) (by omega)).trans (List.getElem?_eq_getElem (by have:=HOX.out.1;omega))⟩
      obtain ⟨u2,e2⟩:∃u,wr.cell? ⟨wE.heap.size,k * 3+2,none⟩=some u:=⟨_,(World.ownsRow.cellAt HOX.out (k * 3+2) (by omega)).trans (List.getElem?_eq_getElem (by have:=HOX.out.1;omega))⟩
      have ef:=own_free HOX.out
      have hlt9:wE.heap.size<wr.heap.size:=World.block_lt_of_cell? wr _ e0
      have HPT:=hide (dgs_put HOX.out.1 hkN HTK.out hy (.slice yA dy.n yc) (.slice yB (4 * dy.n) ye) (.int .i64 (dy.lp:Int)) rfl)
      clear CB hy
      go_wp2_with fail
      go_roundg (gP - 1)
      case measure=>have:=HKG.out;omega
      case rel =>
       refine ⟨k+1,((xs.set (k * 3) (.slice yA dy.n yc)).set (k * 3+1) (.slice yB (4 * dy.n) ye)).set (k * 3+2) (.int .i64 (dy.lp:Int)),by have:=HKG.out;omega,by go_num,?_,((((HOX.out.stored (k * 3) _).1.stored (k * 3+1) _).1.stored (k * 3+2) _).1.alloc _),HPT.out⟩
       ·have hB3:=((HBX.out.setCell (show wE.heap.size≤(⟨wE.heap.size,k * 3,none⟩:Addr).block from Nat.le_refl _) (.slice yA dy.n yc)).setCell (show wE.heap.size≤(⟨wE.heap.size,k * 3+1,none⟩:Addr).block from Nat.le_refl _) (.slice yB (4 * dy.n) ye)).setCell (show wE.heap.size≤(⟨wE.heap.size,k * 3+2,none⟩:Addr).block from Nat.le_refl _) (.int .i64 (dy.lp:Int))
        exact hB3.alloc hB3.size _
     ·have hkNi:¬((k:Int)<(N:Int)):=by omega
      go_wp2
      go_ret2
      have hkE:k=N:=by have:=HKG.out;omega
      have OWZ:wr.ownsRow wE.heap.size 24 3 (.slice (some ⟨wE.heap.size,0,none⟩) zs.length N) zs.length (dgs zs):=by
       have h1:=HTK.out
       have h2:=HOX.out
       have h3:=h2.1
       rw [hkE,List.take_of_length_le (by omega),List.take_of_length_le (by rw [HN2.out];exact Nat.le_refl _)] at h1
       rw [h1] at h2
       have h4:=h2
       rw [←HN2.out]
       exact h4
      exact ⟨r,i,zs,ks,some ⟨wE.heap.size,0,none⟩,N,HFm.out,HBO.out,HE.out,by rw [←HN2.out];rfl,⟨⟨_,OWZ⟩,fun z hz=>(K0.out.tb.nt z hz).keep HBX.out⟩,K0.out.bel.trans (HBX.out.mono K0.out.bel.size)⟩
end Go.Proofs.YtdgliimmnnhhjaaGreatDoor
end
