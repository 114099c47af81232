/-
 The texts Ryb.
-/
import Derived.Test.YtobbepmlmbbamaaH11
import Derived.Test.YtobbepmlmbbamaaH14
set_option linter.unusedVariables false
set_option linter.unusedSimpArgs false
section
namespace Go.Proofs.Ytobbepmlmbbamaa
open Go Go.RowKit
attribute [local go_sem ↓] Go.wp_at_zero Go.wp_at_succ
theorem two_newsP (W:World)(x y:Value):∀j v,[x,y][j]? = some v→(W.alloc (.cells #[x,y] 3)).cell? ((⟨W.heap.size,0,none⟩:Addr).add j)=some v :=
 World.news_of_block (cs:=#[x,y]) (t:=3) (fr:=(0,0)) (heap_alloc_new W _)
theorem eight_newsP (W:World)(a b c d e f g h:Value):∀j v,[a,b,c,d,e,f,g,h][j]? = some v→(W.alloc (.cells #[a,b,c,d,e,f,g,h] 3)).cell? ((⟨W.heap.size,0,none⟩:Addr).add j)=some v :=
 World.news_of_block (cs:=#[a,b,c,d,e,f,g,h]) (t:=3) (fr:=(0,0)) (heap_alloc_new W _)
theorem getD_all {l:List Nat}{N:Nat}(hN:0<N)(h:∀z,z ∈ l→z<N)(k:Nat):l.getD k 0<N:=by
 rw [List.getD_eq_getElem?_getD]
 cases e:l[k]? with
 | none=>exact hN
 | some z=>exact h z (List.mem_of_getElem? e)
open Classical in
theorem pkQ_R {d:Pl.Dg}{x y sg:Int}{ov:Bool}(hin:inR d.n ⟨3,x,y,sg,ov⟩):pkQ d x y sg=if nearR d x y sg then (if 64<d.n+2 then 5 else 0) else 6:=by
 have hi:-2≤x∧x<4 * d.n ∧ -2≤y∧y<4 * d.n∧(if x≠y then sg=0 else if x<0 then sg=0∨sg=1 else sg=1∨sg = -1):=by
  have:=hin
  unfold inR at this
  simpa using this
 obtain ⟨h1,h2,h3,h4,h5⟩:=hi
 unfold pkQ nearR
 by_cases hl:d.lp<needP x y sg
 ·rw [if_pos hl,if_neg (fun h=>h.1 hl)]
 ·rw [if_neg hl]
  by_cases hp:0≤x∧0≤y∧x≠y∧¬nearP d x.toNat y.toNat
  ·have e0:sg=0:=by rw [if_pos hp.2.2.1] at h5;exact h5
   have hq:¬(¬d.lp<needP x y sg∧(x<0∨y<0∨sg≠0∨nearP d x.toNat y.toNat)):=by
    rintro ⟨_,h | h | h | h⟩
    ·omega
    ·omega
    ·exact h e0
    ·exact hp.2.2.2 h
   rw [if_pos (Pl.vb_true hp),if_neg hq]
  ·have hq : ¬ d.lp < needP x y sg ∧ (x < 0 ∨ y < 0 ∨ sg ≠ 0 ∨ nearP d x.toNat y.toNat) := by
    refine ⟨hl,?_⟩
    by_cases hx:x<0
    ·exact .inl hx
    ·by_cases hy:y<0
     ·exact .inr (.inl hy)
     ·by_cases hs:sg=0
      ·refine .inr (.inr (.inr (Classical.byContradiction fun hn=>hp ⟨by omega,by omega,?_,hn⟩)))
       intro e
       rw [if_neg (fun q=>q e),if_neg hx] at h5
       omega
      ·exact .inr (.inr (.inl hs))
   rw [if_neg (by rw [Pl.vb_false hp];decide),if_pos hq]
theorem near_ne {d:Pl.Dg}{x y sg:Int}(h:nearR d x y sg):sg=0→0≤x→0≤y→d.m x.toNat≠y.toNat:=by
 intro e hx hy
 rcases h.2 with h | h | h | h
 ·omega
 ·omega
 ·exact absurd e h
 ·exact h.2
section
variable {base:Nat} {w W W' W2:World} {vS vM:Value} {n q:Nat} {lp:Int} {mv:List Value} {ss:List Int} {l:List Nat}
theorem RK.storeS {gS c:Nat}(h:RK base w (.slice (some ⟨gS,0,none⟩) n c) vM n q lp mv ss l W)(j:Nat)(v:Int):RK base w (.slice (some ⟨gS,0,none⟩) n c) vM n q lp mv (ss.set j v) l (W.setCell ⟨gS,j,none⟩ (.int .i64 v)):=by
 obtain ⟨vs,r1,l1⟩:=h.rd
 obtain ⟨us,r2,l2⟩:=h.rm
 have st:=World.ownsRow.stored h.s j (.int .i64 v)
 have gr:=st.2
 refine ⟨h.d.grown gr (own_row_ne h.s h.d (by decide)),h.m.grown gr (own_row_ne h.s h.m (by decide)),⟨vs,r1.grown gr (own_row_ne h.s r1 (by decide)),l1⟩,⟨us,r2.grown gr (own_row_ne h.s r2 (by decide)),l2⟩,?_,?_,h.ne,?_,h.le⟩
 ·rw [List.map_set]
  exact st.1
 ·refine h.o.kept gr ?_
  cases hm:vM.ownBlock with
  | none=>exact .inl rfl
  | some g=>exact .inr (fun e=>h.ne g e.symm hm)
 ·exact h.bel.grown gr (by have:=h.bel.size;have:=h.le;omega) (fun k hk=>(h.s.lt k hk).1)
end
structure RJ (base:Nat) (w:World) (g3 c3 g5 c5 n q:Nat) (lp:Int) (mv:List Value) (ss:List Int) (l:List Nat) (gp gq:Nat) (P Q:Nat→Nat) (W:World):Prop where
 k:RK base w (.slice (some ⟨g3,0,none⟩) n c3) (.slice (some ⟨g5,0,none⟩) q c5) n q lp mv ss l W
 p:∀t,t<4→W.cell? ⟨gp,t,none⟩=some (.int .i64 (P t:Nat))
 q':∀t,t<4→W.cell? ⟨gq,t,none⟩=some (.int .i64 (Q t:Nat))
 np:gp≠g5
 nq:gq≠g5
 lp':w.heap.size+4≤gp
 lq':w.heap.size+4≤gq
section
variable {base:Nat} {w W W' W2:World} {g3 c3 g5 c5 n q gp gq:Nat} {lp:Int} {mv:List Value} {ss:List Int} {l l':List Nat} {P Q:Nat→Nat}
theorem RJ.drew (h:RJ base w g3 c3 g5 c5 n q lp mv ss l gp gq P Q W):RJ base w g3 c3 g5 c5 n q lp mv ss l gp gq P Q W.drew:=⟨h.k.drew,h.p,h.q',h.np,h.nq,h.lp',h.lq'⟩
theorem RJ.join (h:RJ base w g3 c3 g5 c5 n q lp mv ss l gp gq P Q W)(gr:W.grownBy W2 (some g5))(own:OwnN W2 base g5 q c5 l'):RJ base w g3 c3 g5 c5 n q lp mv ss l' gp gq P Q W2 :=
 ⟨h.k.kept gr own,fun t ht=>gr.cell (h.p t ht) (fun e=>h.np (by injection e)),fun t ht=>gr.cell (h.q' t ht) (fun e=>h.nq (by injection e)),h.np,h.nq,h.lp',h.lq'⟩
theorem RJ.setL (h:RJ base w g3 c3 g5 c5 n q lp mv ss l gp gq P Q W)(lp2:Int):RJ base w g3 c3 g5 c5 n q lp2 mv ss l gp gq P Q (W.setCell ⟨w.heap.size,2,none⟩ (.int .i64 lp2)):=by
 have a:=h.lp'
 have b:=h.lq'
 refine ⟨h.k.setL lp2,fun t ht=>?_,fun t ht=>?_,h.np,h.nq,h.lp',h.lq'⟩
 ·rw [World.cell?_of_block (w:=W) (Below.heap_setCell W ⟨w.heap.size,2,none⟩ _ gp (by show gp≠w.heap.size;omega))]
  exact h.p t ht
 ·rw [World.cell?_of_block (w:=W) (Below.heap_setCell W ⟨w.heap.size,2,none⟩ _ gq (by show gq≠w.heap.size;omega))]
  exact h.q' t ht
end
theorem rcorners_4 (n under:Nat)(w:World)(hn:n≤200)(hu:under≤3) :
 Calls Try.prog 102 #[.int .i64 (4 * (n:Int)),.int .i64 (under:Int)] w fun e w'=>∃(g c:Nat),e = .returned (.slice (some ⟨g,0,none⟩) 4 c)∧w.heap.size≤g∧(∀t,t<4→w'.cell? ⟨g,t,none⟩=some (.int .i64 (plc n under t:Nat)))∧Below w.heap.size w w':=by
 refine ((show ((4 * n:Nat):Int)=4 * (n:Int) by omega) ▸ rcorners_any (4 * n) under w (by omega) hu).mono ?_
 rintro e w' ⟨A,c,rfl,own,hb⟩
 obtain ⟨g,rfl⟩:=own_form0 own (by omega)
 refine ⟨g,c,rfl,(World.ownsRow.lt own g rfl).1,fun t ht=>?_,hb⟩
 have h2:=OwnN.cell (show OwnN w' _ g 4 c (crnL (4 * n) under 4) from own) (k:=t) ht
 have e:(crnL (4 * n) under 4).getD t 0=plc n under t:=by
  unfold crnL
  rw [List.getD_eq_getElem?_getD,List.getElem?_map,List.getElem?_range ht];rfl
 rw [e] at h2
 exact h2
theorem rcorners_5 (n under:Nat)(w:World)(hn:n≤100)(hu:under≤3) :
 Calls Try.prog 102 #[.int .i64 (4 * (n:Int)+4),.int .i64 (under:Int)] w fun e w'=>∃(g c:Nat),e = .returned (.slice (some ⟨g,0,none⟩) 4 c)∧w.heap.size≤g∧(∀t,t<4→w'.cell? ⟨g,t,none⟩=some (.int .i64 (plc (n+1) under t:Nat)))∧Below w.heap.size w w' :=
 (show 4 * ((n+1:Nat):Int)=4 * (n:Int)+4 by omega) ▸ rcorners_4 (n+1) under w (by omega) hu
theorem rpk_done {d:Pl.Dg}(hd:Pl.Wf d){x y sg:Int}{ov:Bool}{base b c3 c5 g3 g5 m:Nat}{w W:World}{L:List Nat}{lp:Int}(h0:pkQ d x y sg=0)(hm:m=4 * d.n)(hM:pkM d x y sg ov=L)(hL:pkL d x y sg=lp)(hl0:0≤lp)(hb:Below base w W)
 (hS:W.ownsRow b 3 1 (.slice (some ⟨g3,0,none⟩) (d.n+2) c3) (d.n+2) ((d.sg++[sgn2 (un0 d x y ov) (ov0 d x y ov),sgn2 (un1 d x y ov) (ov1 d x y ov)]).map (.int .i64))) (hO:W.ownsRow b 3 1 (.slice (some ⟨g5,0,none⟩) (m+8) c5) (m+8) (L.map (fun k:Nat=>Value.int .i64 k))) :
 RC base (pkQ d x y sg) (pkD d x y sg ov) ⟨4,d.n,d.n+1,0,false⟩ w (.returned (.tuple #[.agg #[.slice (some ⟨g3,0,none⟩) (d.n+2) c3,.slice (some ⟨g5,0,none⟩) (m+8) c5,.int .i64 lp],.agg #[.int .i64 4,.int .i64 (d.n:Int),.int .i64 ((d.n:Int)+1),.int .i64 0,.bool false],.int .i64 0])) W:=by
 subst hm
 have en:(pkD d x y sg ov).n=d.n+2:=by unfold Pl.Dg.n pkD;simp
 have e4:4 * (d.n+2)=4 * d.n+8:=by omega
 refine ⟨fun h=>absurd h0 h,fun _=>⟨some ⟨g3,0,none⟩,some ⟨g5,0,none⟩,c3,c5,?_,?_⟩,hb⟩
 ·have el:((pkD d x y sg ov).lp:Int)=lp:=by unfold pkD;simp only [];rw [hL];omega
  rw [en,e4,el]
  rfl
 ·refine ⟨?_,?_⟩
  ·rw [en]
   exact own_intsT hS
  ·rw [en,e4]
   refine own_intsT (base:=b) (e:=3) (c:=c5) ?_
   unfold nats
   rw [List.map_map]
   show W.ownsRow b _ 1 _ _ ((pkM d x y sg ov).map _)
   rw [hM]
   exact hO
set_option maxRecDepth 100000 in
set_option maxHeartbeats 16000000 in
theorem rpoke_in (d:Pl.Dg)(hd:Pl.Wf d)(base cp cq m:Nat)(A B:Option Addr)(k x y sg:Int)(ov:Bool)(w:World)(hm:m=4 * d.n)(h:Own2 base w (.slice A d.n cp) (.slice B m cq) d.n m d.sg d.mt)(hin:inR d.n ⟨3,x,y,sg,ov⟩) :
 Calls Try.prog 55 #[.agg #[.slice A d.n cp,.slice B m cq,.int .i64 d.lp],.agg #[.int .i64 k,.int .i64 x,.int .i64 y,.int .i64 sg,.bool ov]] w (RC base (pkQ d x y sg) (pkD d x y sg ov) ⟨4,d.n,d.n+1,0,false⟩ w):=by
 have hi:-2≤x∧x<4 * d.n ∧ -2≤y∧y<4 * d.n∧(if x≠y then sg=0 else if x<0 then sg=0∨sg=1 else sg=1∨sg = -1):=by
  have:=hin
  unfold inR at this
  simpa using this
 have HIN:=hide hin
 have HQ:=hide (pkQ_R hin)
 obtain ⟨hx2,hx4,hy2,hy4,hsg⟩:=hi
 have hn:=hd.few
 have hlp:=hd.lp
 have HD:=hide hd
 have HM:=hide hm
 have HSG:=hide hsg
 have hm4:m≤256:=by omega
 have K0:=hide (RK.start h d.lp (.int .i64 k) (.int .i64 x) (.int .i64 y) (.int .i64 sg) (.bool ov))
 unfold W4 at K0
 have hle:=h.le
 clear hm h hd hin hsg
 go_enter Try.func55,Try.ntmps55
 go_upto_region 2 with fail
 simp only [List.append_eq,List.cons_append,List.nil_append]
 obtain ⟨w0,hw0⟩:∃W:World,W=(((w.alloc (.cells #[.slice A d.n cp,.slice B m cq,.int .i64 (d.lp:Int)] 24)).alloc (.cells #[.int .i64 k,.int .i64 x,.int .i64 y,.int .i64 sg,.bool ov] 28)).alloc (.cells #[.slice none 0 0,.slice none 0 0,.int .i64 0] 24)).alloc (.cells #[.int .i64 0,.int .i64 0,.int .i64 0,.int .i64 0,.bool false] 28):=⟨_,rfl⟩
 rw [←hw0] at K0 ⊢
 clear hw0
 go_cut [95] from 25 to 94 (fun s95 wx=>s95 = .bool false∧wx=w0)
 case first =>
  obtain ⟨d0,d1,d2,d3⟩:=box3 K0.out.d
  obtain ⟨m0,m1,m2,m3,m4,m5⟩:=box5 K0.out.m
  have t1:decide (x < -2)=false:=by simp;omega
  have t2:decide (4 * (d.n:Int)≤x)=false:=by simp;omega
  have t3:decide (y < -2)=false:=by simp;omega
  have t4:decide (4 * (d.n:Int)≤y)=false:=by simp;omega
  have hsg:=HSG.out
  by_cases hxy:x=y
  ·have e1:(x != y)=false:=by rw [bne_eq_false_iff_eq];exact hxy
   have e2:(x == y)=true:=by rw [beq_iff_eq];exact hxy
   rw [if_neg (fun q=>q hxy)] at hsg
   by_cases hx0:x<0
   ·have e3:decide (x<0)=true:=by simpa using hx0
    have e4:decide (0≤x)=false:=by simp;omega
    rw [if_pos hx0] at hsg
    clear hxy hx2 hx4 hy2 hy4
    rcases hsg with rfl | rfl
    ·clear hx0
     go_wp2_with fail
     all_goals go_meet
     all_goals exact ⟨rfl,rfl⟩
    ·clear hx0
     go_wp2_with fail
     all_goals go_meet
     all_goals exact ⟨rfl,rfl⟩
   ·have e3:decide (x<0)=false:=by simpa using hx0
    have e4:decide (0≤x)=true:=by simp;omega
    rw [if_neg hx0] at hsg
    clear hxy hx2 hx4 hy2 hy4
    rcases hsg with rfl | rfl
    ·clear hx0
     go_wp2_with fail
     all_goals go_meet
     all_goals exact ⟨rfl,rfl⟩
    ·clear hx0
     go_wp2_with fail
     all_goals go_meet
     all_goals exact ⟨rfl,rfl⟩
  ·have e1:(x != y)=true:=by rw [bne_iff_ne];exact hxy
   have e2:(x == y)=false:=by rw [beq_eq_false_iff_ne];exact hxy
   rw [if_pos hxy] at hsg
   by_cases hx0:x<0
   ·have e3:decide (x<0)=true:=by simpa using hx0
    have e4:decide (0≤x)=false:=by simp;omega
    clear hxy hx2 hx4 hy2 hy4 hx0
    subst hsg
    go_wp2_with fail
    all_goals go_meet
    all_goals exact ⟨rfl,rfl⟩
   ·have e3:decide (x<0)=false:=by simpa using hx0
    have e4:decide (0≤x)=true:=by simp;omega
    clear hxy hx2 hx4 hy2 hy4 hx0
    subst hsg
    go_wp2_with fail
    all_goals go_meet
    all_goals exact ⟨rfl,rfl⟩
 case rest =>
  obtain ⟨rfl,hwc⟩:=hcut
  rw [hwc]
  clear hwc
  obtain ⟨d0,d1,d2,d3⟩:=box3 K0.out.d
  obtain ⟨m0,m1,m2,m3,m4,m5⟩:=box5 K0.out.m
  obtain ⟨_,r3,l3⟩:=K0.out.rd
  obtain ⟨_,r4,l4⟩:=K0.out.rm
  obtain ⟨p0,p1,p2,p3⟩:=cells3 r3 l3
  obtain ⟨q0,q1,q2,q3,q4,q5⟩:=cells5 r4 l4
  clear r3 l3 r4 l4
  go_wp2_with fail
  refine (rnear_any d HD.out A B cp cq m k x y sg ov _ HM.out ⟨own_intsR K0.out.s,by rw [←HM.out];exact ownN_ints K0.out.o⟩ hx4 hy4).mono ?_
  rintro e w1 ⟨rfl,hb1⟩
  have K1:=hide (K0.out.below hb1)
  clear hb1 K0
  clear d0 d1 d2 d3 m0 m1 m2 m3 m4 m5 p0 p1 p2 p3 q0 q1 q2 q3 q4 q5
  obtain ⟨d0,d1,d2,d3⟩:=box3 K1.out.d
  obtain ⟨m0,m1,m2,m3,m4,m5⟩:=box5 K1.out.m
  obtain ⟨_,r3,l3⟩:=K1.out.rd
  obtain ⟨_,r4,l4⟩:=K1.out.rm
  obtain ⟨p0,p1,p2,p3⟩:=cells3 r3 l3
  obtain ⟨q0,q1,q2,q3,q4,q5⟩:=cells5 r4 l4
  clear r3 l3 r4 l4
  by_cases hN:nearR d x y sg
  rotate_left
  ·have E:=hide (show pkQ d x y sg=6 by rw [HQ.out,if_neg hN])
   rw [Pl.vb_false hN]
   clear hN
   go_wp2_with fail
   go_region
   go_wp2_with fail
   refine bodyPost_ret (v := .tuple #[.agg #[.slice A d.n cp,.slice B m cq,.int .i64 d.lp],.agg #[.int .i64 k,.int .i64 x,.int .i64 y,.int .i64 sg,.bool ov],.int .i64 6]) ?_ rfl ?_
   ·obtain ⟨e0,e1,e2,e3,e4,e5,e6,e7⟩:=RK.cells K1.out (.slice A d.n cp) (.slice B m cq) (.int .i64 d.lp) (.int .i64 k) (.int .i64 x) (.int .i64 y) (.int .i64 sg) (.bool ov)
    unfold st8 at e0 e1 e2 e3 e4 e5 e6 e7
    simp [results,Try.results55,go_sem,e0,e1,e2,e3,e4,e5,e6,e7]
   ·rw [E.out]
    refine rc_err (by decide) ⟨A,B,d.n,m,cp,cq,d.lp,k,x,y,sg,ov,rfl⟩ ?_
    have:=(RK.fin K1.out (.slice A d.n cp) (.slice B m cq) (.int .i64 d.lp) (.int .i64 k) (.int .i64 x) (.int .i64 y) (.int .i64 sg) (.bool ov)).drew.bel
    unfold st8 at this
    exact this
  rw [Pl.vb_true hN]
  have NE:=hide (near_ne hN)
  have NEED:=hide hN.1
  have E1:=hide (show pkQ d x y sg=if 64<d.n+2 then 5 else 0 by rw [HQ.out,if_pos hN])
  clear hN
  by_cases hf:64<d.n+2
  ·have tf:decide ((64:Int)<(d.n:Int)+2)=true:=by simp;omega
   have E:=hide (show pkQ d x y sg=5 by rw [E1.out,if_pos hf])
   clear hf
   go_wp2_with fail
   go_region
   go_wp2_with fail
   refine bodyPost_ret (v := .tuple #[.agg #[.slice A d.n cp,.slice B m cq,.int .i64 d.lp],.agg #[.int .i64 k,.int .i64 x,.int .i64 y,.int .i64 sg,.bool ov],.int .i64 5]) ?_ rfl ?_
   ·obtain ⟨e0,e1,e2,e3,e4,e5,e6,e7⟩:=RK.cells K1.out (.slice A d.n cp) (.slice B m cq) (.int .i64 d.lp) (.int .i64 k) (.int .i64 x) (.int .i64 y) (.int .i64 sg) (.bool ov)
    unfold st8 at e0 e1 e2 e3 e4 e5 e6 e7
    simp [results,Try.results55,go_sem,e0,e1,e2,e3,e4,e5,e6,e7]
   ·rw [E.out]
    refine rc_err (by decide) ⟨A,B,d.n,m,cp,cq,d.lp,k,x,y,sg,ov,rfl⟩ ?_
    have:=(RK.fin K1.out (.slice A d.n cp) (.slice B m cq) (.int .i64 d.lp) (.int .i64 k) (.int .i64 x) (.int .i64 y) (.int .i64 sg) (.bool ov)).drew.bel
    unfold st8 at this
    exact this
  have tf:decide ((64:Int)<(d.n:Int)+2)=false:=by simp;omega
  have E0:=hide (show pkQ d x y sg=0 by rw [E1.out,if_neg hf])
  clear hf E1 HQ p0 p1 p2 p3 q0 q1 q2 q3 q4 q5
  go_upto_region 8 with fail
  go_quiet (fail)
  have K2:=hide (K1.out.drewN nq)
  obtain ⟨w2,hw2⟩:∃W,W=w1.drewN nq:=⟨_,rfl⟩
  rw [←hw2] at K2 ⊢
  clear hw2 K1 d0 d1 d2 d3 m0 m1 m2 m3 m4 m5
  obtain ⟨d0,d1,d2,d3⟩:=box3 K2.out.d
  obtain ⟨m0,m1,m2,m3,m4,m5⟩:=box5 K2.out.m
  go_upto_if 117 with fail
  go_cut [8] from 109 to 121 (fun s8 wx=>s8 = .bool (fwd d x)∧RK base w (.slice A d.n cp) (.slice B m cq) d.n m (d.lp:Int) [.int .i64 k,.int .i64 x,.int .i64 y,.int .i64 sg,.bool ov] d.sg d.mt wx)
  case first =>
   by_cases h0:0≤x
   ·obtain ⟨z,rfl⟩:=Int.eq_ofNat_of_zero_le h0
    have t1:decide ((0:Int)≤(z:Int))=true:=by simp
    have EF:=hide (show fwd d (z:Int)=Pl.out d z by
     unfold fwd
     rw [if_neg (by omega),if_pos h0];rfl)
    go_wp2_with fail
    refine (rout_any d A B d.n cp m cq (.int .i64 d.lp) z _ rfl (by omega) (by omega) (own_intsR K2.out.s)).mono ?_
    rintro e w3 ⟨rfl,hb3⟩
    go_wp2_with fail
    go_meet
    exact ⟨by rw [EF.out],K2.out.below hb3⟩
   ·have t1:decide ((0:Int)≤x)=false:=by simp;omega
    have EF:=hide (show fwd d x=(x == -1) by
     unfold fwd
     by_cases h1:x = -1
     ·rw [if_pos h1,h1];rfl
     ·rw [if_neg h1,if_neg h0]
      exact (beq_eq_false_iff_ne.2 h1).symm)
    go_wp2_with fail
    go_meet
    exact ⟨by rw [EF.out],K2.out⟩
  case rest =>
   obtain ⟨rfl,hk⟩:=hcut
   have K3:=hide hk
   clear hk K2 d0 d1 d2 d3 m0 m1 m2 m3 m4 m5
   obtain ⟨w3,hw3⟩:∃W,W=wc:=⟨_,rfl⟩
   rw [←hw3] at K3 ⊢
   clear hw3
   obtain ⟨d0,d1,d2,d3⟩:=box3 K3.out.d
   obtain ⟨m0,m1,m2,m3,m4,m5⟩:=box5 K3.out.m
   go_upto_if 124 with fail
   go_cut [9] from 109 to 128 (fun s8 wx=>s8 = .bool (fwd d y)∧RK base w (.slice A d.n cp) (.slice B m cq) d.n m (d.lp:Int) [.int .i64 k,.int .i64 x,.int .i64 y,.int .i64 sg,.bool ov] d.sg d.mt wx)
   case first =>
    by_cases h0:0≤y
    ·obtain ⟨z,rfl⟩:=Int.eq_ofNat_of_zero_le h0
     have t1:decide ((0:Int)≤(z:Int))=true:=by simp
     have EF:=hide (show fwd d (z:Int)=Pl.out d z by
      unfold fwd
      rw [if_neg (by omega),if_pos h0];rfl)
     go_wp2_with fail
     refine (rout_any d A B d.n cp m cq (.int .i64 d.lp) z _ rfl (by omega) (by omega) (own_intsR K3.out.s)).mono ?_
     rintro e w3 ⟨rfl,hb3⟩
     go_wp2_with fail
     go_meet
     exact ⟨by rw [EF.out],K3.out.below hb3⟩
    ·have t1:decide ((0:Int)≤y)=false:=by simp;omega
     have EF:=hide (show fwd d y=(y == -1) by
      unfold fwd
      by_cases h1:y = -1
      ·rw [if_pos h1,h1];rfl
      ·rw [if_neg h1,if_neg h0]
       exact (beq_eq_false_iff_ne.2 h1).symm)
     go_wp2_with fail
     go_meet
     exact ⟨by rw [EF.out],K3.out⟩
   case rest =>
    obtain ⟨rfl,hk⟩:=hcut
    have K4:=hide hk
    clear hk K3 d0 d1 d2 d3 m0 m1 m2 m3 m4 m5
    obtain ⟨w4,hw4⟩:∃W,W=wc:=⟨_,rfl⟩
    rw [←hw4] at K4 ⊢
    clear hw4
    obtain ⟨fx,hfx⟩:∃f,f=fwd d x:=⟨_,rfl⟩
    obtain ⟨fy,hfy⟩:∃f,f=fwd d y:=⟨_,rfl⟩
    rw [←hfx,←hfy]
    have TH:=hide (show th0 d x=(if fx then 3 else 1)∧th1 d x=(if fx then 1 else 3) by unfold th0 th1;rw [hfx];exact ⟨rfl,rfl⟩)
    have LN:=hide (show lnS d y=if fy then 0 else 2 by unfold lnS;rw [hfy])
    clear hfx hfy
    obtain ⟨a0,ha0⟩:∃a,a=th0 d x:=⟨_,rfl⟩
    obtain ⟨a1,ha1⟩:∃a,a=th1 d x:=⟨_,rfl⟩
    obtain ⟨b0,hb0⟩:∃a,a=lnS d y:=⟨_,rfl⟩
    rw [←ha0,←ha1] at TH
    rw [←hb0] at LN
    have HA0:=hide ha0
    have HA1:=hide ha1
    have HB0:=hide hb0
    clear ha0 ha1 hb0
    go_upto_if 129 with fail
    go_cut [10,11] from 129 to 129 (fun s10 s11 wx=>s10 = .int .i64 (a0:Int)∧s11 = .int .i64 (a1:Int)∧wx=w4)
    case first =>
     cases fx with
     | true =>
       have e1:=hide (show a0=3 from TH.out.1)
       have e2:=hide (show a1=1 from TH.out.2)
       go_wp2_with fail
       go_meet
       exact ⟨by rw [e1.out];rfl,by rw [e2.out];rfl,rfl⟩
     | false =>
       have e1:=hide (show a0=1 from TH.out.1)
       have e2:=hide (show a1=3 from TH.out.2)
       go_wp2_with fail
       go_meet
       exact ⟨by rw [e1.out];rfl,by rw [e2.out];rfl,rfl⟩
    case rest =>
     obtain ⟨rfl,rfl,hwc⟩:=hcut
     rw [hwc]
     clear hwc
     go_upto_if 130 with fail
     go_cut [12] from 130 to 130 (fun s12 wx=>s12 = .int .i64 (b0:Int)∧wx=w4)
     case first =>
      cases fy with
      | true =>
        have e1:=hide (show b0=0 from LN.out)
        go_wp2_with fail
        go_meet
        exact ⟨by rw [e1.out];rfl,rfl⟩
      | false =>
        have e1:=hide (show b0=2 from LN.out)
        go_wp2_with fail
        go_meet
        exact ⟨by rw [e1.out];rfl,rfl⟩
     case rest =>
      obtain ⟨rfl,hwc⟩:=hcut
      rw [hwc]
      clear hwc
      have hab:a0≤3∧a1≤3∧b0≤2:=by
       rw [TH.out.1,TH.out.2,LN.out]
       refine ⟨?_,?_,?_⟩ <;> split <;> omega
      obtain ⟨i0,hi0,hz0,hz1,hz2⟩:=info_parts intInfo
      obtain ⟨d0,d1,d2,d3⟩:=box3 K4.out.d
      have hw4:=K4.out.big
      have A0:=hide (K4.out.alloc (.cells #[.int .i64 1,.int .i64 1] 3))
      have NE0:=hide (own_row_ne A0.out.s A0.out.d (by decide))
      have hsz1:base≤(w4.alloc (.cells #[.int .i64 1,.int .i64 1] 3)).heap.size:=by simp;omega
      go_upto_region 19 with (at_builtin;refine wpList_append_lies _ (by rfl) _ _ 22 (by rfl) base 3 i0 (.int .i64 0) 1 8 Try.underlying22 hi0 hz0 hz1 hz2 rfl (by omega) _ d.n _ (by rfl) A0.out.s ⟨w4.heap.size,0,none⟩ 2 2 [.int .i64 1,.int .i64 1] (by rfl) (by rfl) (two_newsP w4 (.int .i64 1) (.int .i64 1)) (by simp [Value.oneCell']) (by omega) (by unfold maxLen;omega) (by omega) hsz1 (w4.heap.size+1) (by simp) ?_;intro g3 c3 w5 own3 grow3 at3 lt3;have KD:=A0.out.d.grown grow3 NE0.out;obtain ⟨e0,e1,e2,e3⟩:=box3 KD;have OWN3:=hide own3;have GR3:=hide grow3;have AT3:=hide at3;clear own3 grow3 at3 KD)
      have K5:=hide (RK.appS (K4.out.alloc (.cells #[.int .i64 1,.int .i64 1] 3)) (ss':=d.sg++[1,1]) (by have:=OWN3.out;rw [List.map_append];exact this) GR3.out rfl (by have:=AT3.out;simpa using this))
      clear OWN3 GR3 AT3 d0 d1 d2 d3 hw4 K4 A0 NE0
      obtain ⟨w6,hw6⟩:∃W:World,W=w5.setCell ⟨w.heap.size,0,none⟩ (.slice (some ⟨g3,0,none⟩) (d.n+2) c3):=⟨_,rfl⟩
      rw [←hw6] at K5 ⊢
      clear hw6 e0 e1 e2 e3
      obtain ⟨d0,d1,d2,d3⟩:=box3 K5.out.d
      have hw6:=K5.out.big
      have A1:=hide (K5.out.alloc (.cells #[.int .i64 0,.int .i64 0,.int .i64 0,.int .i64 0,.int .i64 0,.int .i64 0,.int .i64 0,.int .i64 0] 3))
      have NE1:=hide (own_row_ne A1.out.o A1.out.d (by decide))
      have hsz2:base≤(w6.alloc (.cells #[.int .i64 0,.int .i64 0,.int .i64 0,.int .i64 0,.int .i64 0,.int .i64 0,.int .i64 0,.int .i64 0] 3)).heap.size:=by simp;omega
      go_upto_region 20 with (at_builtin;refine wpList_append_lies _ (by rfl) _ _ 22 (by rfl) base 3 i0 (.int .i64 0) 1 8 Try.underlying22 hi0 hz0 hz1 hz2 rfl (by omega) _ m _ (by rfl) A1.out.o ⟨w6.heap.size,0,none⟩ 8 8 [.int .i64 0,.int .i64 0,.int .i64 0,.int .i64 0,.int .i64 0,.int .i64 0,.int .i64 0,.int .i64 0] (by rfl) (by rfl) (eight_newsP w6 (.int .i64 0) (.int .i64 0) (.int .i64 0) (.int .i64 0) (.int .i64 0) (.int .i64 0) (.int .i64 0) (.int .i64 0)) (by simp [Value.oneCell']) (by omega) (by unfold maxLen;omega) (by omega) hsz2 (w6.heap.size+1) (by simp) ?_;intro g5 c5 w7 own5 grow5 at5 lt5;have KD:=A1.out.d.grown grow5 NE1.out;obtain ⟨e0,e1,e2,e3⟩:=box3 KD;have OWN5:=hide own5;have GR5:=hide grow5;have AT5:=hide at5;clear own5 grow5 at5 KD)
      have K7:=hide (RK.appM (K5.out.alloc (.cells #[.int .i64 0,.int .i64 0,.int .i64 0,.int .i64 0,.int .i64 0,.int .i64 0,.int .i64 0,.int .i64 0] 3)) (l':=d.mt++[0,0,0,0,0,0,0,0]) (by have:=OWN5.out;rw [List.map_append];exact this) GR5.out rfl (by have:=AT5.out;simpa using this))
      clear OWN5 GR5 AT5 d0 d1 d2 d3 K5 A1 NE1 hw6
      obtain ⟨w8,hw8⟩:∃W:World,W=w7.setCell ⟨w.heap.size,1,none⟩ (.slice (some ⟨g5,0,none⟩) (m+8) c5):=⟨_,rfl⟩
      rw [←hw8] at K7 ⊢
      clear hw8 e0 e1 e2 e3
      obtain ⟨m0,m1,m2,m3,m4,m5⟩:=box5 K7.out.m
      have hbig:=K7.out.big
      have zz1:w.heap.size+1<w8.heap.size:=by omega
      have zz2:w.heap.size+1<w8.heap.size+1:=by omega
      have h3l:=(World.ownsRow.lt K7.out.s g3 rfl).2
      have h5l:=(World.ownsRow.lt K7.out.o g5 rfl).2
      go_upto_if 148 with fail
      obtain ⟨gu,hgu⟩:∃g,g=w8.heap.size:=⟨_,rfl⟩
      obtain ⟨gv,hgv⟩:∃g,g=w8.heap.size+1:=⟨_,rfl⟩
      have K8:=hide (show RK base w (.slice (some ⟨g3,0,none⟩) (d.n+2) c3) (.slice (some ⟨g5,0,none⟩) (m+8) c5) (d.n+2) (m+8) (d.lp:Int) [.int .i64 k,.int .i64 x,.int .i64 y,.int .i64 sg,.bool ov] (d.sg++[1,1]) (d.mt++[0,0,0,0,0,0,0,0]) ((w8.alloc (.cells #[.int .i64 (a0:Int),.int .i64 (a1:Int)] 3)).alloc (.cells #[.int .i64 (b0:Int),.int .i64 (b0:Int)] 3)) from (K7.out.alloc _).alloc _)
      have U8:=hide (show IRow ((w8.alloc (.cells #[.int .i64 (a0:Int),.int .i64 (a1:Int)] 3)).alloc (.cells #[.int .i64 (b0:Int),.int .i64 (b0:Int)] 3)) gu [(a0:Int),(a1:Int)] from Row.alloc (row_at (vs:=[.int .i64 (a0:Int),.int .i64 (a1:Int)]) hgu) _)
      have V8:=hide (show IRow ((w8.alloc (.cells #[.int .i64 (a0:Int),.int .i64 (a1:Int)] 3)).alloc (.cells #[.int .i64 (b0:Int),.int .i64 (b0:Int)] 3)) gv [(b0:Int),(b0:Int)] from row_at (vs:=[.int .i64 (b0:Int),.int .i64 (b0:Int)]) (by rw [hgv];simp))
      rw [←hgv,←hgu]
      obtain ⟨w9,hw9⟩:∃W,W=(w8.alloc (.cells #[.int .i64 (a0:Int),.int .i64 (a1:Int)] 3)).alloc (.cells #[.int .i64 (b0:Int),.int .i64 (b0:Int)] 3):=⟨_,rfl⟩
      rw [←hw9] at K8 U8 V8 ⊢
      have hguv:g3<gu∧g5<gu∧gu<gv:=by omega
      clear hw9 hgu hgv K7 h3l h5l hbig m0 m1 m2 m3 m4 m5
      obtain ⟨u0,hu0⟩:∃u,u=un0 d x y ov:=⟨_,rfl⟩
      obtain ⟨u1,hu1⟩:∃u,u=un1 d x y ov:=⟨_,rfl⟩
      obtain ⟨v0,hv0⟩:∃u,u=ov0 d x y ov:=⟨_,rfl⟩
      obtain ⟨v1,hv1⟩:∃u,u=ov1 d x y ov:=⟨_,rfl⟩
      have UV:=hide (show u0=(if ov then b0 else a0)∧u1=(if ov then b0 else a1)∧v0=(if ov then a0 else b0)∧v1=(if ov then a1 else b0) by
       rw [hu0,hu1,hv0,hv1,HA0.out,HA1.out,HB0.out];exact ⟨rfl,rfl,rfl,rfl⟩)
      have HU0:=hide hu0
      have HU1:=hide hu1
      have HV0:=hide hv0
      have HV1:=hide hv1
      clear hu0 hu1 hv0 hv1
      go_cut [13,14] from 149 to 150 (fun s13 s14 wx=>∃gs gt:Nat,s13 = .slice (some ⟨gs,0,none⟩) 2 2∧s14 = .slice (some ⟨gt,0,none⟩) 2 2∧wx=w9∧IRow w9 gs [(u0:Int),(u1:Int)]∧IRow w9 gt [(v0:Int),(v1:Int)]∧g3<gs∧g3<gt)
      case first =>
       cases ov with
       | true =>
         have e:=hide (show u0=b0∧u1=b0∧v0=a0∧v1=a1 from UV.out)
         go_wp2_with fail
         go_meet
         refine ⟨gv,gu,rfl,rfl,rfl,?_,?_,by omega,by omega⟩
         ·rw [e.out.1,e.out.2.1];exact V8.out
         ·rw [e.out.2.2.1,e.out.2.2.2];exact U8.out
       | false =>
         have e:=hide (show u0=a0∧u1=a1∧v0=b0∧v1=b0 from UV.out)
         go_wp2_with fail
         go_meet
         refine ⟨gu,gv,rfl,rfl,rfl,?_,?_,by omega,by omega⟩
         ·rw [e.out.1,e.out.2.1];exact U8.out
         ·rw [e.out.2.2.1,e.out.2.2.2];exact V8.out
      case rest =>
       obtain ⟨gs,gt,rfl,rfl,hwc,hgs,hgt,lgs,lgt⟩:=hcut
       rw [hwc]
       have US:=hide hgs
       have VT:=hide hgt
       have hgsl:=hgs.lt
       have hgtl:=hgt.lt
       have huv:u0≤3∧u1≤3∧v0≤3∧v1≤3:=by
        rw [UV.out.1,UV.out.2.1,UV.out.2.2.1,UV.out.2.2.2]
        refine ⟨?_,?_,?_,?_⟩ <;> split <;> omega
       clear hwc hgs hgt U8 V8 hguv UV TH LN
       obtain ⟨f0,hf0⟩:∃f,f=decide ((v0+4 - u0) % 4=1):=⟨_,rfl⟩
       obtain ⟨f1,hf1⟩:∃f,f=decide ((v1+4 - u1) % 4=1):=⟨_,rfl⟩
       have t0:(((v0:Int) - (u0:Int)+4) % 4 == 1)=f0:=by rw [hf0,Bool.eq_iff_iff,beq_iff_eq,decide_eq_true_iff];omega
       have t0':(((v0:Int) - (u0:Int)+4).tmod 4 == 1)=f0:=by rw [Int.tmod_eq_emod_of_nonneg (by omega)];exact t0
       have t1:(((v1:Int) - (u1:Int)+4) % 4 == 1)=f1:=by rw [hf1,Bool.eq_iff_iff,beq_iff_eq,decide_eq_true_iff];omega
       have t1':(((v1:Int) - (u1:Int)+4).tmod 4 == 1)=f1:=by rw [Int.tmod_eq_emod_of_nonneg (by omega)];exact t1
       obtain ⟨s0,hs0⟩:∃s:Int,s=if f0 then -1 else 1:=⟨_,rfl⟩
       obtain ⟨s1,hs1⟩:∃s:Int,s=if f1 then -1 else 1:=⟨_,rfl⟩
       have SGN:=hide (show sgn2 (un0 d x y ov) (ov0 d x y ov)=s0∧sgn2 (un1 d x y ov) (ov1 d x y ov)=s1 by
        rw [(rk_sgn d x y ov).1,(rk_sgn d x y ov).2,hs0,hs1,hf0,hf1,HU0.out,HU1.out,HV0.out,HV1.out]
        simp only [decide_eq_true_eq]
        exact ⟨trivial,trivial⟩)
       have HS0:=hide hs0
       have HS1:=hide hs1
       clear hf0 hf1 hs0 hs1
       have hsl:d.sg.length=d.n:=rfl
       have EL:=hide (show (d.sg++[(1:Int),1]).set d.n (-1)=d.sg++[-1,1]∧(∀s:Int,(d.sg++[s,1]).set (d.n+1) (-1)=d.sg++[s,-1]) by
        constructor
        ·rw [List.set_append_right _ _ (by omega),hsl,Nat.sub_self];rfl
        ·intro s
         rw [List.set_append_right _ _ (by omega),hsl,show d.n+1 - d.n=1 by omega];rfl)
       clear hsl
       go_wp2_with fail
       go_loopg [15] 2 (fun g s15 wx=>∃(q:Nat) (a b:Int),q+g=2∧s15 = .int .i64 (q:Int)∧a=(if 0<q then s0 else 1)∧b=(if 1<q then s1 else 1)∧RK base w (.slice (some ⟨g3,0,none⟩) (d.n+2) c3) (.slice (some ⟨g5,0,none⟩) (m+8) c5) (d.n+2) (m+8) (d.lp:Int) [.int .i64 k,.int .i64 x,.int .i64 y,.int .i64 sg,.bool ov] (d.sg++[a,b]) (d.mt++[0,0,0,0,0,0,0,0]) wx∧IRow wx gs [(u0:Int),(u1:Int)]∧IRow wx gt [(v0:Int),(v1:Int)])
       case atStart=>exact ⟨0,1,1,rfl,rfl,rfl,rfl,K8.out,US.out,VT.out⟩
       case round =>
        clear K8 US VT
        obtain ⟨q,a,b,hkg,rfl,ha,hb,hk,hu,hv⟩:=hrel
        have HKG:=hide hkg
        have KK:=hide hk
        have UU:=hide hu
        have VV:=hide hv
        clear hk hu hv
        have hq3:q=0∨q=1∨q=2:=by omega
        clear hkg
        rcases hq3 with rfl | rfl | rfl
        ·have eA:=hide ha
         have eB:=hide hb
         have cu:=UU.out.cell (i:=0) (by simp)
         have cv':=VV.out.cell (i:=0) (by simp)
         have cu2:wr.cell? ⟨gs,0,none⟩=some (.int .i64 (u0:Int)):=cu
         have cv2:wr.cell? ⟨gt,0,none⟩=some (.int .i64 (v0:Int)):=cv'
         clear ha hb cu cv'
         obtain ⟨d0,d1,d2,d3⟩:=box3 KK.out.d
         go_upto_region 27 with fail
         go_quiet (fail)
         have K9:=hide (KK.out.drewN nq)
         have U9:=hide (Row.drewN UU.out nq)
         have V9:=hide (Row.drewN VV.out nq)
         obtain ⟨w10,hw10⟩:∃W,W=wr.drewN nq:=⟨_,rfl⟩
         rw [←hw10] at K9 U9 V9 ⊢
         clear hw10 KK UU VV cu2 cv2 d0 d1 d2 d3
         obtain ⟨d0,d1,d2,d3⟩:=box3 K9.out.d
         have cs:=World.ownsRow.cellAt K9.out.s (d.n) (by simp)
         have hcs:∃vv,w10.cell? ⟨g3,d.n,none⟩=some vv:=by
          rw [cs,List.getElem?_map]
          have hl:d.n<(d.sg++[a,b]).length:=by rw [List.length_append];show d.n<d.n+2;omega
          rw [List.getElem?_eq_getElem hl]
          exact ⟨_,rfl⟩
         obtain ⟨vv,cs2⟩:=hcs
         have fs:∀o,w10.frozen? ⟨g3,o,none⟩=false:=fun o=>World.ownsRow.frozenAt K9.out.s o
         have i1:(0:Int)≤(d.n:Int):=by omega
         have i2:(d.n:Int)<((d.n+2:Nat):Int):=by omega
         have i3:((d.n:Int)).toNat=d.n:=by omega
         clear cs
         cases f0 with
         | true =>
           have es:=hide (show s0 = -1 from HS0.out)
           go_wp2
           go_roundg (gk - 1)
           case measure=>have:=HKG.out;omega
           case rel =>
            refine ⟨0+1,-1,b,by have:=HKG.out;omega,by go_num,by rw [es.out];rfl,by rw [eB.out];rfl,?_,?_,?_⟩
            ·have h9:=K9.out.storeS (d.n) (-1)
             have e9:(d.sg++[a,b]).set (d.n) (-1)=d.sg++[-1,b]:=by
              rw [show a=1 from eA.out,show b=1 from eB.out];exact EL.out.1
             rw [e9] at h9
             exact h9
            ·exact Row.other U9.out (by show gs≠g3;omega) _
            ·exact Row.other V9.out (by show gt≠g3;omega) _
         | false =>
           have es:=hide (show s0=1 from HS0.out)
           go_wp2
           go_roundg (gk - 1)
           case measure=>have:=HKG.out;omega
           case rel=>exact ⟨0+1,a,b,by have:=HKG.out;omega,by go_num,by rw [eA.out];rw [es.out];rfl,by rw [eB.out];rfl,K9.out,U9.out,V9.out⟩
        ·have eA:=hide ha
         have eB:=hide hb
         have cu:=UU.out.cell (i:=1) (by simp)
         have cv':=VV.out.cell (i:=1) (by simp)
         have cu2:wr.cell? ⟨gs,1,none⟩=some (.int .i64 (u1:Int)):=cu
         have cv2:wr.cell? ⟨gt,1,none⟩=some (.int .i64 (v1:Int)):=cv'
         clear ha hb cu cv'
         obtain ⟨d0,d1,d2,d3⟩:=box3 KK.out.d
         go_upto_region 27 with fail
         go_quiet (fail)
         have K9:=hide (KK.out.drewN nq)
         have U9:=hide (Row.drewN UU.out nq)
         have V9:=hide (Row.drewN VV.out nq)
         obtain ⟨w10,hw10⟩:∃W,W=wr.drewN nq:=⟨_,rfl⟩
         rw [←hw10] at K9 U9 V9 ⊢
         clear hw10 KK UU VV cu2 cv2 d0 d1 d2 d3
         obtain ⟨d0,d1,d2,d3⟩:=box3 K9.out.d
         have cs:=World.ownsRow.cellAt K9.out.s (d.n+1) (by simp)
         have hcs:∃vv,w10.cell? ⟨g3,d.n+1,none⟩=some vv:=by
          rw [cs,List.getElem?_map]
          have hl:d.n+1<(d.sg++[a,b]).length:=by rw [List.length_append];show d.n+1<d.n+2;omega
          rw [List.getElem?_eq_getElem hl]
          exact ⟨_,rfl⟩
         obtain ⟨vv,cs2⟩:=hcs
         have fs:∀o,w10.frozen? ⟨g3,o,none⟩=false:=fun o=>World.ownsRow.frozenAt K9.out.s o
         have i1:(0:Int)≤(d.n:Int)+1:=by omega
         have i2:(d.n:Int)+1<((d.n+2:Nat):Int):=by omega
         have i3:((d.n:Int)+1).toNat=d.n+1:=by omega
         clear cs
         cases f1 with
         | true =>
           have es:=hide (show s1 = -1 from HS1.out)
           go_wp2
           go_roundg (gk - 1)
           case measure=>have:=HKG.out;omega
           case rel =>
            refine ⟨1+1,a,-1,by have:=HKG.out;omega,by go_num,by rw [eA.out];rfl,by rw [es.out];rfl,?_,?_,?_⟩
            ·have h9:=K9.out.storeS (d.n+1) (-1)
             have e9:(d.sg++[a,b]).set (d.n+1) (-1)=d.sg++[a,-1]:=by
              rw [show b=1 from eB.out];exact EL.out.2 a
             rw [e9] at h9
             exact h9
            ·exact Row.other U9.out (by show gs≠g3;omega) _
            ·exact Row.other V9.out (by show gt≠g3;omega) _
         | false =>
           have es:=hide (show s1=1 from HS1.out)
           go_wp2
           go_roundg (gk - 1)
           case measure=>have:=HKG.out;omega
           case rel=>exact ⟨1+1,a,b,by have:=HKG.out;omega,by go_num,by rw [eA.out];rfl,by rw [eB.out];rw [es.out];rfl,K9.out,U9.out,V9.out⟩
        ·obtain rfl:s0=a:=ha.symm
         obtain rfl:s1=b:=hb.symm
         clear HKG t0 t0' t1 t1' HS0 HS1 EL
         have cu0:wr.cell? ⟨gs,0,none⟩=some (.int .i64 (u0:Int)):=UU.out.cell (i:=0) (by simp)
         have cu1:wr.cell? ⟨gs,1,none⟩=some (.int .i64 (u1:Int)):=UU.out.cell (i:=1) (by simp)
         go_wp2_with fail
         refine (rcorners_4 d.n u0 _ (by omega) (by omega)).mono ?_
         rintro e w11 ⟨gp,cP,rfl,hgp,hP,hb11⟩
         have cu2:=cell_below cu1 hb11
         go_wp2_with fail
         refine (rcorners_5 d.n u1 _ (by omega) (by omega)).mono ?_
         rintro e w12 ⟨gq,cQ,rfl,hgq,hQ,hb12⟩
         have h5l:=(World.ownsRow.lt KK.out.o g5 rfl).2
         have hsz11:=hb11.size
         have hbg:=KK.out.big
         obtain ⟨P,hPP⟩:∃P,P=pP d x y ov:=⟨_,rfl⟩
         obtain ⟨Q,hQQ⟩:∃P,P=pQ d x y ov:=⟨_,rfl⟩
         have J0:=hide (show RJ base w g3 c3 g5 c5 (d.n+2) (m+8) (d.lp:Int) [.int .i64 k,.int .i64 x,.int .i64 y,.int .i64 sg,.bool ov] (d.sg++[s0,s1]) (d.mt++[0,0,0,0,0,0,0,0]) gp gq P Q w12 from
          ⟨(KK.out.below hb11).below hb12, fun t ht => by
            have h1:=cell_below (hP t ht) hb12
            rw [HU0.out] at h1
            rw [hPP];exact h1,fun t ht=>by
            have h1:=hQ t ht
            rw [HU1.out] at h1
            rw [hQQ];exact h1,by omega,by omega,by omega,by omega⟩)
         have HPB:=hide (show (∀t,P t<m+8)∧(∀t,Q t<m+8) by
          have:=HM.out
          rw [hPP,hQQ]
          exact ⟨fun t=>by have:=pP_at d x y ov t;omega,fun t=>by have:=pQ_at d x y ov t;omega⟩)
         have HPP:=hide hPP
         have HQQ:=hide hQQ
         clear hPP hQQ hP hQ hb11 hb12 hgp hgq h5l hsz11 hbg KK UU VV cu0 cu1 cu2 HU0 HU1 HV0 HV1
         have HB0:=hide (show ∀j,j<m+8→(d.mt++[0,0,0,0,0,0,0,0]).getD j 0<m+8 from fun j _=>getD_all (by omega) (fun z hz=>by
          rcases List.mem_append.1 hz with h1 | h1
          ·obtain ⟨i,hi,rfl⟩:=List.getElem_of_mem h1
           have hl:=HD.out.len
           have h2:=HD.out.lt i (by omega)
           have h3:=m_get HD.out (show i<4 * d.n by omega)
           rw [List.getD_eq_getElem?_getD,List.getElem?_eq_getElem hi] at h3
           have h4:d.mt[i]=d.m i:=h3
           have:=HM.out
           omega
          ·have:z=0:=by simpa using h1
           omega) j)
         have cp1:=J0.out.p 1 (by omega)
         have cq1:=J0.out.q' 1 (by omega)
         obtain ⟨d0,d1,d2,d3⟩:=box3 J0.out.k.d
         obtain ⟨m0,m1,m2,m3,m4,m5⟩:=box5 J0.out.k.m
         go_upto_region 31 with fail
         go_still_tail 7,(by kernel_rfl)
         change wpList _ _ _ _ _ (World.drew w12)
         have JD:=hide J0.out.drew
         obtain ⟨V,hV⟩:∃V,V=World.drew w12:=⟨_,rfl⟩
         rw [←hV] at JD ⊢
         clear hV cp1 cq1 d0 d1 d2 d3 m0 m1 m2 m3 m4 m5 J0
         go_wp2_with fail
         refine (rjoin_any base g5 (m+8) c5 (P 1) (Q 1) (d.n+2) c3 (some ⟨g3,0,none⟩) (.int .i64 (d.lp:Int)) _ V JD.out.k.o (HPB.out.1 1) (HPB.out.2 1) (by omega)).mono ?_
         rintro e v1 ⟨rfl,ownj,grj⟩
         have J1:=hide (JD.out.join grj ownj)
         have HC1:=hide (jn_lt' (a:=(P 1)) (b:=(Q 1)) HB0.out (HPB.out.1 1) (HPB.out.2 1))
         clear JD ownj grj
         have cp0:=J1.out.p 0 (by omega)
         have cq2:=J1.out.q' 2 (by omega)
         obtain ⟨d0,d1,d2,d3⟩:=box3 J1.out.k.d
         obtain ⟨m0,m1,m2,m3,m4,m5⟩:=box5 J1.out.k.m
         go_upto_region 32 with fail
         go_still_tail 7,(by kernel_rfl)
         change wpList _ _ _ _ _ (World.drew v1)
         have JD:=hide J1.out.drew
         obtain ⟨V,hV⟩:∃V,V=World.drew v1:=⟨_,rfl⟩
         rw [←hV] at JD ⊢
         clear hV cp0 cq2 d0 d1 d2 d3 m0 m1 m2 m3 m4 m5 J1
         go_wp2_with fail
         refine (rjoin_any base g5 (m+8) c5 (P 0) (Q 2) (d.n+2) c3 (some ⟨g3,0,none⟩) (.int .i64 (d.lp:Int)) _ V JD.out.k.o (HPB.out.1 0) (HPB.out.2 2) (by omega)).mono ?_
         rintro e v2 ⟨rfl,ownj,grj⟩
         have J2:=hide (JD.out.join grj ownj)
         have HC2:=hide (jn_lt' (a:=(P 0)) (b:=(Q 2)) HC1.out (HPB.out.1 0) (HPB.out.2 2))
         clear JD ownj grj
         obtain ⟨L,hL⟩:∃L,L=(jn (jn (d.mt++[0,0,0,0,0,0,0,0]) (P 1) (Q 1)) (P 0) (Q 2)):=⟨_,rfl⟩
         rw [←hL] at J2 HC2
         have HL:=hide (show L=rk0 d x y ov by rw [hL,HPP.out,HQQ.out];rfl)
         clear hL
         have hsg:=HSG.out
         by_cases hs1:sg=1
         ·subst hs1
          have hxy:x=y:=Classical.byContradiction fun q=>by rw [if_pos q] at hsg;exact absurd hsg (by decide)
          have HXY:=hide hxy
          clear hsg hxy
          by_cases hx0:0≤x
          ·skip
           obtain ⟨z,rfl⟩:=Int.eq_ofNat_of_zero_le hx0
           clear hx0
           have cp3:=J2.out.p 3 (by omega)
           obtain ⟨d0,d1,d2,d3⟩:=box3 J2.out.k.d
           obtain ⟨m0,m1,m2,m3,m4,m5⟩:=box5 J2.out.k.m
           have cx:=OwnN.cell J2.out.k.o (k:=z) (by have:=HM.out;omega)
           obtain ⟨zx,hzx⟩:∃v,v=L.getD z 0:=⟨_,rfl⟩
           rw [←hzx] at cx
           have HZX:=hide hzx
           have hzxb:zx<m+8:=by rw [hzx];exact HC2.out z (by have:=HM.out;omega)
           have i1:(0:Int)≤(z:Int):=by omega
           have i2:(z:Int)<((m+8:Nat):Int):=by have:=HM.out;omega
           clear hzx
           go_upto_region 47 with fail
           go_still_tail 6,(by kernel_rfl)
           change wpList _ _ _ _ _ (World.drew v2)
           have JD:=hide J2.out.drew
           obtain ⟨V,hV⟩:∃V,V=World.drew v2:=⟨_,rfl⟩
           rw [←hV] at JD ⊢
           clear hV cp3 d0 d1 d2 d3 m0 m1 m2 m3 m4 m5 J2
           go_wp2_with fail
           refine (rjoin_any base g5 (m+8) c5 (P 3) z (d.n+2) c3 (some ⟨g3,0,none⟩) (.int .i64 (d.lp:Int)) _ V JD.out.k.o (HPB.out.1 3) (by have:=HM.out;omega) (by omega)).mono ?_
           rintro e v3 ⟨rfl,ownj,grj⟩
           have J3:=hide (JD.out.join grj ownj)
           have HC3:=hide (jn_lt' (a:=(P 3)) (b:=z) HC2.out (HPB.out.1 3) (by have:=HM.out;omega))
           clear JD ownj grj
           have cq3:=J3.out.q' 3 (by omega)
           have cq0:=J3.out.q' 0 (by omega)
           obtain ⟨d0,d1,d2,d3⟩:=box3 J3.out.k.d
           obtain ⟨m0,m1,m2,m3,m4,m5⟩:=box5 J3.out.k.m
           go_upto_region 48 with fail
           go_still_tail 7,(by kernel_rfl)
           change wpList _ _ _ _ _ (World.drew v3)
           have JD:=hide J3.out.drew
           obtain ⟨V,hV⟩:∃V,V=World.drew v3:=⟨_,rfl⟩
           rw [←hV] at JD ⊢
           clear hV cq3 cq0 d0 d1 d2 d3 m0 m1 m2 m3 m4 m5 J3
           go_wp2_with fail
           refine (rjoin_any base g5 (m+8) c5 (Q 3) (Q 0) (d.n+2) c3 (some ⟨g3,0,none⟩) (.int .i64 (d.lp:Int)) _ V JD.out.k.o (HPB.out.2 3) (HPB.out.2 0) (by omega)).mono ?_
           rintro e v4 ⟨rfl,ownj,grj⟩
           have J4:=hide (JD.out.join grj ownj)
           have HC4:=hide (jn_lt' (a:=(Q 3)) (b:=(Q 0)) HC3.out (HPB.out.2 3) (HPB.out.2 0))
           clear JD ownj grj
           have cp2:=J4.out.p 2 (by omega)
           obtain ⟨d0,d1,d2,d3⟩:=box3 J4.out.k.d
           obtain ⟨m0,m1,m2,m3,m4,m5⟩:=box5 J4.out.k.m
           go_upto_region 49 with fail
           go_still_tail 5,(by kernel_rfl)
           change wpList _ _ _ _ _ (World.drew v4)
           have JD:=hide J4.out.drew
           obtain ⟨V,hV⟩:∃V,V=World.drew v4:=⟨_,rfl⟩
           rw [←hV] at JD ⊢
           clear hV cp2 d0 d1 d2 d3 m0 m1 m2 m3 m4 m5 J4
           go_wp2_with fail
           refine (rjoin_any base g5 (m+8) c5 (P 2) zx (d.n+2) c3 (some ⟨g3,0,none⟩) (.int .i64 (d.lp:Int)) _ V JD.out.k.o (HPB.out.1 2) (by have:=HM.out;omega) (by omega)).mono ?_
           rintro e v5 ⟨rfl,ownj,grj⟩
           have J5:=hide (JD.out.join grj ownj)
           have HC5:=hide (jn_lt' (a:=(P 2)) (b:=zx) HC4.out (HPB.out.1 2) (by have:=HM.out;omega))
           clear JD ownj grj
           have EM:=hide (show pkM d (z:Int) y 1 ov=(jn (jn (jn L (P 3) z) (Q 3) (Q 0)) (P 2) zx) by
            rw [←rkM_eq HD.out HIN.out NE.out]
            unfold rkM
            rw [if_pos ⟨rfl,by omega⟩,←HPP.out,←HQQ.out,←HL.out,Int.toNat_natCast,←HZX.out]
           )
           have EL:=hide (show pkL d (z:Int) y 1=(d.lp:Int) by
            unfold pkL
            first | (simp;done) | (simp;omega))
           have hl0:(0:Int)≤(d.lp:Int):=by omega
           obtain ⟨d0,d1,d2,d3⟩:=box3 J5.out.k.d
           obtain ⟨m0,m1,m2,m3,m4,m5⟩:=box5 J5.out.k.m
           obtain ⟨_,r3,l3⟩:=J5.out.k.rd
           obtain ⟨_,r4,l4⟩:=J5.out.k.rm
           obtain ⟨p0,p1,p2,p3⟩:=cells3 r3 l3
           obtain ⟨q0,q1,q2,q3,q4,q5⟩:=cells5 r4 l4
           clear r3 l3 r4 l4
           go_wp2
           refine bodyPost_ret (v := .tuple #[.agg #[.slice (some ⟨g3,0,none⟩) (d.n+2) c3,.slice (some ⟨g5,0,none⟩) (m+8) c5,.int .i64 ((d.lp:Int))],.agg #[.int .i64 4,.int .i64 (d.n:Int),.int .i64 ((d.n:Int)+1),.int .i64 0,.bool false],.int .i64 0]) ?_ rfl ?_
           ·obtain ⟨e0,e1,e2,e3,e4,e5,e6,e7⟩:=RK.cells J5.out.k (.slice (some ⟨g3,0,none⟩) (d.n+2) c3) (.slice (some ⟨g5,0,none⟩) (m+8) c5) (.int .i64 ((d.lp:Int))) (.int .i64 4) (.int .i64 (d.n:Int)) (.int .i64 ((d.n:Int)+1)) (.int .i64 0) (.bool false)
            unfold st8 at e0 e1 e2 e3 e4 e5 e6 e7
            simp [results,Try.results55,go_sem,e0,e1,e2,e3,e4,e5,e6,e7]
           ·have K11:=RK.fin J5.out.k (.slice (some ⟨g3,0,none⟩) (d.n+2) c3) (.slice (some ⟨g5,0,none⟩) (m+8) c5) (.int .i64 ((d.lp:Int))) (.int .i64 4) (.int .i64 (d.n:Int)) (.int .i64 ((d.n:Int)+1)) (.int .i64 0) (.bool false)
            have O1:=J5.out.k.own8 J5.out.k.s (.slice (some ⟨g3,0,none⟩) (d.n+2) c3) (.slice (some ⟨g5,0,none⟩) (m+8) c5) (.int .i64 ((d.lp:Int))) (.int .i64 4) (.int .i64 (d.n:Int)) (.int .i64 ((d.n:Int)+1)) (.int .i64 0) (.bool false)
            have O2:=J5.out.k.own8 J5.out.k.o (.slice (some ⟨g3,0,none⟩) (d.n+2) c3) (.slice (some ⟨g5,0,none⟩) (m+8) c5) (.int .i64 ((d.lp:Int))) (.int .i64 4) (.int .i64 (d.n:Int)) (.int .i64 ((d.n:Int)+1)) (.int .i64 0) (.bool false)
            unfold st8 at K11 O1 O2
            rw [←SGN.out.1,←SGN.out.2] at O1
            exact rpk_done HD.out E0.out HM.out EM.out EL.out hl0 K11.bel O1 O2
          ·have tx:decide (0≤x)=false:=by simp;omega
           have hlp1:1≤d.lp:=by
            have:=NEED.out
            unfold needP at this
            rw [if_pos (by omega)] at this
            omega
           have cq3:=J2.out.q' 3 (by omega)
           have cq0:=J2.out.q' 0 (by omega)
           obtain ⟨d0,d1,d2,d3⟩:=box3 J2.out.k.d
           obtain ⟨m0,m1,m2,m3,m4,m5⟩:=box5 J2.out.k.m
           go_upto_region 56 with fail
           go_still_tail 7,(by kernel_rfl)
           change wpList _ _ _ _ _ (World.drew v2)
           have JD:=hide J2.out.drew
           obtain ⟨V,hV⟩:∃V,V=World.drew v2:=⟨_,rfl⟩
           rw [←hV] at JD ⊢
           clear hV cq3 cq0 d0 d1 d2 d3 m0 m1 m2 m3 m4 m5 J2
           go_wp2_with fail
           refine (rjoin_any base g5 (m+8) c5 (Q 3) (Q 0) (d.n+2) c3 (some ⟨g3,0,none⟩) (.int .i64 (d.lp:Int)) _ V JD.out.k.o (HPB.out.2 3) (HPB.out.2 0) (by omega)).mono ?_
           rintro e v6 ⟨rfl,ownj,grj⟩
           have J6:=hide (JD.out.join grj ownj)
           have HC6:=hide (jn_lt' (a:=(Q 3)) (b:=(Q 0)) HC2.out (HPB.out.2 3) (HPB.out.2 0))
           clear JD ownj grj
           have cp2:=J6.out.p 2 (by omega)
           have cp3:=J6.out.p 3 (by omega)
           obtain ⟨d0,d1,d2,d3⟩:=box3 J6.out.k.d
           obtain ⟨m0,m1,m2,m3,m4,m5⟩:=box5 J6.out.k.m
           go_upto_region 57 with fail
           go_still_tail 7,(by kernel_rfl)
           change wpList _ _ _ _ _ (World.drew v6)
           have JD:=hide J6.out.drew
           obtain ⟨V,hV⟩:∃V,V=World.drew v6:=⟨_,rfl⟩
           rw [←hV] at JD ⊢
           clear hV cp2 cp3 d0 d1 d2 d3 m0 m1 m2 m3 m4 m5 J6
           go_wp2_with fail
           refine (rjoin_any base g5 (m+8) c5 (P 2) (P 3) (d.n+2) c3 (some ⟨g3,0,none⟩) (.int .i64 (d.lp:Int)) _ V JD.out.k.o (HPB.out.1 2) (HPB.out.1 3) (by omega)).mono ?_
           rintro e v7 ⟨rfl,ownj,grj⟩
           have J7:=hide (JD.out.join grj ownj)
           have HC7:=hide (jn_lt' (a:=(P 2)) (b:=(P 3)) HC6.out (HPB.out.1 2) (HPB.out.1 3))
           clear JD ownj grj
           obtain ⟨d0,d1,d2,d3⟩:=box3 J7.out.k.d
           go_upto_region 59 with fail
           have J8:=hide (J7.out.setL ((d.lp:Int) - 1))
           obtain ⟨v8,hv8⟩:∃W,W=v7.setCell ⟨w.heap.size,2,none⟩ (.int .i64 ((d.lp:Int) - 1)):=⟨_,rfl⟩
           rw [←hv8] at J8 ⊢
           clear hv8 J7 d0 d1 d2 d3
           have EM:=hide (show pkM d x y 1 ov=(jn (jn L (Q 3) (Q 0)) (P 2) (P 3)) by
            rw [←rkM_eq HD.out HIN.out NE.out]
            unfold rkM
            rw [if_neg (by omega),if_neg (by decide),if_pos rfl,←HPP.out,←HQQ.out,←HL.out]
           )
           have EL:=hide (show pkL d x y 1=(d.lp:Int) - 1 by
            unfold pkL
            rw [if_pos ⟨by decide,by omega⟩])
           have hl0:(0:Int)≤((d.lp:Int) - 1):=by omega
           obtain ⟨d0,d1,d2,d3⟩:=box3 J8.out.k.d
           obtain ⟨m0,m1,m2,m3,m4,m5⟩:=box5 J8.out.k.m
           obtain ⟨_,r3,l3⟩:=J8.out.k.rd
           obtain ⟨_,r4,l4⟩:=J8.out.k.rm
           obtain ⟨p0,p1,p2,p3⟩:=cells3 r3 l3
           obtain ⟨q0,q1,q2,q3,q4,q5⟩:=cells5 r4 l4
           clear r3 l3 r4 l4
           go_wp2
           refine bodyPost_ret (v := .tuple #[.agg #[.slice (some ⟨g3,0,none⟩) (d.n+2) c3,.slice (some ⟨g5,0,none⟩) (m+8) c5,.int .i64 (((d.lp:Int) - 1))],.agg #[.int .i64 4,.int .i64 (d.n:Int),.int .i64 ((d.n:Int)+1),.int .i64 0,.bool false],.int .i64 0]) ?_ rfl ?_
           ·obtain ⟨e0,e1,e2,e3,e4,e5,e6,e7⟩:=RK.cells J8.out.k (.slice (some ⟨g3,0,none⟩) (d.n+2) c3) (.slice (some ⟨g5,0,none⟩) (m+8) c5) (.int .i64 (((d.lp:Int) - 1))) (.int .i64 4) (.int .i64 (d.n:Int)) (.int .i64 ((d.n:Int)+1)) (.int .i64 0) (.bool false)
            unfold st8 at e0 e1 e2 e3 e4 e5 e6 e7
            simp [results,Try.results55,go_sem,e0,e1,e2,e3,e4,e5,e6,e7]
           ·have K11:=RK.fin J8.out.k (.slice (some ⟨g3,0,none⟩) (d.n+2) c3) (.slice (some ⟨g5,0,none⟩) (m+8) c5) (.int .i64 (((d.lp:Int) - 1))) (.int .i64 4) (.int .i64 (d.n:Int)) (.int .i64 ((d.n:Int)+1)) (.int .i64 0) (.bool false)
            have O1:=J8.out.k.own8 J8.out.k.s (.slice (some ⟨g3,0,none⟩) (d.n+2) c3) (.slice (some ⟨g5,0,none⟩) (m+8) c5) (.int .i64 (((d.lp:Int) - 1))) (.int .i64 4) (.int .i64 (d.n:Int)) (.int .i64 ((d.n:Int)+1)) (.int .i64 0) (.bool false)
            have O2:=J8.out.k.own8 J8.out.k.o (.slice (some ⟨g3,0,none⟩) (d.n+2) c3) (.slice (some ⟨g5,0,none⟩) (m+8) c5) (.int .i64 (((d.lp:Int) - 1))) (.int .i64 4) (.int .i64 (d.n:Int)) (.int .i64 ((d.n:Int)+1)) (.int .i64 0) (.bool false)
            unfold st8 at K11 O1 O2
            rw [←SGN.out.1,←SGN.out.2] at O1
            exact rpk_done HD.out E0.out HM.out EM.out EL.out hl0 K11.bel O1 O2
         ·by_cases hs2:sg = -1
          ·subst hs2
           have hx0:0≤x:=Classical.byContradiction fun q=>by
            split at hsg
            ·exact absurd hsg (by decide)
            ·rw [if_pos (by omega)] at hsg
             omega
           clear hsg hs1
           obtain ⟨z,rfl⟩:=Int.eq_ofNat_of_zero_le hx0
           clear hx0
           have cq0:=J2.out.q' 0 (by omega)
           obtain ⟨d0,d1,d2,d3⟩:=box3 J2.out.k.d
           obtain ⟨m0,m1,m2,m3,m4,m5⟩:=box5 J2.out.k.m
           have cx:=OwnN.cell J2.out.k.o (k:=z) (by have:=HM.out;omega)
           obtain ⟨zx,hzx⟩:∃v,v=L.getD z 0:=⟨_,rfl⟩
           rw [←hzx] at cx
           have HZX:=hide hzx
           have hzxb:zx<m+8:=by rw [hzx];exact HC2.out z (by have:=HM.out;omega)
           have i1:(0:Int)≤(z:Int):=by omega
           have i2:(z:Int)<((m+8:Nat):Int):=by have:=HM.out;omega
           clear hzx
           go_upto_region 52 with fail
           go_still_tail 6,(by kernel_rfl)
           change wpList _ _ _ _ _ (World.drew v2)
           have JD:=hide J2.out.drew
           obtain ⟨V,hV⟩:∃V,V=World.drew v2:=⟨_,rfl⟩
           rw [←hV] at JD ⊢
           clear hV cq0 d0 d1 d2 d3 m0 m1 m2 m3 m4 m5 J2
           go_wp2_with fail
           refine (rjoin_any base g5 (m+8) c5 (Q 0) z (d.n+2) c3 (some ⟨g3,0,none⟩) (.int .i64 (d.lp:Int)) _ V JD.out.k.o (HPB.out.2 0) (by have:=HM.out;omega) (by omega)).mono ?_
           rintro e v9 ⟨rfl,ownj,grj⟩
           have J9:=hide (JD.out.join grj ownj)
           have HC9:=hide (jn_lt' (a:=(Q 0)) (b:=z) HC2.out (HPB.out.2 0) (by have:=HM.out;omega))
           clear JD ownj grj
           have cp2:=J9.out.p 2 (by omega)
           have cp3:=J9.out.p 3 (by omega)
           obtain ⟨d0,d1,d2,d3⟩:=box3 J9.out.k.d
           obtain ⟨m0,m1,m2,m3,m4,m5⟩:=box5 J9.out.k.m
           go_upto_region 53 with fail
           go_still_tail 7,(by kernel_rfl)
           change wpList _ _ _ _ _ (World.drew v9)
           have JD:=hide J9.out.drew
           obtain ⟨V,hV⟩:∃V,V=World.drew v9:=⟨_,rfl⟩
           rw [←hV] at JD ⊢
           clear hV cp2 cp3 d0 d1 d2 d3 m0 m1 m2 m3 m4 m5 J9
           go_wp2_with fail
           refine (rjoin_any base g5 (m+8) c5 (P 2) (P 3) (d.n+2) c3 (some ⟨g3,0,none⟩) (.int .i64 (d.lp:Int)) _ V JD.out.k.o (HPB.out.1 2) (HPB.out.1 3) (by omega)).mono ?_
           rintro e v10 ⟨rfl,ownj,grj⟩
           have J10:=hide (JD.out.join grj ownj)
           have HC10:=hide (jn_lt' (a:=(P 2)) (b:=(P 3)) HC9.out (HPB.out.1 2) (HPB.out.1 3))
           clear JD ownj grj
           have cq3:=J10.out.q' 3 (by omega)
           obtain ⟨d0,d1,d2,d3⟩:=box3 J10.out.k.d
           obtain ⟨m0,m1,m2,m3,m4,m5⟩:=box5 J10.out.k.m
           go_upto_region 54 with fail
           go_still_tail 5,(by kernel_rfl)
           change wpList _ _ _ _ _ (World.drew v10)
           have JD:=hide J10.out.drew
           obtain ⟨V,hV⟩:∃V,V=World.drew v10:=⟨_,rfl⟩
           rw [←hV] at JD ⊢
           clear hV cq3 d0 d1 d2 d3 m0 m1 m2 m3 m4 m5 J10
           go_wp2_with fail
           refine (rjoin_any base g5 (m+8) c5 (Q 3) zx (d.n+2) c3 (some ⟨g3,0,none⟩) (.int .i64 (d.lp:Int)) _ V JD.out.k.o (HPB.out.2 3) (by have:=HM.out;omega) (by omega)).mono ?_
           rintro e v11 ⟨rfl,ownj,grj⟩
           have J11:=hide (JD.out.join grj ownj)
           have HC11:=hide (jn_lt' (a:=(Q 3)) (b:=zx) HC10.out (HPB.out.2 3) (by have:=HM.out;omega))
           clear JD ownj grj
           have EM:=hide (show pkM d (z:Int) y (-1) ov=(jn (jn (jn L (Q 0) z) (P 2) (P 3)) (Q 3) zx) by
            rw [←rkM_eq HD.out HIN.out NE.out]
            unfold rkM
            rw [if_neg (by omega),if_pos rfl,←HPP.out,←HQQ.out,←HL.out,Int.toNat_natCast,←HZX.out]
           )
           have EL:=hide (show pkL d (z:Int) y (-1)=(d.lp:Int) by
            unfold pkL
            first | (simp;done) | (simp;omega))
           have hl0:(0:Int)≤(d.lp:Int):=by omega
           obtain ⟨d0,d1,d2,d3⟩:=box3 J11.out.k.d
           obtain ⟨m0,m1,m2,m3,m4,m5⟩:=box5 J11.out.k.m
           obtain ⟨_,r3,l3⟩:=J11.out.k.rd
           obtain ⟨_,r4,l4⟩:=J11.out.k.rm
           obtain ⟨p0,p1,p2,p3⟩:=cells3 r3 l3
           obtain ⟨q0,q1,q2,q3,q4,q5⟩:=cells5 r4 l4
           clear r3 l3 r4 l4
           go_wp2
           refine bodyPost_ret (v := .tuple #[.agg #[.slice (some ⟨g3,0,none⟩) (d.n+2) c3,.slice (some ⟨g5,0,none⟩) (m+8) c5,.int .i64 ((d.lp:Int))],.agg #[.int .i64 4,.int .i64 (d.n:Int),.int .i64 ((d.n:Int)+1),.int .i64 0,.bool false],.int .i64 0]) ?_ rfl ?_
           ·obtain ⟨e0,e1,e2,e3,e4,e5,e6,e7⟩:=RK.cells J11.out.k (.slice (some ⟨g3,0,none⟩) (d.n+2) c3) (.slice (some ⟨g5,0,none⟩) (m+8) c5) (.int .i64 ((d.lp:Int))) (.int .i64 4) (.int .i64 (d.n:Int)) (.int .i64 ((d.n:Int)+1)) (.int .i64 0) (.bool false)
            unfold st8 at e0 e1 e2 e3 e4 e5 e6 e7
            simp [results,Try.results55,go_sem,e0,e1,e2,e3,e4,e5,e6,e7]
           ·have K11:=RK.fin J11.out.k (.slice (some ⟨g3,0,none⟩) (d.n+2) c3) (.slice (some ⟨g5,0,none⟩) (m+8) c5) (.int .i64 ((d.lp:Int))) (.int .i64 4) (.int .i64 (d.n:Int)) (.int .i64 ((d.n:Int)+1)) (.int .i64 0) (.bool false)
            have O1:=J11.out.k.own8 J11.out.k.s (.slice (some ⟨g3,0,none⟩) (d.n+2) c3) (.slice (some ⟨g5,0,none⟩) (m+8) c5) (.int .i64 ((d.lp:Int))) (.int .i64 4) (.int .i64 (d.n:Int)) (.int .i64 ((d.n:Int)+1)) (.int .i64 0) (.bool false)
            have O2:=J11.out.k.own8 J11.out.k.o (.slice (some ⟨g3,0,none⟩) (d.n+2) c3) (.slice (some ⟨g5,0,none⟩) (m+8) c5) (.int .i64 ((d.lp:Int))) (.int .i64 4) (.int .i64 (d.n:Int)) (.int .i64 ((d.n:Int)+1)) (.int .i64 0) (.bool false)
            unfold st8 at K11 O1 O2
            rw [←SGN.out.1,←SGN.out.2] at O1
            exact rpk_done HD.out E0.out HM.out EM.out EL.out hl0 K11.bel O1 O2
          ·have hs0 : sg = 0 := by
            split at hsg
            ·exact hsg
            ·split at hsg <;> omega
           subst hs0
           clear hsg hs1 hs2
           by_cases hx0:0≤x
           ·by_cases hy0:0≤y
            ·skip
             obtain ⟨z,rfl⟩:=Int.eq_ofNat_of_zero_le hx0
             clear hx0
             obtain ⟨r,rfl⟩:=Int.eq_ofNat_of_zero_le hy0
             clear hy0
             have hnd:(if (z:Int)<0 then 1 else 0)+(if (r:Int)<0 then 1 else 0)≤d.lp:=by
              have:=NEED.out
              unfold needP at this
              simp only [and_true] at this
              omega
             have cp3:=J2.out.p 3 (by omega)
             obtain ⟨d0,d1,d2,d3⟩:=box3 J2.out.k.d
             obtain ⟨m0,m1,m2,m3,m4,m5⟩:=box5 J2.out.k.m
             have cx:=OwnN.cell J2.out.k.o (k:=z) (by have:=HM.out;omega)
             obtain ⟨zx,hzx⟩:∃v,v=L.getD z 0:=⟨_,rfl⟩
             rw [←hzx] at cx
             have HZX:=hide hzx
             have hzxb:zx<m+8:=by rw [hzx];exact HC2.out z (by have:=HM.out;omega)
             have i1:(0:Int)≤(z:Int):=by omega
             have i2:(z:Int)<((m+8:Nat):Int):=by have:=HM.out;omega
             clear hzx
             go_upto_region 35 with fail
             go_still_tail 6,(by kernel_rfl)
             change wpList _ _ _ _ _ (World.drew v2)
             have JD:=hide J2.out.drew
             obtain ⟨V,hV⟩:∃V,V=World.drew v2:=⟨_,rfl⟩
             rw [←hV] at JD ⊢
             clear hV cp3 d0 d1 d2 d3 m0 m1 m2 m3 m4 m5 J2
             go_wp2_with fail
             refine (rjoin_any base g5 (m+8) c5 (P 3) z (d.n+2) c3 (some ⟨g3,0,none⟩) (.int .i64 (d.lp:Int)) _ V JD.out.k.o (HPB.out.1 3) (by have:=HM.out;omega) (by omega)).mono ?_
             rintro e v12 ⟨rfl,ownj,grj⟩
             have J12:=hide (JD.out.join grj ownj)
             have HC12:=hide (jn_lt' (a:=(P 3)) (b:=z) HC2.out (HPB.out.1 3) (by have:=HM.out;omega))
             clear JD ownj grj
             have cq3:=J12.out.q' 3 (by omega)
             obtain ⟨d0,d1,d2,d3⟩:=box3 J12.out.k.d
             obtain ⟨m0,m1,m2,m3,m4,m5⟩:=box5 J12.out.k.m
             go_upto_region 36 with fail
             go_still_tail 5,(by kernel_rfl)
             change wpList _ _ _ _ _ (World.drew v12)
             have JD:=hide J12.out.drew
             obtain ⟨V,hV⟩:∃V,V=World.drew v12:=⟨_,rfl⟩
             rw [←hV] at JD ⊢
             clear hV cq3 d0 d1 d2 d3 m0 m1 m2 m3 m4 m5 J12
             go_wp2_with fail
             refine (rjoin_any base g5 (m+8) c5 (Q 3) zx (d.n+2) c3 (some ⟨g3,0,none⟩) (.int .i64 (d.lp:Int)) _ V JD.out.k.o (HPB.out.2 3) (by have:=HM.out;omega) (by omega)).mono ?_
             rintro e v13 ⟨rfl,ownj,grj⟩
             have J13:=hide (JD.out.join grj ownj)
             have HC13:=hide (jn_lt' (a:=(Q 3)) (b:=zx) HC12.out (HPB.out.2 3) (by have:=HM.out;omega))
             clear JD ownj grj
             have cq0:=J13.out.q' 0 (by omega)
             obtain ⟨d0,d1,d2,d3⟩:=box3 J13.out.k.d
             obtain ⟨m0,m1,m2,m3,m4,m5⟩:=box5 J13.out.k.m
             have cy:=OwnN.cell J13.out.k.o (k:=r) (by have:=HM.out;omega)
             obtain ⟨ry,hry⟩:∃v,v=(jn (jn L (P 3) z) (Q 3) zx).getD r 0:=⟨_,rfl⟩
             rw [←hry] at cy
             have HRY:=hide hry
             have hryb:ry<m+8:=by rw [hry];exact HC13.out r (by have:=HM.out;omega)
             have i3:(0:Int)≤(r:Int):=by omega
             have i4:(r:Int)<((m+8:Nat):Int):=by have:=HM.out;omega
             clear hry
             go_upto_region 41 with fail
             go_still_tail 6,(by kernel_rfl)
             change wpList _ _ _ _ _ (World.drew v13)
             have JD:=hide J13.out.drew
             obtain ⟨V,hV⟩:∃V,V=World.drew v13:=⟨_,rfl⟩
             rw [←hV] at JD ⊢
             clear hV cq0 d0 d1 d2 d3 m0 m1 m2 m3 m4 m5 J13
             go_wp2_with fail
             refine (rjoin_any base g5 (m+8) c5 (Q 0) r (d.n+2) c3 (some ⟨g3,0,none⟩) (.int .i64 (d.lp:Int)) _ V JD.out.k.o (HPB.out.2 0) (by have:=HM.out;omega) (by omega)).mono ?_
             rintro e v14 ⟨rfl,ownj,grj⟩
             have J14:=hide (JD.out.join grj ownj)
             have HC14:=hide (jn_lt' (a:=(Q 0)) (b:=r) HC13.out (HPB.out.2 0) (by have:=HM.out;omega))
             clear JD ownj grj
             have cp2:=J14.out.p 2 (by omega)
             obtain ⟨d0,d1,d2,d3⟩:=box3 J14.out.k.d
             obtain ⟨m0,m1,m2,m3,m4,m5⟩:=box5 J14.out.k.m
             go_upto_region 42 with fail
             go_still_tail 5,(by kernel_rfl)
             change wpList _ _ _ _ _ (World.drew v14)
             have JD:=hide J14.out.drew
             obtain ⟨V,hV⟩:∃V,V=World.drew v14:=⟨_,rfl⟩
             rw [←hV] at JD ⊢
             clear hV cp2 d0 d1 d2 d3 m0 m1 m2 m3 m4 m5 J14
             go_wp2_with fail
             refine (rjoin_any base g5 (m+8) c5 (P 2) ry (d.n+2) c3 (some ⟨g3,0,none⟩) (.int .i64 (d.lp:Int)) _ V JD.out.k.o (HPB.out.1 2) (by have:=HM.out;omega) (by omega)).mono ?_
             rintro e v15 ⟨rfl,ownj,grj⟩
             have J15:=hide (JD.out.join grj ownj)
             have HC15:=hide (jn_lt' (a:=(P 2)) (b:=ry) HC14.out (HPB.out.1 2) (by have:=HM.out;omega))
             clear JD ownj grj
             have EM:=hide (show pkM d (z:Int) (r:Int) 0 ov=(jn (jn (jn (jn L (P 3) z) (Q 3) zx) (Q 0) r) (P 2) ry) by
              rw [←rkM_eq HD.out HIN.out (fun _=>NE.out trivial)]
              unfold rkM rlead
              rw [if_neg (by omega),if_neg (by decide),if_neg (by decide)]
              rw [if_neg (by omega),if_neg (by omega)]
              rw [←HPP.out,←HQQ.out,←HL.out]
              rw [Int.toNat_natCast,Int.toNat_natCast,←HZX.out,←HRY.out]
             )
             have EL:=hide (show pkL d (z:Int) (r:Int) 0=(d.lp:Int) by
              unfold pkL
              rw [if_neg (fun c=>c.1 rfl),if_pos rfl,if_neg (by omega),if_neg (by omega)])
             have hl0:(0:Int)≤(d.lp:Int):=by omega
             obtain ⟨d0,d1,d2,d3⟩:=box3 J15.out.k.d
             obtain ⟨m0,m1,m2,m3,m4,m5⟩:=box5 J15.out.k.m
             obtain ⟨_,r3,l3⟩:=J15.out.k.rd
             obtain ⟨_,r4,l4⟩:=J15.out.k.rm
             obtain ⟨p0,p1,p2,p3⟩:=cells3 r3 l3
             obtain ⟨q0,q1,q2,q3,q4,q5⟩:=cells5 r4 l4
             clear r3 l3 r4 l4
             go_wp2
             refine bodyPost_ret (v := .tuple #[.agg #[.slice (some ⟨g3,0,none⟩) (d.n+2) c3,.slice (some ⟨g5,0,none⟩) (m+8) c5,.int .i64 ((d.lp:Int))],.agg #[.int .i64 4,.int .i64 (d.n:Int),.int .i64 ((d.n:Int)+1),.int .i64 0,.bool false],.int .i64 0]) ?_ rfl ?_
             ·obtain ⟨e0,e1,e2,e3,e4,e5,e6,e7⟩:=RK.cells J15.out.k (.slice (some ⟨g3,0,none⟩) (d.n+2) c3) (.slice (some ⟨g5,0,none⟩) (m+8) c5) (.int .i64 ((d.lp:Int))) (.int .i64 4) (.int .i64 (d.n:Int)) (.int .i64 ((d.n:Int)+1)) (.int .i64 0) (.bool false)
              unfold st8 at e0 e1 e2 e3 e4 e5 e6 e7
              simp [results,Try.results55,go_sem,e0,e1,e2,e3,e4,e5,e6,e7]
             ·have K11:=RK.fin J15.out.k (.slice (some ⟨g3,0,none⟩) (d.n+2) c3) (.slice (some ⟨g5,0,none⟩) (m+8) c5) (.int .i64 ((d.lp:Int))) (.int .i64 4) (.int .i64 (d.n:Int)) (.int .i64 ((d.n:Int)+1)) (.int .i64 0) (.bool false)
              have O1:=J15.out.k.own8 J15.out.k.s (.slice (some ⟨g3,0,none⟩) (d.n+2) c3) (.slice (some ⟨g5,0,none⟩) (m+8) c5) (.int .i64 ((d.lp:Int))) (.int .i64 4) (.int .i64 (d.n:Int)) (.int .i64 ((d.n:Int)+1)) (.int .i64 0) (.bool false)
              have O2:=J15.out.k.own8 J15.out.k.o (.slice (some ⟨g3,0,none⟩) (d.n+2) c3) (.slice (some ⟨g5,0,none⟩) (m+8) c5) (.int .i64 ((d.lp:Int))) (.int .i64 4) (.int .i64 (d.n:Int)) (.int .i64 ((d.n:Int)+1)) (.int .i64 0) (.bool false)
              unfold st8 at K11 O1 O2
              rw [←SGN.out.1,←SGN.out.2] at O1
              exact rpk_done HD.out E0.out HM.out EM.out EL.out hl0 K11.bel O1 O2
            ·skip
             obtain ⟨z,rfl⟩:=Int.eq_ofNat_of_zero_le hx0
             clear hx0
             have ty:decide (0≤y)=false:=by simp;omega
             have hnd:(if (z:Int)<0 then 1 else 0)+(if y<0 then 1 else 0)≤d.lp:=by
              have:=NEED.out
              unfold needP at this
              simp only [and_true] at this
              omega
             have cp3:=J2.out.p 3 (by omega)
             obtain ⟨d0,d1,d2,d3⟩:=box3 J2.out.k.d
             obtain ⟨m0,m1,m2,m3,m4,m5⟩:=box5 J2.out.k.m
             have cx:=OwnN.cell J2.out.k.o (k:=z) (by have:=HM.out;omega)
             obtain ⟨zx,hzx⟩:∃v,v=L.getD z 0:=⟨_,rfl⟩
             rw [←hzx] at cx
             have HZX:=hide hzx
             have hzxb:zx<m+8:=by rw [hzx];exact HC2.out z (by have:=HM.out;omega)
             have i1:(0:Int)≤(z:Int):=by omega
             have i2:(z:Int)<((m+8:Nat):Int):=by have:=HM.out;omega
             clear hzx
             go_upto_region 35 with fail
             go_still_tail 6,(by kernel_rfl)
             change wpList _ _ _ _ _ (World.drew v2)
             have JD:=hide J2.out.drew
             obtain ⟨V,hV⟩:∃V,V=World.drew v2:=⟨_,rfl⟩
             rw [←hV] at JD ⊢
             clear hV cp3 d0 d1 d2 d3 m0 m1 m2 m3 m4 m5 J2
             go_wp2_with fail
             refine (rjoin_any base g5 (m+8) c5 (P 3) z (d.n+2) c3 (some ⟨g3,0,none⟩) (.int .i64 (d.lp:Int)) _ V JD.out.k.o (HPB.out.1 3) (by have:=HM.out;omega) (by omega)).mono ?_
             rintro e v16 ⟨rfl,ownj,grj⟩
             have J16:=hide (JD.out.join grj ownj)
             have HC16:=hide (jn_lt' (a:=(P 3)) (b:=z) HC2.out (HPB.out.1 3) (by have:=HM.out;omega))
             clear JD ownj grj
             have cq3:=J16.out.q' 3 (by omega)
             obtain ⟨d0,d1,d2,d3⟩:=box3 J16.out.k.d
             obtain ⟨m0,m1,m2,m3,m4,m5⟩:=box5 J16.out.k.m
             go_upto_region 36 with fail
             go_still_tail 5,(by kernel_rfl)
             change wpList _ _ _ _ _ (World.drew v16)
             have JD:=hide J16.out.drew
             obtain ⟨V,hV⟩:∃V,V=World.drew v16:=⟨_,rfl⟩
             rw [←hV] at JD ⊢
             clear hV cq3 d0 d1 d2 d3 m0 m1 m2 m3 m4 m5 J16
             go_wp2_with fail
             refine (rjoin_any base g5 (m+8) c5 (Q 3) zx (d.n+2) c3 (some ⟨g3,0,none⟩) (.int .i64 (d.lp:Int)) _ V JD.out.k.o (HPB.out.2 3) (by have:=HM.out;omega) (by omega)).mono ?_
             rintro e v17 ⟨rfl,ownj,grj⟩
             have J17:=hide (JD.out.join grj ownj)
             have HC17:=hide (jn_lt' (a:=(Q 3)) (b:=zx) HC16.out (HPB.out.2 3) (by have:=HM.out;omega))
             clear JD ownj grj
             have cq0:=J17.out.q' 0 (by omega)
             have cp2:=J17.out.p 2 (by omega)
             obtain ⟨d0,d1,d2,d3⟩:=box3 J17.out.k.d
             obtain ⟨m0,m1,m2,m3,m4,m5⟩:=box5 J17.out.k.m
             go_upto_region 43 with fail
             go_still_tail 7,(by kernel_rfl)
             change wpList _ _ _ _ _ (World.drew v17)
             have JD:=hide J17.out.drew
             obtain ⟨V,hV⟩:∃V,V=World.drew v17:=⟨_,rfl⟩
             rw [←hV] at JD ⊢
             clear hV cq0 cp2 d0 d1 d2 d3 m0 m1 m2 m3 m4 m5 J17
             go_wp2_with fail
             refine (rjoin_any base g5 (m+8) c5 (Q 0) (P 2) (d.n+2) c3 (some ⟨g3,0,none⟩) (.int .i64 (d.lp:Int)) _ V JD.out.k.o (HPB.out.2 0) (HPB.out.1 2) (by omega)).mono ?_
             rintro e v18 ⟨rfl,ownj,grj⟩
             have J18:=hide (JD.out.join grj ownj)
             have HC18:=hide (jn_lt' (a:=(Q 0)) (b:=(P 2)) HC17.out (HPB.out.2 0) (HPB.out.1 2))
             clear JD ownj grj
             obtain ⟨d0,d1,d2,d3⟩:=box3 J18.out.k.d
             go_upto_region 59 with fail
             have J19:=hide (J18.out.setL ((d.lp:Int) - 1))
             obtain ⟨v19,hv19⟩:∃W,W=v18.setCell ⟨w.heap.size,2,none⟩ (.int .i64 ((d.lp:Int) - 1)):=⟨_,rfl⟩
             rw [←hv19] at J19 ⊢
             clear hv19 J18 d0 d1 d2 d3
             have EM:=hide (show pkM d (z:Int) y 0 ov=(jn (jn (jn L (P 3) z) (Q 3) zx) (Q 0) (P 2)) by
              rw [←rkM_eq HD.out HIN.out (fun _=>NE.out trivial)]
              unfold rkM rlead
              rw [if_neg (by omega),if_neg (by decide),if_neg (by decide)]
              rw [if_pos (by omega),if_neg (by omega)]
              rw [←HPP.out,←HQQ.out,←HL.out]
              rw [Int.toNat_natCast,←HZX.out]
             )
             have EL:=hide (show pkL d (z:Int) y 0=((d.lp:Int) - 1) by
              unfold pkL
              rw [if_neg (fun c=>c.1 rfl),if_pos rfl,if_neg (by omega),if_pos (by omega)])
             have hl0:(0:Int)≤((d.lp:Int) - 1):=by rw [if_neg (by omega),if_pos (by omega)] at hnd;omega
             obtain ⟨d0,d1,d2,d3⟩:=box3 J19.out.k.d
             obtain ⟨m0,m1,m2,m3,m4,m5⟩:=box5 J19.out.k.m
             obtain ⟨_,r3,l3⟩:=J19.out.k.rd
             obtain ⟨_,r4,l4⟩:=J19.out.k.rm
             obtain ⟨p0,p1,p2,p3⟩:=cells3 r3 l3
             obtain ⟨q0,q1,q2,q3,q4,q5⟩:=cells5 r4 l4
             clear r3 l3 r4 l4
             go_wp2
             refine bodyPost_ret (v := .tuple #[.agg #[.slice (some ⟨g3,0,none⟩) (d.n+2) c3,.slice (some ⟨g5,0,none⟩) (m+8) c5,.int .i64 (((d.lp:Int) - 1))],.agg #[.int .i64 4,.int .i64 (d.n:Int),.int .i64 ((d.n:Int)+1),.int .i64 0,.bool false],.int .i64 0]) ?_ rfl ?_
             ·obtain ⟨e0,e1,e2,e3,e4,e5,e6,e7⟩:=RK.cells J19.out.k (.slice (some ⟨g3,0,none⟩) (d.n+2) c3) (.slice (some ⟨g5,0,none⟩) (m+8) c5) (.int .i64 (((d.lp:Int) - 1))) (.int .i64 4) (.int .i64 (d.n:Int)) (.int .i64 ((d.n:Int)+1)) (.int .i64 0) (.bool false)
              unfold st8 at e0 e1 e2 e3 e4 e5 e6 e7
              simp [results,Try.results55,go_sem,e0,e1,e2,e3,e4,e5,e6,e7]
             ·have K11:=RK.fin J19.out.k (.slice (some ⟨g3,0,none⟩) (d.n+2) c3) (.slice (some ⟨g5,0,none⟩) (m+8) c5) (.int .i64 (((d.lp:Int) - 1))) (.int .i64 4) (.int .i64 (d.n:Int)) (.int .i64 ((d.n:Int)+1)) (.int .i64 0) (.bool false)
              have O1:=J19.out.k.own8 J19.out.k.s (.slice (some ⟨g3,0,none⟩) (d.n+2) c3) (.slice (some ⟨g5,0,none⟩) (m+8) c5) (.int .i64 (((d.lp:Int) - 1))) (.int .i64 4) (.int .i64 (d.n:Int)) (.int .i64 ((d.n:Int)+1)) (.int .i64 0) (.bool false)
              have O2:=J19.out.k.own8 J19.out.k.o (.slice (some ⟨g3,0,none⟩) (d.n+2) c3) (.slice (some ⟨g5,0,none⟩) (m+8) c5) (.int .i64 (((d.lp:Int) - 1))) (.int .i64 4) (.int .i64 (d.n:Int)) (.int .i64 ((d.n:Int)+1)) (.int .i64 0) (.bool false)
              unfold st8 at K11 O1 O2
              rw [←SGN.out.1,←SGN.out.2] at O1
              exact rpk_done HD.out E0.out HM.out EM.out EL.out hl0 K11.bel O1 O2
           ·by_cases hy0:0≤y
            ·skip
             have tx:decide (0≤x)=false:=by simp;omega
             obtain ⟨r,rfl⟩:=Int.eq_ofNat_of_zero_le hy0
             clear hy0
             have hnd:(if x<0 then 1 else 0)+(if (r:Int)<0 then 1 else 0)≤d.lp:=by
              have:=NEED.out
              unfold needP at this
              simp only [and_true] at this
              omega
             have cp3:=J2.out.p 3 (by omega)
             have cq3:=J2.out.q' 3 (by omega)
             obtain ⟨d0,d1,d2,d3⟩:=box3 J2.out.k.d
             obtain ⟨m0,m1,m2,m3,m4,m5⟩:=box5 J2.out.k.m
             go_upto_region 37 with fail
             go_still_tail 7,(by kernel_rfl)
             change wpList _ _ _ _ _ (World.drew v2)
             have JD:=hide J2.out.drew
             obtain ⟨V,hV⟩:∃V,V=World.drew v2:=⟨_,rfl⟩
             rw [←hV] at JD ⊢
             clear hV cp3 cq3 d0 d1 d2 d3 m0 m1 m2 m3 m4 m5 J2
             go_wp2_with fail
             refine (rjoin_any base g5 (m+8) c5 (P 3) (Q 3) (d.n+2) c3 (some ⟨g3,0,none⟩) (.int .i64 (d.lp:Int)) _ V JD.out.k.o (HPB.out.1 3) (HPB.out.2 3) (by omega)).mono ?_
             rintro e v20 ⟨rfl,ownj,grj⟩
             have J20:=hide (JD.out.join grj ownj)
             have HC20:=hide (jn_lt' (a:=(P 3)) (b:=(Q 3)) HC2.out (HPB.out.1 3) (HPB.out.2 3))
             clear JD ownj grj
             obtain ⟨d0,d1,d2,d3⟩:=box3 J20.out.k.d
             go_upto_region 39 with fail
             have J21:=hide (J20.out.setL ((d.lp:Int) - 1))
             obtain ⟨v21,hv21⟩:∃W,W=v20.setCell ⟨w.heap.size,2,none⟩ (.int .i64 ((d.lp:Int) - 1)):=⟨_,rfl⟩
             rw [←hv21] at J21 ⊢
             clear hv21 J20 d0 d1 d2 d3
             have cq0:=J21.out.q' 0 (by omega)
             obtain ⟨d0,d1,d2,d3⟩:=box3 J21.out.k.d
             obtain ⟨m0,m1,m2,m3,m4,m5⟩:=box5 J21.out.k.m
             have cy:=OwnN.cell J21.out.k.o (k:=r) (by have:=HM.out;omega)
             obtain ⟨ry,hry⟩:∃v,v=(jn L (P 3) (Q 3)).getD r 0:=⟨_,rfl⟩
             rw [←hry] at cy
             have HRY:=hide hry
             have hryb:ry<m+8:=by rw [hry];exact HC20.out r (by have:=HM.out;omega)
             have i3:(0:Int)≤(r:Int):=by omega
             have i4:(r:Int)<((m+8:Nat):Int):=by have:=HM.out;omega
             clear hry
             go_upto_region 41 with fail
             go_still_tail 6,(by kernel_rfl)
             change wpList _ _ _ _ _ (World.drew v21)
             have JD:=hide J21.out.drew
             obtain ⟨V,hV⟩:∃V,V=World.drew v21:=⟨_,rfl⟩
             rw [←hV] at JD ⊢
             clear hV cq0 d0 d1 d2 d3 m0 m1 m2 m3 m4 m5 J21
             go_wp2_with fail
             refine (rjoin_any base g5 (m+8) c5 (Q 0) r (d.n+2) c3 (some ⟨g3,0,none⟩) (.int .i64 ((d.lp:Int) - 1)) _ V JD.out.k.o (HPB.out.2 0) (by have:=HM.out;omega) (by omega)).mono ?_
             rintro e v22 ⟨rfl,ownj,grj⟩
             have J22:=hide (JD.out.join grj ownj)
             have HC22:=hide (jn_lt' (a:=(Q 0)) (b:=r) HC20.out (HPB.out.2 0) (by have:=HM.out;omega))
             clear JD ownj grj
             have cp2:=J22.out.p 2 (by omega)
             obtain ⟨d0,d1,d2,d3⟩:=box3 J22.out.k.d
             obtain ⟨m0,m1,m2,m3,m4,m5⟩:=box5 J22.out.k.m
             go_upto_region 42 with fail
             go_still_tail 5,(by kernel_rfl)
             change wpList _ _ _ _ _ (World.drew v22)
             have JD:=hide J22.out.drew
             obtain ⟨V,hV⟩:∃V,V=World.drew v22:=⟨_,rfl⟩
             rw [←hV] at JD ⊢
             clear hV cp2 d0 d1 d2 d3 m0 m1 m2 m3 m4 m5 J22
             go_wp2_with fail
             refine (rjoin_any base g5 (m+8) c5 (P 2) ry (d.n+2) c3 (some ⟨g3,0,none⟩) (.int .i64 ((d.lp:Int) - 1)) _ V JD.out.k.o (HPB.out.1 2) (by have:=HM.out;omega) (by omega)).mono ?_
             rintro e v23 ⟨rfl,ownj,grj⟩
             have J23:=hide (JD.out.join grj ownj)
             have HC23:=hide (jn_lt' (a:=(P 2)) (b:=ry) HC22.out (HPB.out.1 2) (by have:=HM.out;omega))
             clear JD ownj grj
             have EM:=hide (show pkM d x (r:Int) 0 ov=(jn (jn (jn L (P 3) (Q 3)) (Q 0) r) (P 2) ry) by
              rw [←rkM_eq HD.out HIN.out (fun _=>NE.out trivial)]
              unfold rkM rlead
              rw [if_neg (by omega),if_neg (by decide),if_neg (by decide)]
              rw [if_neg (by omega),if_pos (by omega)]
              rw [←HPP.out,←HQQ.out,←HL.out]
              rw [Int.toNat_natCast,←HRY.out]
             )
             have EL:=hide (show pkL d x (r:Int) 0=((d.lp:Int) - 1) by
              unfold pkL
              rw [if_neg (fun c=>c.1 rfl),if_pos rfl,if_pos (by omega),if_neg (by omega)])
             have hl0:(0:Int)≤((d.lp:Int) - 1):=by rw [if_pos (by omega),if_neg (by omega)] at hnd;omega
             obtain ⟨d0,d1,d2,d3⟩:=box3 J23.out.k.d
             obtain ⟨m0,m1,m2,m3,m4,m5⟩:=box5 J23.out.k.m
             obtain ⟨_,r3,l3⟩:=J23.out.k.rd
             obtain ⟨_,r4,l4⟩:=J23.out.k.rm
             obtain ⟨p0,p1,p2,p3⟩:=cells3 r3 l3
             obtain ⟨q0,q1,q2,q3,q4,q5⟩:=cells5 r4 l4
             clear r3 l3 r4 l4
             go_wp2
             refine bodyPost_ret (v := .tuple #[.agg #[.slice (some ⟨g3,0,none⟩) (d.n+2) c3,.slice (some ⟨g5,0,none⟩) (m+8) c5,.int .i64 (((d.lp:Int) - 1))],.agg #[.int .i64 4,.int .i64 (d.n:Int),.int .i64 ((d.n:Int)+1),.int .i64 0,.bool false],.int .i64 0]) ?_ rfl ?_
             ·obtain ⟨e0,e1,e2,e3,e4,e5,e6,e7⟩:=RK.cells J23.out.k (.slice (some ⟨g3,0,none⟩) (d.n+2) c3) (.slice (some ⟨g5,0,none⟩) (m+8) c5) (.int .i64 (((d.lp:Int) - 1))) (.int .i64 4) (.int .i64 (d.n:Int)) (.int .i64 ((d.n:Int)+1)) (.int .i64 0) (.bool false)
              unfold st8 at e0 e1 e2 e3 e4 e5 e6 e7
              simp [results,Try.results55,go_sem,e0,e1,e2,e3,e4,e5,e6,e7]
             ·have K11:=RK.fin J23.out.k (.slice (some ⟨g3,0,none⟩) (d.n+2) c3) (.slice (some ⟨g5,0,none⟩) (m+8) c5) (.int .i64 (((d.lp:Int) - 1))) (.int .i64 4) (.int .i64 (d.n:Int)) (.int .i64 ((d.n:Int)+1)) (.int .i64 0) (.bool false)
              have O1:=J23.out.k.own8 J23.out.k.s (.slice (some ⟨g3,0,none⟩) (d.n+2) c3) (.slice (some ⟨g5,0,none⟩) (m+8) c5) (.int .i64 (((d.lp:Int) - 1))) (.int .i64 4) (.int .i64 (d.n:Int)) (.int .i64 ((d.n:Int)+1)) (.int .i64 0) (.bool false)
              have O2:=J23.out.k.own8 J23.out.k.o (.slice (some ⟨g3,0,none⟩) (d.n+2) c3) (.slice (some ⟨g5,0,none⟩) (m+8) c5) (.int .i64 (((d.lp:Int) - 1))) (.int .i64 4) (.int .i64 (d.n:Int)) (.int .i64 ((d.n:Int)+1)) (.int .i64 0) (.bool false)
              unfold st8 at K11 O1 O2
              rw [←SGN.out.1,←SGN.out.2] at O1
              exact rpk_done HD.out E0.out HM.out EM.out EL.out hl0 K11.bel O1 O2
            ·skip
             have tx:decide (0≤x)=false:=by simp;omega
             have ty:decide (0≤y)=false:=by simp;omega
             have hnd:(if x<0 then 1 else 0)+(if y<0 then 1 else 0)≤d.lp:=by
              have:=NEED.out
              unfold needP at this
              simp only [and_true] at this
              omega
             have cp3:=J2.out.p 3 (by omega)
             have cq3:=J2.out.q' 3 (by omega)
             obtain ⟨d0,d1,d2,d3⟩:=box3 J2.out.k.d
             obtain ⟨m0,m1,m2,m3,m4,m5⟩:=box5 J2.out.k.m
             go_upto_region 37 with fail
             go_still_tail 7,(by kernel_rfl)
             change wpList _ _ _ _ _ (World.drew v2)
             have JD:=hide J2.out.drew
             obtain ⟨V,hV⟩:∃V,V=World.drew v2:=⟨_,rfl⟩
             rw [←hV] at JD ⊢
             clear hV cp3 cq3 d0 d1 d2 d3 m0 m1 m2 m3 m4 m5 J2
             go_wp2_with fail
             refine (rjoin_any base g5 (m+8) c5 (P 3) (Q 3) (d.n+2) c3 (some ⟨g3,0,none⟩) (.int .i64 (d.lp:Int)) _ V JD.out.k.o (HPB.out.1 3) (HPB.out.2 3) (by omega)).mono ?_
             rintro e v24 ⟨rfl,ownj,grj⟩
             have J24:=hide (JD.out.join grj ownj)
             have HC24:=hide (jn_lt' (a:=(P 3)) (b:=(Q 3)) HC2.out (HPB.out.1 3) (HPB.out.2 3))
             clear JD ownj grj
             obtain ⟨d0,d1,d2,d3⟩:=box3 J24.out.k.d
             go_upto_region 39 with fail
             have J25:=hide (J24.out.setL ((d.lp:Int) - 1))
             obtain ⟨v25,hv25⟩:∃W,W=v24.setCell ⟨w.heap.size,2,none⟩ (.int .i64 ((d.lp:Int) - 1)):=⟨_,rfl⟩
             rw [←hv25] at J25 ⊢
             clear hv25 J24 d0 d1 d2 d3
             have cq0:=J25.out.q' 0 (by omega)
             have cp2:=J25.out.p 2 (by omega)
             obtain ⟨d0,d1,d2,d3⟩:=box3 J25.out.k.d
             obtain ⟨m0,m1,m2,m3,m4,m5⟩:=box5 J25.out.k.m
             go_upto_region 43 with fail
             go_still_tail 7,(by kernel_rfl)
             change wpList _ _ _ _ _ (World.drew v25)
             have JD:=hide J25.out.drew
             obtain ⟨V,hV⟩:∃V,V=World.drew v25:=⟨_,rfl⟩
             rw [←hV] at JD ⊢
             clear hV cq0 cp2 d0 d1 d2 d3 m0 m1 m2 m3 m4 m5 J25
             go_wp2_with fail
             refine (rjoin_any base g5 (m+8) c5 (Q 0) (P 2) (d.n+2) c3 (some ⟨g3,0,none⟩) (.int .i64 ((d.lp:Int) - 1)) _ V JD.out.k.o (HPB.out.2 0) (HPB.out.1 2) (by omega)).mono ?_
             rintro e v26 ⟨rfl,ownj,grj⟩
             have J26:=hide (JD.out.join grj ownj)
             have HC26:=hide (jn_lt' (a:=(Q 0)) (b:=(P 2)) HC24.out (HPB.out.2 0) (HPB.out.1 2))
             clear JD ownj grj
             obtain ⟨d0,d1,d2,d3⟩:=box3 J26.out.k.d
             go_upto_region 59 with fail
             have J27:=hide (J26.out.setL (((d.lp:Int) - 1) - 1))
             obtain ⟨v27,hv27⟩:∃W,W=v26.setCell ⟨w.heap.size,2,none⟩ (.int .i64 (((d.lp:Int) - 1) - 1)):=⟨_,rfl⟩
             rw [←hv27] at J27 ⊢
             clear hv27 J26 d0 d1 d2 d3
             have EM:=hide (show pkM d x y 0 ov=(jn (jn L (P 3) (Q 3)) (Q 0) (P 2)) by
              rw [←rkM_eq HD.out HIN.out (fun _=>NE.out trivial)]
              unfold rkM rlead
              rw [if_neg (by omega),if_neg (by decide),if_neg (by decide)]
              rw [if_pos (by omega),if_pos (by omega)]
              rw [←HPP.out,←HQQ.out,←HL.out]
             )
             have EL:=hide (show pkL d x y 0=(((d.lp:Int) - 1) - 1) by
              unfold pkL
              rw [if_neg (fun c=>c.1 rfl),if_pos rfl,if_pos (by omega),if_pos (by omega)])
             have hl0:(0:Int)≤(((d.lp:Int) - 1) - 1):=by rw [if_pos (by omega),if_pos (by omega)] at hnd;omega
             obtain ⟨d0,d1,d2,d3⟩:=box3 J27.out.k.d
             obtain ⟨m0,m1,m2,m3,m4,m5⟩:=box5 J27.out.k.m
             obtain ⟨_,r3,l3⟩:=J27.out.k.rd
             obtain ⟨_,r4,l4⟩:=J27.out.k.rm
             obtain ⟨p0,p1,p2,p3⟩:=cells3 r3 l3
             obtain ⟨q0,q1,q2,q3,q4,q5⟩:=cells5 r4 l4
             clear r3 l3 r4 l4
             go_wp2
             refine bodyPost_ret (v := .tuple #[.agg #[.slice (some ⟨g3,0,none⟩) (d.n+2) c3,.slice (some ⟨g5,0,none⟩) (m+8) c5,.int .i64 ((((d.lp:Int) - 1) - 1))],.agg #[.int .i64 4,.int .i64 (d.n:Int),.int .i64 ((d.n:Int)+1),.int .i64 0,.bool false],.int .i64 0]) ?_ rfl ?_
             ·obtain ⟨e0,e1,e2,e3,e4,e5,e6,e7⟩:=RK.cells J27.out.k (.slice (some ⟨g3,0,none⟩) (d.n+2) c3) (.slice (some ⟨g5,0,none⟩) (m+8) c5) (.int .i64 ((((d.lp:Int) - 1) - 1))) (.int .i64 4) (.int .i64 (d.n:Int)) (.int .i64 ((d.n:Int)+1)) (.int .i64 0) (.bool false)
              unfold st8 at e0 e1 e2 e3 e4 e5 e6 e7
              simp [results,Try.results55,go_sem,e0,e1,e2,e3,e4,e5,e6,e7]
             ·have K11:=RK.fin J27.out.k (.slice (some ⟨g3,0,none⟩) (d.n+2) c3) (.slice (some ⟨g5,0,none⟩) (m+8) c5) (.int .i64 ((((d.lp:Int) - 1) - 1))) (.int .i64 4) (.int .i64 (d.n:Int)) (.int .i64 ((d.n:Int)+1)) (.int .i64 0) (.bool false)
              have O1:=J27.out.k.own8 J27.out.k.s (.slice (some ⟨g3,0,none⟩) (d.n+2) c3) (.slice (some ⟨g5,0,none⟩) (m+8) c5) (.int .i64 ((((d.lp:Int) - 1) - 1))) (.int .i64 4) (.int .i64 (d.n:Int)) (.int .i64 ((d.n:Int)+1)) (.int .i64 0) (.bool false)
              have O2:=J27.out.k.own8 J27.out.k.o (.slice (some ⟨g3,0,none⟩) (d.n+2) c3) (.slice (some ⟨g5,0,none⟩) (m+8) c5) (.int .i64 ((((d.lp:Int) - 1) - 1))) (.int .i64 4) (.int .i64 (d.n:Int)) (.int .i64 ((d.n:Int)+1)) (.int .i64 0) (.bool false)
              unfold st8 at K11 O1 O2
              rw [←SGN.out.1,←SGN.out.2] at O1
              exact rpk_done HD.out E0.out HM.out EM.out EL.out hl0 K11.bel O1 O2
end Go.Proofs.Ytobbepmlmbbamaa
end
