/-
 The texts Rap, La, Lb, Ld, Lm, Ma, Mb, Mc.
-/
import Derived.Test.YtghdiolnonejaaaS14
import Derived.Test.YtghdiolnonejaaaS16
set_option linter.unusedVariables false
set_option linter.unusedSimpArgs false
section
namespace Go.Proofs.Ytghdiolnonejaaa
open Go Go.RowKit
attribute [local go_sem ↓] Go.wp_at_zero Go.wp_at_succ
theorem AB.allR {w W:World} {gr gi:Nat} {a b c k x y s o:Value} (h:AB w gr gi [a,b,c] [k,x,y,s,o] W) :
 W.cell? ⟨w.heap.size,0,none⟩ = some a ∧ W.cell? ⟨w.heap.size,1,none⟩ = some b ∧ W.cell? ⟨w.heap.size,2,none⟩ = some c ∧ W.cell? ⟨w.heap.size + 1,0,none⟩ = some k ∧ W.cell? ⟨w.heap.size + 1,1,none⟩ = some x ∧ W.cell? ⟨w.heap.size + 1,2,none⟩ = some y ∧ W.cell? ⟨w.heap.size + 1,3,none⟩ = some s ∧ W.cell? ⟨w.heap.size + 1,4,none⟩ = some o ∧
 W.cell? ⟨gr,0,none⟩ = some (cv W ⟨gr,0,none⟩) ∧ W.cell? ⟨gr,1,none⟩ = some (cv W ⟨gr,1,none⟩) ∧ W.cell? ⟨gr,2,none⟩ = some (cv W ⟨gr,2,none⟩) ∧ W.cell? ⟨gi,0,none⟩ = some (cv W ⟨gi,0,none⟩) ∧ W.cell? ⟨gi,1,none⟩ = some (cv W ⟨gi,1,none⟩) ∧ W.cell? ⟨gi,2,none⟩ = some (cv W ⟨gi,2,none⟩) ∧ W.cell? ⟨gi,3,none⟩ = some (cv W ⟨gi,3,none⟩) ∧ W.cell? ⟨gi,4,none⟩ = some (cv W ⟨gi,4,none⟩) ∧
 (∀ o,W.frozen? ⟨gr,o,none⟩ = false) ∧ (∀ o,W.frozen? ⟨gi,o,none⟩ = false) ∧ AB w gr gi [a,b,c] [k,x,y,s,o] W := by
 obtain ⟨d0,d1,d2,_⟩:=box3 h.d
 obtain ⟨m0,m1,m2,m3,m4,_⟩:=box5 h.m
 obtain ⟨vs,r1,l1⟩:=h.r
 obtain ⟨us,r2,l2⟩:=h.i
 obtain ⟨e0,e1,e2,e3⟩:=cells3 r1 l1
 obtain ⟨f0,f1,f2,f3,f4,f5⟩:=cells5 r2 l2
 exact ⟨d0,d1,d2,m0,m1,m2,m3,m4,e0,e1,e2,f0,f1,f2,f3,f4,e3,f5,h⟩
theorem row3s {W:World} {g:Nat} {t:TypeId} {vs:List Value} (h:Row W g t vs) (l:vs.length = 3) (a b c:Value):Row (((W.setCell ⟨g,0,none⟩ a).setCell ⟨g,1,none⟩ b).setCell ⟨g,2,none⟩ c) g t [a,b,c] := by
 match vs,l with
 | [p,q,r],_ => exact ((h.set 0 a).set 1 b).set 2 c
theorem row5s {W:World} {g:Nat} {t:TypeId} {vs:List Value} (h:Row W g t vs) (l:vs.length = 5) (a b c d e:Value):Row (((((W.setCell ⟨g,0,none⟩ a).setCell ⟨g,1,none⟩ b).setCell ⟨g,2,none⟩ c).setCell ⟨g,3,none⟩ d).setCell ⟨g,4,none⟩ e) g t [a,b,c,d,e] := by
 match vs,l with
 | [p,q,r,s,u],_ => exact ((((h.set 0 a).set 1 b).set 2 c).set 3 d).set 4 e
def stRI (gr gi:Nat) (W:World) (a b c k x y s o:Value):World := ((((((((W.setCell ⟨gr,0,none⟩ a).setCell ⟨gr,1,none⟩ b).setCell ⟨gr,2,none⟩ c).setCell ⟨gi,0,none⟩ k).setCell ⟨gi,1,none⟩ x).setCell ⟨gi,2,none⟩ y).setCell ⟨gi,3,none⟩ s).setCell ⟨gi,4,none⟩ o)
theorem AB.laid {w W:World} {gr gi:Nat} {dv mv:List Value} (h:AB w gr gi dv mv W) (a b c k x y s o:Value) :
 Row (stRI gr gi W a b c k x y s o) gr 24 [a,b,c] ∧ Row (stRI gr gi W a b c k x y s o) gi 37 [k,x,y,s,o] ∧ AB w gr gi dv mv (stRI gr gi W a b c k x y s o) := by
 obtain ⟨vs,r1,l1⟩:=h.r
 have ne:gr ≠ gi:=h.ne
 have R3:=row3s r1 l1 a b c
 have A3:=((h.setR 0 a).setR 1 b).setR 2 c
 obtain ⟨us,r2,l2⟩:=A3.i
 unfold stRI
 exact ⟨((((R3.other (a := ⟨gi,0,none⟩) ne k).other (a := ⟨gi,1,none⟩) ne x).other (a := ⟨gi,2,none⟩) ne y).other (a := ⟨gi,3,none⟩) ne s).other (a := ⟨gi,4,none⟩) ne o,row5s r2 l2 k x y s o,((((A3.setI 0 k).setI 1 x).setI 2 y).setI 3 s).setI 4 o⟩
theorem AB.laidT {w W:World} {gr gi:Nat} {dv mv:List Value} {A B:Option Addr} {r:Pl.Dg} (h:AB w gr gi dv mv W) (hT:DgT W A B r) (a b c k x y s o:Value):DgT (stRI gr gi W a b c k x y s o) A B r := by
 have A3:=(((((((AD.setR ⟨h,hT⟩ 0 a).setR 1 b).setR 2 c).setI 0 k).setI 1 x).setI 2 y).setI 3 s).setI 4 o
 exact A3.t
theorem rcopy_own (d:Pl.Dg) (hd:Pl.Wf d) (A B:Option Addr) (cp cq m:Nat) (w:World) (hm:m = 4 * d.n) (hg:DgAt w A B d) :
 Calls Try.prog 70 #[.agg #[.slice A d.n cp,.slice B m cq,.int .i64 (d.lp:Int)]] w fun e w' => ∃ (A2 B2:Option Addr) (c2 d2:Nat),e = .returned (.agg #[.slice A2 d.n c2,.slice B2 m d2,.int .i64 (d.lp:Int)]) ∧ Own2 w.heap.size w' (.slice A2 d.n c2) (.slice B2 m d2) d.n m d.sg d.mt ∧ Below w.heap.size w w' := by
 have hn:=hd.few
 refine (rcopy_any A B d.n cp m cq (d.lp:Int) d.sg (nats d.mt) w hg.s (by rw [hm]; exact hg.m) (by omega) (by omega)).mono ?_
 rintro e w' ⟨A2,B2,c2,d2,rfl,oS,oM,hb,hne⟩
 refine ⟨A2,B2,c2,d2,rfl,⟨oS,?_,hne,hb.size⟩,hb⟩
 unfold nats at oM
 rw [List.map_map] at oM
 exact oM
theorem rvalid_yes (d:Pl.Dg) (hd:Pl.Valid d) (A B:Option Addr) (cp cq m:Nat) (w:World) (hm:m = 4 * d.n) (hg:DgAt w A B d) :
 Calls Try.prog 68 #[.agg #[.slice A d.n cp,.slice B m cq,.int .i64 d.lp]] w fun e w' => e = .returned (.bool true) ∧ Below w.heap.size w w' := by
 have hn:=hd.wf.few
 have hl:=hd.wf.lp
 refine (rvalid_any d.sg (nats d.mt) d.lp A B d.n m cp cq w hg.s (by rw [hm]; exact hg.m) (by unfold maxLen; omega) (by unfold maxLen; omega) (by omega)).mono ?_
 rintro e w' ⟨h1,h2⟩
 rw [Pl.vb_true (vl_of.2 hd)] at h1
 exact ⟨h1,h2⟩
set_option maxRecDepth 100000 in
set_option maxHeartbeats 8000000 in
theorem rapply_2 (d:Pl.Dg) (hd:Pl.Valid d) (A B:Option Addr) (cp cq m:Nat) (x y s:Int) (o:Bool) (w:World) (hm:m = 4 * d.n) (hg:DgAt w A B d) :
 Calls Try.prog 43 #[.agg #[.slice A d.n cp,.slice B m cq,.int .i64 d.lp],(Mv.mk 2 x y s o).v] w (ResC (apC d ⟨2,x,y,s,o⟩) (apD d ⟨2,x,y,s,o⟩) (apI d ⟨2,x,y,s,o⟩) w) := by
 have hn:=hd.wf.few
 have hlp:=hd.wf.lp
 have HM:=hide hm
 have HG:=hide hg
 have hm2:m ≤ 256:=by omega
 clear hm hg
 have PB0:=hide (boxes4 w (.slice A d.n cp) (.slice B m cq) (.int .i64 (d.lp:Int)) (.int .i64 2) (.int .i64 x) (.int .i64 y) (.int .i64 s) (.bool o))
 unfold W4 at PB0
 obtain ⟨x0,x1,x2,x3,b0,s0⟩:=PB0.out
 have X0:=hide x0
 have X1:=hide x1
 have X2:=hide x2
 have X3:=hide x3
 have B0:=hide b0
 have S0:=hide s0
 clear x0 x1 x2 x3 b0 s0 PB0
 unfold Mv.v
 go_enter Try.func43,Try.ntmps43
 go_wp2_with fail
 refine (rvalid_yes d hd A B cp cq m _ HM.out (HG.out.keep B0.out)).mono ?_
 rintro e w1 ⟨rfl,hb1⟩
 have Y0:=hide (X0.out.below hb1)
 have Y1:=hide (X1.out.below hb1)
 have Y2:=hide (X2.out.below hb1)
 have Y3:=hide (X3.out.below hb1)
 have B1:=hide (B0.out.trans (hb1.mono B0.out.size))
 have hsz1:w.heap.size + 4 ≤ w1.heap.size:=by have := hb1.size; have := S0.out; omega
 clear X0 X1 X2 X3 B0 S0 hb1
 have AB2:=hide (show AB w w1.heap.size (w1.heap.size + 1) [.slice A d.n cp,.slice B m cq,.int .i64 (d.lp:Int)] [.int .i64 2,.int .i64 x,.int .i64 y,.int .i64 s,.bool o] ((w1.alloc (.cells #[.slice none 0 0,.slice none 0 0,.int .i64 0] 24)).alloc (.cells #[.int .i64 0,.int .i64 0,.int .i64 0,.int .i64 0,.bool false] 37)) from
  ⟨(Y0.out.alloc _).alloc _,(Y1.out.alloc _).alloc _,⟨_,(Y2.out.alloc _).alloc _,rfl⟩,⟨_,(Y3.out.alloc _).alloc _,rfl⟩,⟨_,(row_at (vs := [_,_,_]) rfl).alloc _,rfl⟩,⟨_,row_at (vs := [_,_,_,_,_]) (by simp),rfl⟩,(B1.out.alloc B1.out.size _).alloc (B1.out.alloc B1.out.size _).size _,by omega,by omega,by omega⟩)
 obtain ⟨d0,d1,d2,d3⟩:=box3 Y0.out
 obtain ⟨m0,m1,m2,m3,m4,m5⟩:=box5 Y1.out
 have z0:w.heap.size < w1.heap.size:=by omega
 have z1:w.heap.size + 1 < w1.heap.size:=by omega
 clear Y0 Y1 Y2 Y3 B1 hsz1
 obtain ⟨cc,hcc⟩:∃ c,c = apC d ⟨2,x,y,s,o⟩:=⟨_,rfl⟩
 obtain ⟨rr,hrr⟩:∃ r,r = apD d ⟨2,x,y,s,o⟩:=⟨_,rfl⟩
 obtain ⟨mm,hmm⟩:∃ r,r = apI d ⟨2,x,y,s,o⟩:=⟨_,rfl⟩
 have CF:=hide (fun (base:Nat) (A2 B2:Option Addr) (c2 d2:Nat) (W:World) (h:Own2 base W (.slice A2 d.n c2) (.slice B2 m d2) d.n m d.sg d.mt) => runcurl_any d hd.wf base c2 d2 m A2 B2 x y s o W HM.out h)
 rw [← hcc,← hrr,← hmm] at CF
 have HCC:=hide hcc
 have HRR:=hide hrr
 have HMM:=hide hmm
 clear hcc hrr hmm
 have CC:=hide (fun W hW => rcopy_own d hd.wf A B cp cq m W HM.out hW)
 obtain ⟨gr,hgr⟩:∃ g,g = w1.heap.size := ⟨_,rfl⟩
 obtain ⟨gi,hgi⟩:∃ g,g = w1.heap.size + 1 := ⟨_,rfl⟩
 go_upto_block 0 with fail
 obtain ⟨w2,hw2⟩:∃ W:World,W = (w1.alloc (.cells #[.slice none 0 0,.slice none 0 0,.int .i64 0] 24)).alloc (.cells #[.int .i64 0,.int .i64 0,.int .i64 0,.int .i64 0,.bool false] 37) := ⟨_,rfl⟩
 rw [← hgi,← hgr,← hw2] at AB2
 rw [← hgi,← hgr,← hw2]
 have HG2:=hide (HG.out.keep AB2.out.bel)
 clear hw2 hgr hgi d0 d1 d2 d3 m0 m1 m2 m3 m4 m5 z0 z1
 have y1:gr ≠ w.heap.size + 1 + 1:=by have := AB2.out.lr; omega
 have y2:gr ≠ w.heap.size + 1 + 1 + 1:=by have := AB2.out.lr; omega
 have y3:gi ≠ w.heap.size + 1 + 1:=by have := AB2.out.li; omega
 have y4:gi ≠ w.heap.size + 1 + 1 + 1:=by have := AB2.out.li; omega
 have y5:gr ≠ gi:=AB2.out.ne
 have y6:w.heap.size + 1 + 1 ≠ w.heap.size + 1 + 1 + 1:=by omega
 have y7:gr ≠ w.heap.size:=by have := AB2.out.lr; omega
 have y8:gr ≠ w.heap.size + 1:=by have := AB2.out.lr; omega
 have y9:gi ≠ w.heap.size:=by have := AB2.out.li; omega
 have y10:gi ≠ w.heap.size + 1:=by have := AB2.out.li; omega
 obtain ⟨s0,s1,s2,s3,s4,s5,s6,s7,e0,e1,e2,f0,f1,f2,f3,f4,fr1,fr2,_⟩:=AB2.out.allR
 by_cases hc:cc = 0
 ·obtain ⟨k9,x9,y9',s9,o9⟩:=mm
  have CF0:=hide (fun (base:Nat) (A2 B2:Option Addr) (c2 d2:Nat) (W:World) (h:Own2 base W (.slice A2 d.n c2) (.slice B2 m d2) d.n m d.sg d.mt) => (CF.out base A2 B2 c2 d2 W h).mono (R' := fun e w' => ∃ (A9 B9:Option Addr) (c8 c9:Nat),e = .returned (.tuple #[.agg #[.slice A9 rr.n c8,.slice B9 (4 * rr.n) c9,.int .i64 (rr.lp:Int)],.agg #[.int .i64 k9,.int .i64 x9,.int .i64 y9',.int .i64 s9,.bool o9],.int .i64 0]) ∧ DgT w' A9 B9 rr ∧ Below base W w') (fun e w' hres => by
   obtain ⟨A9,B9,c8,c9,he,hT⟩:=hres.2.1 hc
   exact ⟨A9,B9,c8,c9,he,hT,hres.2.2⟩))
  have HC:=hide hc
  clear hc CF
  obtain ⟨N9,hN9⟩:∃ n,n = rr.n := ⟨_,rfl⟩
  obtain ⟨L9,hL9⟩:∃ n,n = rr.lp := ⟨_,rfl⟩
  rw [← hN9,← hL9] at CF0
  have HN9:=hide hN9
  have HL9:=hide hL9
  clear hN9 hL9
  go_cut [7] from 19 to 68 (fun s7' wx => s7' = .int .i64 0 ∧ ∃ (A9 B9:Option Addr) (c8 c9:Nat),Row wx gr 24 [.slice A9 N9 c8,.slice B9 (4 * N9) c9,.int .i64 (L9:Int)] ∧ Row wx gi 37 [.int .i64 k9,.int .i64 x9,.int .i64 y9',.int .i64 s9,.bool o9] ∧ DgT wx A9 B9 rr ∧ AB w gr gi [.slice A d.n cp,.slice B m cq,.int .i64 (d.lp:Int)] [.int .i64 2,.int .i64 x,.int .i64 y,.int .i64 s,.bool o] wx)
  case first =>
   go_upto_region 9 with fail
   go_region_held3 (fun w' => w'.cell? ⟨w.heap.size,0,none⟩ = some (.slice A d.n cp) ∧ w'.cell? ⟨w.heap.size,1,none⟩ = some (.slice B m cq) ∧ w'.cell? ⟨w.heap.size,2,none⟩ = some (.int .i64 (d.lp:Int)) ∧ w'.cell? ⟨w.heap.size + 1,0,none⟩ = some (.int .i64 2) ∧ w'.cell? ⟨w.heap.size + 1,1,none⟩ = some (.int .i64 x) ∧ w'.cell? ⟨w.heap.size + 1,2,none⟩ = some (.int .i64 y) ∧ w'.cell? ⟨w.heap.size + 1,3,none⟩ = some (.int .i64 s) ∧ w'.cell? ⟨w.heap.size + 1,4,none⟩ = some (.bool o) ∧ w'.cell? ⟨gr,0,none⟩ = some (cv w' ⟨gr,0,none⟩) ∧ w'.cell? ⟨gr,1,none⟩ = some (cv w' ⟨gr,1,none⟩) ∧ w'.cell? ⟨gr,2,none⟩ = some (cv w' ⟨gr,2,none⟩) ∧ w'.cell? ⟨gi,0,none⟩ = some (cv w' ⟨gi,0,none⟩) ∧ w'.cell? ⟨gi,1,none⟩ = some (cv w' ⟨gi,1,none⟩) ∧ w'.cell? ⟨gi,2,none⟩ = some (cv w' ⟨gi,2,none⟩) ∧ w'.cell? ⟨gi,3,none⟩ = some (cv w' ⟨gi,3,none⟩) ∧ w'.cell? ⟨gi,4,none⟩ = some (cv w' ⟨gi,4,none⟩) ∧ (∀ o,w'.frozen? ⟨gr,o,none⟩ = false) ∧ (∀ o,w'.frozen? ⟨gi,o,none⟩ = false) ∧ AB w gr gi [.slice A d.n cp,.slice B m cq,.int .i64 (d.lp:Int)] [.int .i64 2,.int .i64 x,.int .i64 y,.int .i64 s,.bool o] w')
    ((go_split_ands; refine AB.allR ?_; (repeat (first | (with_reducible assumption) | (with_reducible exact AB2.out) | (with_reducible refine AB.setR ?_ _ _) | (with_reducible refine AB.setI ?_ _ _) | (with_reducible refine AB.drew ?_) | (with_reducible refine AB.below ?_ hbc) | (with_reducible refine AB.below ?_ hba)))))
    (first
      | (have hx6 := hba
         clear hx6
         go_at_call 71
         refine Calls.mono (CF0.out _ _ _ _ _ _ hown) ?_
         rintro e wb ⟨A9,B9,c8,c9,rfl,hT,hbb⟩
         have hbc:=hba.trans hbb)
      | (go_at_call 70
         refine Calls.mono (CC.out _ ?_) ?_
         ·exact HG.out.keep AB2.out.drew.bel
         rintro e wa ⟨A2,B2,c2,d2,rfl,hown,hba⟩))
   all_goals (go_wp2_with fail; go_meet)
   all_goals (
    have AB3:=AB2.out.drew.below hbc
    have LL:=AB3.laid (.slice A9 N9 c8) (.slice B9 (4 * N9) c9) (.int .i64 (L9:Int)) (.int .i64 k9) (.int .i64 x9) (.int .i64 y9') (.int .i64 s9) (.bool o9)
    exact ⟨rfl,A9,B9,c8,c9,LL.1,LL.2.1,(AB3.laidT hT _ _ _ _ _ _ _ _),LL.2.2⟩)
  case rest =>
   obtain ⟨rfl,A9,B9,c8,c9,hr,hi,hT,hAB⟩:=hcut
   have AB3:=hide hAB
   have AD3:=hide (show AD w gr gi _ _ A9 B9 rr wc from ⟨hAB,hT⟩)
   obtain ⟨_,r5,l5⟩:=AB3.out.rd
   obtain ⟨_,r6,l6⟩:=AB3.out.rm
   clear s0 s1 s2 s3 s4 s5 s6 s7 e0 e1 e2 f0 f1 f2 f3 f4 fr1 fr2 hT hAB
   obtain ⟨e0,e1,e2,e3⟩:=box3 hr
   obtain ⟨f0,f1,f2,f3,f4,f5⟩:=box5 hi
   obtain ⟨g0,g1,g2,g3⟩:=cells3 r5 l5
   obtain ⟨h0,h1,h2,h3,h4,h5⟩:=cells5 r6 l6
   clear r5 l5 r6 l6 hr hi AB2 HG2
   go_wp2_with fail
   go_region
   all_goals (go_wp2_with fail)
   all_goals clear e0 e1 e2 e3 f0 f1 f2 f3 f4 f5 g0 g1 g2 g3 h0 h1 h2 h3 h4 h5
   all_goals (
    obtain ⟨_,r5,l5⟩:=AD3.out.b.rd
    obtain ⟨_,r6,l6⟩:=AD3.out.b.rm
    refine bodyPost_ret (v := .tuple #[.agg #[.slice A9 N9 c8,.slice B9 (4 * N9) c9,.int .i64 (L9:Int)],.agg #[.int .i64 k9,.int .i64 x9,.int .i64 y9',.int .i64 s9,.bool o9],.int .i64 0]) ?_ rfl ?_
    ·obtain ⟨e0,e1,e2,e3,e4,e5,e6,e7⟩:=fin8 r5 r6 l5 l6 (by omega) (.slice A9 N9 c8) (.slice B9 (4 * N9) c9) (.int .i64 (L9:Int)) (.int .i64 k9) (.int .i64 x9) (.int .i64 y9') (.int .i64 s9) (.bool o9)
     simp [results,Try.results43,go_sem,e0,e1,e2,e3,e4,e5,e6,e7]
    ·have AD5:=(((((((AD3.out.setD 0 (.slice A9 N9 c8)).setD 1 (.slice B9 (4 * N9) c9)).setD 2 (.int .i64 (L9:Int))).setM 0 (.int .i64 k9)).setM 1 (.int .i64 x9)).setM 2 (.int .i64 y9')).setM 3 (.int .i64 s9)).setM 4 (.bool o9)
     rw [← HCC.out,← HRR.out,← HMM.out]
     refine ⟨fun h => absurd HC.out h,fun _ => ⟨A9,B9,c8,c9,by rw [← HN9.out,← HL9.out]; rfl,AD5.drew.t⟩,AD5.drew.b.bel⟩)
 ·have CF0:=hide (fun (base:Nat) (A2 B2:Option Addr) (c2 d2:Nat) (W:World) (h:Own2 base W (.slice A2 d.n c2) (.slice B2 m d2) d.n m d.sg d.mt) => (CF.out base A2 B2 c2 d2 W h).mono (R' := fun e w' => RErr cc e ∧ Below base W w') (fun e w' hres => ⟨hres.1 hc,hres.2.2⟩))
  have HC:=hide hc
  have t1:(cc != 0) = true:=by rw [bne_iff_ne]; exact hc
  clear hc CF
  go_cut [7] from 19 to 68 (fun s7' wx => s7' = .int .i64 cc ∧ AB w gr gi [.slice A d.n cp,.slice B m cq,.int .i64 (d.lp:Int)] [.int .i64 2,.int .i64 x,.int .i64 y,.int .i64 s,.bool o] wx)
  case first =>
   go_upto_region 9 with fail
   go_region_held3 (fun w' => w'.cell? ⟨w.heap.size,0,none⟩ = some (.slice A d.n cp) ∧ w'.cell? ⟨w.heap.size,1,none⟩ = some (.slice B m cq) ∧ w'.cell? ⟨w.heap.size,2,none⟩ = some (.int .i64 (d.lp:Int)) ∧ w'.cell? ⟨w.heap.size + 1,0,none⟩ = some (.int .i64 2) ∧ w'.cell? ⟨w.heap.size + 1,1,none⟩ = some (.int .i64 x) ∧ w'.cell? ⟨w.heap.size + 1,2,none⟩ = some (.int .i64 y) ∧ w'.cell? ⟨w.heap.size + 1,3,none⟩ = some (.int .i64 s) ∧ w'.cell? ⟨w.heap.size + 1,4,none⟩ = some (.bool o) ∧ w'.cell? ⟨gr,0,none⟩ = some (cv w' ⟨gr,0,none⟩) ∧ w'.cell? ⟨gr,1,none⟩ = some (cv w' ⟨gr,1,none⟩) ∧ w'.cell? ⟨gr,2,none⟩ = some (cv w' ⟨gr,2,none⟩) ∧ w'.cell? ⟨gi,0,none⟩ = some (cv w' ⟨gi,0,none⟩) ∧ w'.cell? ⟨gi,1,none⟩ = some (cv w' ⟨gi,1,none⟩) ∧ w'.cell? ⟨gi,2,none⟩ = some (cv w' ⟨gi,2,none⟩) ∧ w'.cell? ⟨gi,3,none⟩ = some (cv w' ⟨gi,3,none⟩) ∧ w'.cell? ⟨gi,4,none⟩ = some (cv w' ⟨gi,4,none⟩) ∧ (∀ o,w'.frozen? ⟨gr,o,none⟩ = false) ∧ (∀ o,w'.frozen? ⟨gi,o,none⟩ = false) ∧ AB w gr gi [.slice A d.n cp,.slice B m cq,.int .i64 (d.lp:Int)] [.int .i64 2,.int .i64 x,.int .i64 y,.int .i64 s,.bool o] w')
    ((go_split_ands; refine AB.allR ?_; (repeat (first | (with_reducible assumption) | (with_reducible exact AB2.out) | (with_reducible refine AB.setR ?_ _ _) | (with_reducible refine AB.setI ?_ _ _) | (with_reducible refine AB.drew ?_) | (with_reducible refine AB.below ?_ hbc) | (with_reducible refine AB.below ?_ hba)))))
    (first
      | (have hx6 := hba
         clear hx6
         go_at_call 71
         refine Calls.mono (CF0.out _ _ _ _ _ _ hown) ?_
         rintro e wb ⟨⟨A9,B9,n9,q9,c8,c9,lp9,k9,x9,y9',s9,o9,rfl⟩,hbb⟩
         have hbc:=hba.trans hbb)
      | (go_at_call 70
         refine Calls.mono (CC.out _ ?_) ?_
         ·exact HG.out.keep AB2.out.drew.bel
         rintro e wa ⟨A2,B2,c2,d2,rfl,hown,hba⟩))
   all_goals (go_wp2_with fail; go_meet)
   all_goals exact ⟨rfl,((AB2.out.drew.below hbc).laid _ _ _ _ _ _ _ _).2.2⟩
  case rest =>
   obtain ⟨rfl,hAB⟩:=hcut
   have AB3:=hide hAB
   obtain ⟨_,r5,l5⟩:=AB3.out.rd
   obtain ⟨_,r6,l6⟩:=AB3.out.rm
   clear s0 s1 s2 s3 s4 s5 s6 s7 e0 e1 e2 f0 f1 f2 f3 f4 fr1 fr2 hAB
   obtain ⟨g0,g1,g2,g3⟩:=cells3 r5 l5
   obtain ⟨h0,h1,h2,h3,h4,h5⟩:=cells5 r6 l6
   clear AB2 HG2
   go_wp2
   clear g0 g1 g2 g3 h0 h1 h2 h3 h4 h5
   refine bodyPost_ret (v := .tuple #[nilD,nilM,.int .i64 cc]) ?_ rfl ?_
   ·obtain ⟨e0,e1,e2,e3,e4,e5,e6,e7⟩:=fin8 r5 r6 l5 l6 (by omega) (.slice none 0 0) (.slice none 0 0) (.int .i64 0) (.int .i64 0) (.int .i64 0) (.int .i64 0) (.int .i64 0) (.bool false)
    unfold nilD nilM
    simp [results,Try.results43,go_sem,e0,e1,e2,e3,e4,e5,e6,e7]
   ·rw [← HCC.out,← HRR.out,← HMM.out]
    exact ⟨fun _ => (show ResErr _ _ from rfl),fun h => absurd h HC.out,below8 AB3.out.bel _ _ _ _ _ _ _ _⟩
set_option maxRecDepth 100000 in
set_option maxHeartbeats 8000000 in
theorem rapply_4 (d:Pl.Dg) (hd:Pl.Valid d) (A B:Option Addr) (cp cq m:Nat) (x y s:Int) (o:Bool) (w:World) (hm:m = 4 * d.n) (hg:DgAt w A B d) :
 Calls Try.prog 43 #[.agg #[.slice A d.n cp,.slice B m cq,.int .i64 d.lp],(Mv.mk 4 x y s o).v] w (ResC (apC d ⟨4,x,y,s,o⟩) (apD d ⟨4,x,y,s,o⟩) (apI d ⟨4,x,y,s,o⟩) w) := by
 have hn:=hd.wf.few
 have hlp:=hd.wf.lp
 have HM:=hide hm
 have HG:=hide hg
 have hm2:m ≤ 256:=by omega
 clear hm hg
 have PB0:=hide (boxes4 w (.slice A d.n cp) (.slice B m cq) (.int .i64 (d.lp:Int)) (.int .i64 4) (.int .i64 x) (.int .i64 y) (.int .i64 s) (.bool o))
 unfold W4 at PB0
 obtain ⟨x0,x1,x2,x3,b0,s0⟩:=PB0.out
 have X0:=hide x0
 have X1:=hide x1
 have X2:=hide x2
 have X3:=hide x3
 have B0:=hide b0
 have S0:=hide s0
 clear x0 x1 x2 x3 b0 s0 PB0
 unfold Mv.v
 go_enter Try.func43,Try.ntmps43
 go_wp2_with fail
 refine (rvalid_yes d hd A B cp cq m _ HM.out (HG.out.keep B0.out)).mono ?_
 rintro e w1 ⟨rfl,hb1⟩
 have Y0:=hide (X0.out.below hb1)
 have Y1:=hide (X1.out.below hb1)
 have Y2:=hide (X2.out.below hb1)
 have Y3:=hide (X3.out.below hb1)
 have B1:=hide (B0.out.trans (hb1.mono B0.out.size))
 have hsz1:w.heap.size + 4 ≤ w1.heap.size:=by have := hb1.size; have := S0.out; omega
 clear X0 X1 X2 X3 B0 S0 hb1
 have AB2:=hide (show AB w w1.heap.size (w1.heap.size + 1) [.slice A d.n cp,.slice B m cq,.int .i64 (d.lp:Int)] [.int .i64 4,.int .i64 x,.int .i64 y,.int .i64 s,.bool o] ((w1.alloc (.cells #[.slice none 0 0,.slice none 0 0,.int .i64 0] 24)).alloc (.cells #[.int .i64 0,.int .i64 0,.int .i64 0,.int .i64 0,.bool false] 37)) from
  ⟨(Y0.out.alloc _).alloc _,(Y1.out.alloc _).alloc _,⟨_,(Y2.out.alloc _).alloc _,rfl⟩,⟨_,(Y3.out.alloc _).alloc _,rfl⟩,⟨_,(row_at (vs := [_,_,_]) rfl).alloc _,rfl⟩,⟨_,row_at (vs := [_,_,_,_,_]) (by simp),rfl⟩,(B1.out.alloc B1.out.size _).alloc (B1.out.alloc B1.out.size _).size _,by omega,by omega,by omega⟩)
 obtain ⟨d0,d1,d2,d3⟩:=box3 Y0.out
 obtain ⟨m0,m1,m2,m3,m4,m5⟩:=box5 Y1.out
 have z0:w.heap.size < w1.heap.size:=by omega
 have z1:w.heap.size + 1 < w1.heap.size:=by omega
 clear Y0 Y1 Y2 Y3 B1 hsz1
 obtain ⟨cc,hcc⟩:∃ c,c = apC d ⟨4,x,y,s,o⟩:=⟨_,rfl⟩
 obtain ⟨rr,hrr⟩:∃ r,r = apD d ⟨4,x,y,s,o⟩:=⟨_,rfl⟩
 obtain ⟨mm,hmm⟩:∃ r,r = apI d ⟨4,x,y,s,o⟩:=⟨_,rfl⟩
 have CF:=hide (fun (base:Nat) (A2 B2:Option Addr) (c2 d2:Nat) (W:World) (h:Own2 base W (.slice A2 d.n c2) (.slice B2 m d2) d.n m d.sg d.mt) => runpoke_any d hd base c2 d2 m A2 B2 x y s o W HM.out h)
 rw [← hcc,← hrr,← hmm] at CF
 have HCC:=hide hcc
 have HRR:=hide hrr
 have HMM:=hide hmm
 clear hcc hrr hmm
 have CC:=hide (fun W hW => rcopy_own d hd.wf A B cp cq m W HM.out hW)
 obtain ⟨gr,hgr⟩:∃ g,g = w1.heap.size := ⟨_,rfl⟩
 obtain ⟨gi,hgi⟩:∃ g,g = w1.heap.size + 1 := ⟨_,rfl⟩
 go_upto_block 0 with fail
 obtain ⟨w2,hw2⟩:∃ W:World,W = (w1.alloc (.cells #[.slice none 0 0,.slice none 0 0,.int .i64 0] 24)).alloc (.cells #[.int .i64 0,.int .i64 0,.int .i64 0,.int .i64 0,.bool false] 37) := ⟨_,rfl⟩
 rw [← hgi,← hgr,← hw2] at AB2
 rw [← hgi,← hgr,← hw2]
 have HG2:=hide (HG.out.keep AB2.out.bel)
 clear hw2 hgr hgi d0 d1 d2 d3 m0 m1 m2 m3 m4 m5 z0 z1
 have y1:gr ≠ w.heap.size + 1 + 1:=by have := AB2.out.lr; omega
 have y2:gr ≠ w.heap.size + 1 + 1 + 1:=by have := AB2.out.lr; omega
 have y3:gi ≠ w.heap.size + 1 + 1:=by have := AB2.out.li; omega
 have y4:gi ≠ w.heap.size + 1 + 1 + 1:=by have := AB2.out.li; omega
 have y5:gr ≠ gi:=AB2.out.ne
 have y6:w.heap.size + 1 + 1 ≠ w.heap.size + 1 + 1 + 1:=by omega
 have y7:gr ≠ w.heap.size:=by have := AB2.out.lr; omega
 have y8:gr ≠ w.heap.size + 1:=by have := AB2.out.lr; omega
 have y9:gi ≠ w.heap.size:=by have := AB2.out.li; omega
 have y10:gi ≠ w.heap.size + 1:=by have := AB2.out.li; omega
 obtain ⟨s0,s1,s2,s3,s4,s5,s6,s7,e0,e1,e2,f0,f1,f2,f3,f4,fr1,fr2,_⟩:=AB2.out.allR
 by_cases hc:cc = 0
 ·obtain ⟨k9,x9,y9',s9,o9⟩:=mm
  have CF0:=hide (fun (base:Nat) (A2 B2:Option Addr) (c2 d2:Nat) (W:World) (h:Own2 base W (.slice A2 d.n c2) (.slice B2 m d2) d.n m d.sg d.mt) => (CF.out base A2 B2 c2 d2 W h).mono (R' := fun e w' => ∃ (A9 B9:Option Addr) (c8 c9:Nat),e = .returned (.tuple #[.agg #[.slice A9 rr.n c8,.slice B9 (4 * rr.n) c9,.int .i64 (rr.lp:Int)],.agg #[.int .i64 k9,.int .i64 x9,.int .i64 y9',.int .i64 s9,.bool o9],.int .i64 0]) ∧ DgT w' A9 B9 rr ∧ Below base W w') (fun e w' hres => by
   obtain ⟨A9,B9,c8,c9,he,hT⟩:=hres.2.1 hc
   exact ⟨A9,B9,c8,c9,he,hT,hres.2.2⟩))
  have HC:=hide hc
  clear hc CF
  obtain ⟨N9,hN9⟩:∃ n,n = rr.n := ⟨_,rfl⟩
  obtain ⟨L9,hL9⟩:∃ n,n = rr.lp := ⟨_,rfl⟩
  rw [← hN9,← hL9] at CF0
  have HN9:=hide hN9
  have HL9:=hide hL9
  clear hN9 hL9
  go_cut [7] from 19 to 68 (fun s7' wx => s7' = .int .i64 0 ∧ ∃ (A9 B9:Option Addr) (c8 c9:Nat),Row wx gr 24 [.slice A9 N9 c8,.slice B9 (4 * N9) c9,.int .i64 (L9:Int)] ∧ Row wx gi 37 [.int .i64 k9,.int .i64 x9,.int .i64 y9',.int .i64 s9,.bool o9] ∧ DgT wx A9 B9 rr ∧ AB w gr gi [.slice A d.n cp,.slice B m cq,.int .i64 (d.lp:Int)] [.int .i64 4,.int .i64 x,.int .i64 y,.int .i64 s,.bool o] wx)
  case first =>
   go_upto_region 13 with fail
   go_region_held3 (fun w' => w'.cell? ⟨w.heap.size,0,none⟩ = some (.slice A d.n cp) ∧ w'.cell? ⟨w.heap.size,1,none⟩ = some (.slice B m cq) ∧ w'.cell? ⟨w.heap.size,2,none⟩ = some (.int .i64 (d.lp:Int)) ∧ w'.cell? ⟨w.heap.size + 1,0,none⟩ = some (.int .i64 4) ∧ w'.cell? ⟨w.heap.size + 1,1,none⟩ = some (.int .i64 x) ∧ w'.cell? ⟨w.heap.size + 1,2,none⟩ = some (.int .i64 y) ∧ w'.cell? ⟨w.heap.size + 1,3,none⟩ = some (.int .i64 s) ∧ w'.cell? ⟨w.heap.size + 1,4,none⟩ = some (.bool o) ∧ w'.cell? ⟨gr,0,none⟩ = some (cv w' ⟨gr,0,none⟩) ∧ w'.cell? ⟨gr,1,none⟩ = some (cv w' ⟨gr,1,none⟩) ∧ w'.cell? ⟨gr,2,none⟩ = some (cv w' ⟨gr,2,none⟩) ∧ w'.cell? ⟨gi,0,none⟩ = some (cv w' ⟨gi,0,none⟩) ∧ w'.cell? ⟨gi,1,none⟩ = some (cv w' ⟨gi,1,none⟩) ∧ w'.cell? ⟨gi,2,none⟩ = some (cv w' ⟨gi,2,none⟩) ∧ w'.cell? ⟨gi,3,none⟩ = some (cv w' ⟨gi,3,none⟩) ∧ w'.cell? ⟨gi,4,none⟩ = some (cv w' ⟨gi,4,none⟩) ∧ (∀ o,w'.frozen? ⟨gr,o,none⟩ = false) ∧ (∀ o,w'.frozen? ⟨gi,o,none⟩ = false) ∧ AB w gr gi [.slice A d.n cp,.slice B m cq,.int .i64 (d.lp:Int)] [.int .i64 4,.int .i64 x,.int .i64 y,.int .i64 s,.bool o] w')
    ((go_split_ands; refine AB.allR ?_; (repeat (first | (with_reducible assumption) | (with_reducible exact AB2.out) | (with_reducible refine AB.setR ?_ _ _) | (with_reducible refine AB.setI ?_ _ _) | (with_reducible refine AB.drew ?_) | (with_reducible refine AB.below ?_ hbc) | (with_reducible refine AB.below ?_ hba)))))
    (first
      | (have hx6 := hba
         clear hx6
         go_at_call 73
         refine Calls.mono (CF0.out _ _ _ _ _ _ hown) ?_
         rintro e wb ⟨A9,B9,c8,c9,rfl,hT,hbb⟩
         have hbc:=hba.trans hbb)
      | (go_at_call 70
         refine Calls.mono (CC.out _ ?_) ?_
         ·exact HG.out.keep AB2.out.drew.bel
         rintro e wa ⟨A2,B2,c2,d2,rfl,hown,hba⟩))
   all_goals (go_wp2_with fail; go_meet)
   all_goals (
    have AB3:=AB2.out.drew.below hbc
    have LL:=AB3.laid (.slice A9 N9 c8) (.slice B9 (4 * N9) c9) (.int .i64 (L9:Int)) (.int .i64 k9) (.int .i64 x9) (.int .i64 y9') (.int .i64 s9) (.bool o9)
    exact ⟨rfl,A9,B9,c8,c9,LL.1,LL.2.1,(AB3.laidT hT _ _ _ _ _ _ _ _),LL.2.2⟩)
  case rest =>
   obtain ⟨rfl,A9,B9,c8,c9,hr,hi,hT,hAB⟩:=hcut
   have AB3:=hide hAB
   have AD3:=hide (show AD w gr gi _ _ A9 B9 rr wc from ⟨hAB,hT⟩)
   obtain ⟨_,r5,l5⟩:=AB3.out.rd
   obtain ⟨_,r6,l6⟩:=AB3.out.rm
   clear s0 s1 s2 s3 s4 s5 s6 s7 e0 e1 e2 f0 f1 f2 f3 f4 fr1 fr2 hT hAB
   obtain ⟨e0,e1,e2,e3⟩:=box3 hr
   obtain ⟨f0,f1,f2,f3,f4,f5⟩:=box5 hi
   obtain ⟨g0,g1,g2,g3⟩:=cells3 r5 l5
   obtain ⟨h0,h1,h2,h3,h4,h5⟩:=cells5 r6 l6
   clear r5 l5 r6 l6 hr hi AB2 HG2
   go_wp2_with fail
   go_region
   all_goals (go_wp2_with fail)
   all_goals clear e0 e1 e2 e3 f0 f1 f2 f3 f4 f5 g0 g1 g2 g3 h0 h1 h2 h3 h4 h5
   all_goals (
    obtain ⟨_,r5,l5⟩:=AD3.out.b.rd
    obtain ⟨_,r6,l6⟩:=AD3.out.b.rm
    refine bodyPost_ret (v := .tuple #[.agg #[.slice A9 N9 c8,.slice B9 (4 * N9) c9,.int .i64 (L9:Int)],.agg #[.int .i64 k9,.int .i64 x9,.int .i64 y9',.int .i64 s9,.bool o9],.int .i64 0]) ?_ rfl ?_
    ·obtain ⟨e0,e1,e2,e3,e4,e5,e6,e7⟩:=fin8 r5 r6 l5 l6 (by omega) (.slice A9 N9 c8) (.slice B9 (4 * N9) c9) (.int .i64 (L9:Int)) (.int .i64 k9) (.int .i64 x9) (.int .i64 y9') (.int .i64 s9) (.bool o9)
     simp [results,Try.results43,go_sem,e0,e1,e2,e3,e4,e5,e6,e7]
    ·have AD5:=(((((((AD3.out.setD 0 (.slice A9 N9 c8)).setD 1 (.slice B9 (4 * N9) c9)).setD 2 (.int .i64 (L9:Int))).setM 0 (.int .i64 k9)).setM 1 (.int .i64 x9)).setM 2 (.int .i64 y9')).setM 3 (.int .i64 s9)).setM 4 (.bool o9)
     rw [← HCC.out,← HRR.out,← HMM.out]
     refine ⟨fun h => absurd HC.out h,fun _ => ⟨A9,B9,c8,c9,by rw [← HN9.out,← HL9.out]; rfl,AD5.drew.t⟩,AD5.drew.b.bel⟩)
 ·have CF0:=hide (fun (base:Nat) (A2 B2:Option Addr) (c2 d2:Nat) (W:World) (h:Own2 base W (.slice A2 d.n c2) (.slice B2 m d2) d.n m d.sg d.mt) => (CF.out base A2 B2 c2 d2 W h).mono (R' := fun e w' => RErr cc e ∧ Below base W w') (fun e w' hres => ⟨hres.1 hc,hres.2.2⟩))
  have HC:=hide hc
  have t1:(cc != 0) = true:=by rw [bne_iff_ne]; exact hc
  clear hc CF
  go_cut [7] from 19 to 68 (fun s7' wx => s7' = .int .i64 cc ∧ AB w gr gi [.slice A d.n cp,.slice B m cq,.int .i64 (d.lp:Int)] [.int .i64 4,.int .i64 x,.int .i64 y,.int .i64 s,.bool o] wx)
  case first =>
   go_upto_region 13 with fail
   go_region_held3 (fun w' => w'.cell? ⟨w.heap.size,0,none⟩ = some (.slice A d.n cp) ∧ w'.cell? ⟨w.heap.size,1,none⟩ = some (.slice B m cq) ∧ w'.cell? ⟨w.heap.size,2,none⟩ = some (.int .i64 (d.lp:Int)) ∧ w'.cell? ⟨w.heap.size + 1,0,none⟩ = some (.int .i64 4) ∧ w'.cell? ⟨w.heap.size + 1,1,none⟩ = some (.int .i64 x) ∧ w'.cell? ⟨w.heap.size + 1,2,none⟩ = some (.int .i64 y) ∧ w'.cell? ⟨w.heap.size + 1,3,none⟩ = some (.int .i64 s) ∧ w'.cell? ⟨w.heap.size + 1,4,none⟩ = some (.bool o) ∧ w'.cell? ⟨gr,0,none⟩ = some (cv w' ⟨gr,0,none⟩) ∧ w'.cell? ⟨gr,1,none⟩ = some (cv w' ⟨gr,1,none⟩) ∧ w'.cell? ⟨gr,2,none⟩ = some (cv w' ⟨gr,2,none⟩) ∧ w'.cell? ⟨gi,0,none⟩ = some (cv w' ⟨gi,0,none⟩) ∧ w'.cell? ⟨gi,1,none⟩ = some (cv w' ⟨gi,1,none⟩) ∧ w'.cell? ⟨gi,2,none⟩ = some (cv w' ⟨gi,2,none⟩) ∧ w'.cell? ⟨gi,3,none⟩ = some (cv w' ⟨gi,3,none⟩) ∧ w'.cell? ⟨gi,4,none⟩ = some (cv w' ⟨gi,4,none⟩) ∧ (∀ o,w'.frozen? ⟨gr,o,none⟩ = false) ∧ (∀ o,w'.frozen? ⟨gi,o,none⟩ = false) ∧ AB w gr gi [.slice A d.n cp,.slice B m cq,.int .i64 (d.lp:Int)] [.int .i64 4,.int .i64 x,.int .i64 y,.int .i64 s,.bool o] w')
    ((go_split_ands; refine AB.allR ?_; (repeat (first | (with_reducible assumption) | (with_reducible exact AB2.out) | (with_reducible refine AB.setR ?_ _ _) | (with_reducible refine AB.setI ?_ _ _) | (with_reducible refine AB.drew ?_) | (with_reducible refine AB.below ?_ hbc) | (with_reducible refine AB.below ?_ hba)))))
    (first
      | (have hx6 := hba
         clear hx6
         go_at_call 73
         refine Calls.mono (CF0.out _ _ _ _ _ _ hown) ?_
         rintro e wb ⟨⟨A9,B9,n9,q9,c8,c9,lp9,k9,x9,y9',s9,o9,rfl⟩,hbb⟩
         have hbc:=hba.trans hbb)
      | (go_at_call 70
         refine Calls.mono (CC.out _ ?_) ?_
         ·exact HG.out.keep AB2.out.drew.bel
         rintro e wa ⟨A2,B2,c2,d2,rfl,hown,hba⟩))
   all_goals (go_wp2_with fail; go_meet)
   all_goals exact ⟨rfl,((AB2.out.drew.below hbc).laid _ _ _ _ _ _ _ _).2.2⟩
  case rest =>
   obtain ⟨rfl,hAB⟩:=hcut
   have AB3:=hide hAB
   obtain ⟨_,r5,l5⟩:=AB3.out.rd
   obtain ⟨_,r6,l6⟩:=AB3.out.rm
   clear s0 s1 s2 s3 s4 s5 s6 s7 e0 e1 e2 f0 f1 f2 f3 f4 fr1 fr2 hAB
   obtain ⟨g0,g1,g2,g3⟩:=cells3 r5 l5
   obtain ⟨h0,h1,h2,h3,h4,h5⟩:=cells5 r6 l6
   clear AB2 HG2
   go_wp2
   clear g0 g1 g2 g3 h0 h1 h2 h3 h4 h5
   refine bodyPost_ret (v := .tuple #[nilD,nilM,.int .i64 cc]) ?_ rfl ?_
   ·obtain ⟨e0,e1,e2,e3,e4,e5,e6,e7⟩:=fin8 r5 r6 l5 l6 (by omega) (.slice none 0 0) (.slice none 0 0) (.int .i64 0) (.int .i64 0) (.int .i64 0) (.int .i64 0) (.int .i64 0) (.bool false)
    unfold nilD nilM
    simp [results,Try.results43,go_sem,e0,e1,e2,e3,e4,e5,e6,e7]
   ·rw [← HCC.out,← HRR.out,← HMM.out]
    exact ⟨fun _ => (show ResErr _ _ from rfl),fun h => absurd h HC.out,below8 AB3.out.bel _ _ _ _ _ _ _ _⟩
end Go.Proofs.Ytghdiolnonejaaa
end
section
namespace Go.Proofs.Ytghdiolnonejaaa
open Go Go.RowKit
theorem below_two {W:World} {o1 o2:Obj}:Below W.heap.size W ((W.alloc o1).alloc o2) := ((Below.refl _ _).alloc (Nat.le_refl _) _).alloc (by simp) _
end Go.Proofs.Ytghdiolnonejaaa
end
section
namespace Go.Proofs.Ytghdiolnonejaaa
open Go Go.RowKit
attribute [local go_sem ↓] Go.wp_at_zero Go.wp_at_succ
def Sep (w w':World) (v v':Value):Prop := (∀ (a:Addr) (u:Value),a.block < w.heap.size → some a.block ≠ v.ownBlock → w.cell? a = some u → w'.cell? a = some u) ∧ (∀ g,v'.ownBlock = some g → v.ownBlock = some g ∨ w.heap.size ≤ g) ∧ w.heap.size ≤ w'.heap.size
theorem Sep.below {w w':World} {v:Value} (hb:Below w.heap.size w w'):Sep w w' v v := ⟨fun a u _ _ h => cell_below h hb,fun g h => .inl h,hb.size⟩
theorem Sep.app {w w5 w2:World} {v:Value} {g2 n c H:Nat} (hb:Below w.heap.size w w5) (gr:w5.grownBy w2 v.ownBlock) (at2:v.ownBlock = some g2 ∨ g2 = H) (hH:w.heap.size ≤ H):Sep w w2 v (.slice (some ⟨g2,0,none⟩) n c) :=
 ⟨fun a u hl hne h => by rw [gr.cell_far a (Nat.lt_of_lt_of_le hl hb.size) hne]; exact cell_below h hb, fun g h => by
   have e:some g2 = some g:=h
   injection e with e
   subst e
   rcases at2 with h2 | h2
   ·exact .inl h2
   ·exact .inr (by omega),Nat.le_trans hb.size gr.size⟩
theorem AL.start (w:World) (A B:Option Addr) (n cp m cq:Nat) (l:Int):AL w [.slice A n cp,.slice B m cq,.int .i64 l] (w.heap.size + 1) (.slice none 0 0) [] (w.alloc (.cells #[.slice A n cp,.slice B m cq,.int .i64 l] 24)) :=
 ⟨row_at (vs := [_,_,_]) rfl,⟨rfl,.inl ⟨rfl,rfl⟩⟩,(Below.refl _ _).alloc (Nat.le_refl _) _,by omega,by simp⟩
end Go.Proofs.Ytghdiolnonejaaa
end
section
namespace Go.Proofs.Ytghdiolnonejaaa
open Go Go.RowKit
attribute [local go_sem ↓] Go.wp_at_zero Go.wp_at_succ
structure AR (w:World) (dv:List Value) (b:Nat) (v:Value) (ms:List Mv) (R:Option Addr) (nr:Nat) (rs:List Mv) (W:World):Prop where
 al:AL w dv b v ms W
 rv:MovesV W R nr rs
 ne:∀ g,0 < nr → R = some ⟨g,0,none⟩ → some g ≠ v.ownBlock
section
variable {w W W':World} {dv:List Value} {b nr:Nat} {v v':Value} {ms ms' rs:List Mv} {R:Option Addr}
end
end Go.Proofs.Ytghdiolnonejaaa
end
section
namespace Go.Proofs.Ytghdiolnonejaaa
open Go Go.RowKit
attribute [local go_sem ↓] Go.wp_at_zero Go.wp_at_succ
set_option maxRecDepth 100000 in
set_option maxHeartbeats 4000000 in
theorem radd_h (d:Pl.Dg) (hd:Pl.Valid d) (A B:Option Addr) (cp cq m b:Nat) (v:Value) (ms:List Mv) (k x y s:Int) (o:Bool) (dv:List Value) (w0 w:World) (hm:m = 4 * d.n) (hg:DgAt w A B d) (hms:ms.length ≤ 1000000) (hp:AL w0 dv b v ms w)
 (hA:∀ W,DgAt W A B d → Calls Try.prog 43 #[.agg #[.slice A d.n cp,.slice B m cq,.int .i64 d.lp],.agg #[.int .i64 k,.int .i64 x,.int .i64 y,.int .i64 s,.bool o]] W (ResC (apC d ⟨k,x,y,s,o⟩) (apD d ⟨k,x,y,s,o⟩) (apI d ⟨k,x,y,s,o⟩) W)) :
 Calls Try.prog 67 #[v,.agg #[.slice A d.n cp,.slice B m cq,.int .i64 d.lp],.agg #[.int .i64 k,.int .i64 x,.int .i64 y,.int .i64 s,.bool o]] w fun e w' => ∃ v',e = .returned v' ∧ AL w0 dv b v' (ms ++ one (apC d ⟨k,x,y,s,o⟩) ⟨k,x,y,s,o⟩) w' ∧ Sep w w' v v' := by
 have HM:=hide hm
 have HG:=hide hg
 have hb:=hp.lo2
 have hb0:Below w.heap.size w ((w.alloc (.cells #[.slice A d.n cp,.slice B m cq,.int .i64 d.lp] 24)).alloc (.cells #[.int .i64 k,.int .i64 x,.int .i64 y,.int .i64 s,.bool o] 37)):=below_two
 have P1:=hide (hp.below hb0)
 have M1:=hide (show Row ((w.alloc (.cells #[.slice A d.n cp,.slice B m cq,.int .i64 d.lp] 24)).alloc (.cells #[.int .i64 k,.int .i64 x,.int .i64 y,.int .i64 s,.bool o] 37)) (w.heap.size + 1) 37 [.int .i64 k,.int .i64 x,.int .i64 y,.int .i64 s,.bool o] from row_at (vs := [_,_,_,_,_]) (by simp))
 have HB0:=hide hb0
 clear hm hg hb0 hp
 go_enter Try.func67,Try.ntmps67
 go_wp2_with fail
 refine (hA _ (HG.out.keep HB0.out)).mono ?_
 intro e w3 hres
 have P3:=hide (P1.out.below hres.2.2)
 have M3:=hide (M1.out.below hres.2.2)
 obtain ⟨cc,hcc⟩:∃ c,c = apC d ⟨k,x,y,s,o⟩:=⟨_,rfl⟩
 have HC:=hide hcc
 obtain ⟨e0,e1,e2,e3,e4,e5⟩:=box5 M3.out
 have z1:=M3.out.lt
 have z2:w.heap.size + 1 < w3.heap.size + 1:=by omega
 have z3:w.heap.size < w3.heap.size:=by omega
 have hb3:=P3.out.lo2
 have HB3:=hide (HB0.out.trans (hres.2.2.mono HB0.out.size))
 clear P1 M1 HB0
 by_cases h0:cc = 0
 ·obtain ⟨A9,B9,c8,c9,k9,x9,y9,s9,o9,hmv,rfl,hT⟩:=(hres.2.1 (by rw [← hcc]; exact h0)).split
  have E:=hide (show one cc ⟨k,x,y,s,o⟩ = [⟨k,x,y,s,o⟩] from one_yes h0)
  clear h0 hcc hres hmv hT
  obtain ⟨N9,hN9⟩:∃ n,n = (apD d ⟨k,x,y,s,o⟩).n := ⟨_,rfl⟩
  obtain ⟨N4,hN4⟩:∃ n,n = 4 * (apD d ⟨k,x,y,s,o⟩).n := ⟨_,rfl⟩
  obtain ⟨L9,hL9⟩:∃ n,n = (apD d ⟨k,x,y,s,o⟩).lp := ⟨_,rfl⟩
  rw [← hN4,← hN9,← hL9]
  clear hN9 hN4 hL9
  obtain ⟨n0,hn0,hz0,hz1,hz2⟩:=info_parts moveInfo
  have PA:=hide (P3.out.below (below_two (o1 := .cells #[.slice A9 N9 c8,.slice B9 N4 c9,.int .i64 (L9:Int)] 24) (o2 := .cells #[.int .i64 k9,.int .i64 x9,.int .i64 y9,.int .i64 s9,.bool o9] 37)))
  have PB:=hide (PA.out.below ((Below.refl _ _).alloc (Nat.le_refl _) (.cells (Mv.cells ⟨k,x,y,s,o⟩).toArray 37)))
  have A1:∀ u ∈ Mv.cells ⟨k,x,y,s,o⟩,u.oneCell' = true:=by simp [Mv.cells,Value.oneCell']
  have A2:ms.length + 1 ≤ maxLen:=by unfold maxLen; omega
  have A3:(ms.length + 1) * 40 ≤ 140737488355328:=by omega
  have A6:=hide (five_news ((w3.alloc (.cells #[.slice A9 N9 c8,.slice B9 N4 c9,.int .i64 (L9:Int)] 24)).alloc (.cells #[.int .i64 k9,.int .i64 x9,.int .i64 y9,.int .i64 s9,.bool o9] 37)) (w3.heap.size + 1 + 1) (by simp) ⟨k,x,y,s,o⟩)
  go_wp2_with (at_builtin; refine wpList_append_lies _ (by rfl) _ _ 27 (by rfl) b 37 n0 (.agg #[.int .i64 0,.int .i64 0,.int .i64 0,.int .i64 0,.bool false]) 5 40 Try.underlying27 hn0 hz0 hz1 hz2 rfl (by omega) v ms.length (mvs ms) (by rfl) PB.out.o ⟨w3.heap.size + 1 + 1,0,none⟩ 1 1 (Mv.cells ⟨k,x,y,s,o⟩) (by rfl) (by rfl) A6.out A1 (by omega) A2 A3 (by simp; omega) (w3.heap.size + 1 + 1 + 1) (by simp) ?_; intro g2 c2 w2 own2 grow2 at2 lt2; have OWN2 := hide own2; have GR2 := hide grow2; have AT2 := hide at2; clear own2 grow2 at2)
  go_ret
  refine ⟨_,rfl,?_,?_⟩
  ·rw [← HC.out,E.out]
   exact PB.out.app (r := [⟨k,x,y,s,o⟩]) OWN2.out GR2.out
  ·exact Sep.app ((HB3.out.trans (below_two.mono HB3.out.size)).alloc (by simp; omega) _) GR2.out AT2.out (by omega)
 ·have hE:=ResErr.split (hres.1 (by rw [← hcc]; exact h0))
  subst hE
  rw [← hcc]
  have E:=hide (show one cc ⟨k,x,y,s,o⟩ = [] from one_no h0)
  have t1:(cc == 0) = false:=by rw [beq_eq_false_iff_ne]; exact h0
  clear h0 hcc hres
  go_wp2
  go_ret
  refine ⟨v,rfl,?_,?_⟩
  ·rw [← HC.out,E.out,List.append_nil]
   exact P3.out.below below_two
  ·exact Sep.below (HB3.out.trans (below_two.mono HB3.out.size))
set_option maxRecDepth 100000 in
set_option maxHeartbeats 4000000 in
theorem rRemoving_r (d:Pl.Dg) (hd:Pl.Valid d) (A B:Option Addr) (cp cq m:Nat) (w:World) (hm:m = 4 * d.n) (hg:DgAt w A B d) :
 Calls Try.prog 42 #[.agg #[.slice A d.n cp,.slice B m cq,.int .i64 d.lp]] w fun e w' => ∃ v,e = .returned v ∧ MovesIn w.heap.size w' v (remL d) ∧ Below w.heap.size w w' := by
 have HM:=hide hm
 have HG:=hide hg
 have hn:=hd.wf.few
 have P0:=hide (AL.start w A B d.n cp m cq d.lp)
 clear hg hm
 go_enter Try.func42,Try.ntmps42
 go_wp2
 go_loopg [3,5] d.n (fun g s3 s5 wx => ∃ (k:Nat),k + g = d.n ∧ s5 = .int .i64 (k:Int) ∧ AL w [.slice A d.n cp,.slice B m cq,.int .i64 (d.lp:Int)] (w.heap.size + 1) s3 (sel d (unC k)) wx)
 case atStart => exact ⟨0,by omega,rfl,P0.out⟩
 case round =>
  clear P0
  obtain ⟨k,hkg,rfl,hp⟩:=hrel
  have HKG:=hide hkg
  have PK:=hide hp
  clear hp
  by_cases hk:k < d.n
  ·have hki:(k:Int) < (d.n:Int):=by omega
   have hlen:(sel d (unC k)).length ≤ 1000000:=by
    have a:=unL_len d k
    rw [un_sel d _ (by omega)] at a
    omega
   obtain ⟨d0,d1,d2,d3⟩:=box3 PK.out.d
   clear hkg
   go_wp2_with fail
   refine (radd_h d hd A B cp cq m _ _ _ 2 k 0 0 false _ w _ HM.out (HG.out.keep PK.out.bel) hlen PK.out (fun W hW => rapply_2 d hd A B cp cq m k 0 0 false W HM.out hW)).mono ?_
   rintro e w1 ⟨v1,rfl,hp1,_⟩
   have Q1:=hide hp1
   clear hp1
   go_wp2
   go_roundg (gk - 1)
   case measure => have := HKG.out; omega
   case rel =>
    have e2:sel d (unC (k + 1)) = sel d (unC k) ++ one (apC d ⟨2,k,0,0,false⟩) ⟨2,k,0,0,false⟩:=by
     show sel d (unC k ++ [⟨2,k,0,0,false⟩]) = _
     rw [sel_app,sel_cons,sel_nil,List.append_nil]
    exact ⟨k + 1,by have := HKG.out; omega,by go_num,by rw [e2]; exact Q1.out⟩
  ·have hki:¬ ((k:Int) < (d.n:Int)):=by omega
   obtain rfl:k = d.n := by omega
   clear hkg HKG
   obtain ⟨U,hU⟩:∃ U,U = sel d (unC d.n) := ⟨_,rfl⟩
   have hUl:U.length ≤ 64:=by rw [hU]; exact un_le hn
   have HU:=hide hU
   rw [← hU] at PK
   clear hU
   go_wp2
   go_loopg [3,6,7] d.n (fun g s3 s6 s7 wx => ∃ (k:Nat),k + g = d.n ∧ s6 = .int .i64 (k:Int) ∧ AL w [.slice A d.n cp,.slice B m cq,.int .i64 (d.lp:Int)] (w.heap.size + 1) s3 (U ++ sel d (upNX d.n k)) wx)
   case atStart => exact ⟨0,by omega,rfl,by rw [show sel d (upNX d.n 0) = [] from rfl,List.append_nil]; exact PK.out⟩
   case round =>
    clear PK
    obtain ⟨k,hkg,rfl,hp⟩:=hrel
    obtain ⟨go,rfl⟩:∃ go,go = gk := ⟨_,rfl⟩
    have HKG:=hide hkg
    have PK:=hide hp
    have hlen:=upX_len hn k
    rw [up_sel] at hlen
    clear hp
    by_cases hk:k < d.n
    ·have hki:(k:Int) < (d.n:Int):=by omega
     clear hkg
     go_wp2
     go_loopg [3,7] (d.n - (k + 1)) (fun g s3 s7 wx => ∃ (j:Nat),j + g = d.n ∧ k + 1 ≤ j ∧ s7 = .int .i64 (j:Int) ∧ AL w [.slice A d.n cp,.slice B m cq,.int .i64 (d.lp:Int)] (w.heap.size + 1) s3 (U ++ sel d (upNX d.n k) ++ sel d (upN k j)) wx)
     case atStart => exact ⟨k + 1,by omega,by omega,by go_num,by rw [← upY_sel d k _ (by omega),upY_none d k (k + 1) (Nat.le_refl _),List.append_nil]; exact PK.out⟩
     case round =>
      clear PK
      obtain ⟨j,hjg,hkj,rfl,hq⟩:=hrel
      have HJG:=hide hjg
      have QJ:=hide hq
      have hlen2:=upY_len d k j
      obtain ⟨d0,d1,d2,d3⟩:=box3 hq.d
      clear hq hjg
      by_cases hj:j < d.n
      ·have hji:(j:Int) < (d.n:Int):=by omega
       rw [upY_sel d k j (by omega)] at hlen2
       go_wp2_with fail
       refine (radd_h d hd A B cp cq m _ _ _ 4 k j 0 false _ w _ HM.out (HG.out.keep QJ.out.bel) (by simp only [List.length_append]; omega) QJ.out (fun W hW => rapply_4 d hd A B cp cq m k j 0 false W HM.out hW)).mono ?_
       rintro e w1 ⟨v1,rfl,hp1,_⟩
       have Q1:=hide hp1
       clear hp1
       go_wp2
       go_roundg (gk - 1)
       case measure => have := HJG.out; omega
       case rel =>
        have e2:sel d (upN k (j + 1)) = sel d (upN k j) ++ one (apC d ⟨4,k,j,0,false⟩) ⟨4,k,j,0,false⟩:=by
         show sel d (upN k j ++ (if k < j then [⟨4,k,j,0,false⟩] else [])) = _
         rw [if_pos (by omega),sel_app,sel_cons,sel_nil,List.append_nil]
        exact ⟨j + 1,by have := HJG.out; omega,by omega,by go_num,by rw [e2,← List.append_assoc]; exact Q1.out⟩
      ·have hji:¬ ((j:Int) < (d.n:Int)):=by omega
       have E2:=hide (show sel d (upNX d.n (k + 1)) = sel d (upNX d.n k) ++ sel d (upN k j) by
        have:j = d.n:=by have := HJG.out; omega
        rw [this]
        show sel d (upNX d.n k ++ upN k d.n) = _
        rw [sel_app])
       go_wp2
       go_roundg (go - 1)
       case measure => have := HKG.out; omega
       case rel => exact ⟨k + 1,by have := HKG.out; omega,by go_num,by rw [E2.out,← List.append_assoc]; exact QJ.out⟩
    ·have hki:¬ ((k:Int) < (d.n:Int)):=by omega
     obtain rfl:k = d.n := by omega
     clear hkg HKG
     go_wp2
     go_ret
     exact ⟨_,rfl,⟨w.heap.size + 1,by omega,PK.out.lo2,by unfold remL; rw [← HU.out]; exact PK.out.o⟩,PK.out.bel⟩
theorem rem_kinds {d:Pl.Dg} {k x y s:Int} {o:Bool} (h:(⟨k,x,y,s,o⟩:Mv) ∈ remL d):apC d ⟨k,x,y,s,o⟩ = 0 ∧ inR d.n ⟨k,x,y,s,o⟩ ∧ 0 ≤ x ∧ 0 ≤ y ∧ (k = 2 ∨ k = 4) := by
 obtain ⟨h1,h2⟩:=rem_ok h
 have hin:=(apC_zero h1).2.1
 refine ⟨h1,hin,?_,?_,h2⟩
 ·rcases h2 with h2 | h2
  ·have hk:k = 2:=h2
   subst hk
   have h3:0 ≤ x ∧ x < d.n ∧ y = 0 ∧ s = 0 ∧ o = false:=hin
   exact h3.1
  ·have hk:k = 4:=h2
   subst hk
   have h3:0 ≤ x ∧ x < y ∧ y < d.n ∧ s = 0 ∧ o = false:=hin
   exact h3.1
 ·rcases h2 with h2 | h2
  ·have hk:k = 2:=h2
   subst hk
   have h3:0 ≤ x ∧ x < d.n ∧ y = 0 ∧ s = 0 ∧ o = false:=hin
   omega
  ·have hk:k = 4:=h2
   subst hk
   have h3:0 ≤ x ∧ x < y ∧ y < d.n ∧ s = 0 ∧ o = false:=hin
   omega
theorem apply_rem (r:Pl.Dg) (hr:Pl.Valid r) (A B:Option Addr) (n cp cq m lp:Nat) (k x y s:Int) (o:Bool) (w:World) (hn:n = r.n) (hm:m = 4 * r.n) (hl:lp = r.lp) (hg:DgAt w A B r) (h:(⟨k,x,y,s,o⟩:Mv) ∈ remL r) :
 Calls Try.prog 23 #[.agg #[.slice A n cp,.slice B m cq,.int .i64 (lp:Int)],.agg #[.int .i64 k,.int .i64 x,.int .i64 y,.int .i64 s,.bool o]] w (ResC (apC r ⟨k,x,y,s,o⟩) (apD r ⟨k,x,y,s,o⟩) (apI r ⟨k,x,y,s,o⟩) w) := by
 subst hn
 subst hl
 obtain ⟨h1,hin,hx,hy,hk⟩:=rem_kinds h
 obtain ⟨a,rfl⟩:=Int.eq_ofNat_of_zero_le hx
 obtain ⟨b,rfl⟩:=Int.eq_ofNat_of_zero_le hy
 rcases hk with rfl | rfl
 ·have e:apC r ⟨2,(a:Int),(b:Int),s,o⟩ = uncC r a:=by rw [apC_in (show (1:Int) ≤ 2 ∧ (2:Int) ≤ 5 by decide) hin]; rfl
  rw [e]
  exact apply_2 r hr A B cp cq m a b s o w hm hg hin
 ·have e:apC r ⟨4,(a:Int),(b:Int),s,o⟩ = unpC r a b:=by rw [apC_in (show (1:Int) ≤ 4 ∧ (4:Int) ≤ 5 by decide) hin]; rfl
  rw [e]
  exact apply_4 r hr A B cp cq m a b s o w hm hg hin
theorem rapply_rem (r:Pl.Dg) (hr:Pl.Valid r) (A B:Option Addr) (n cp cq m lp:Nat) (k x y s:Int) (o:Bool) (w:World) (hn:n = r.n) (hm:m = 4 * r.n) (hl:lp = r.lp) (hg:DgAt w A B r) (h:(⟨k,x,y,s,o⟩:Mv) ∈ remL r) :
 Calls Try.prog 43 #[.agg #[.slice A n cp,.slice B m cq,.int .i64 (lp:Int)],.agg #[.int .i64 k,.int .i64 x,.int .i64 y,.int .i64 s,.bool o]] w (ResC (apC r ⟨k,x,y,s,o⟩) (apD r ⟨k,x,y,s,o⟩) (apI r ⟨k,x,y,s,o⟩) w) := by
 subst hn
 subst hl
 obtain ⟨h1,hin,hx,hy,hk⟩:=rem_kinds h
 rcases hk with rfl | rfl
 ·exact rapply_2 r hr A B cp cq m x y s o w hm hg
 ·exact rapply_4 r hr A B cp cq m x y s o w hm hg
theorem Removing_n (r:Pl.Dg) (hr:Pl.Valid r) (A B:Option Addr) (n cp cq m lp:Nat) (w:World) (hn:n = r.n) (hm:m = 4 * r.n) (hl:lp = r.lp) (hg:DgAt w A B r) :
 Calls Try.prog 41 #[.agg #[.slice A n cp,.slice B m cq,.int .i64 (lp:Int)]] w fun e w' => ∃ v,e = .returned v ∧ MovesIn w.heap.size w' v (remL r) ∧ Below w.heap.size w w' := by
 subst hn
 subst hl
 exact Removing_any r hr A B cp cq m w hm hg
theorem rRemoving_n (r:Pl.Dg) (hr:Pl.Valid r) (A B:Option Addr) (n cp cq m lp:Nat) (w:World) (hn:n = r.n) (hm:m = 4 * r.n) (hl:lp = r.lp) (hg:DgAt w A B r) :
 Calls Try.prog 42 #[.agg #[.slice A n cp,.slice B m cq,.int .i64 (lp:Int)]] w fun e w' => ∃ v,e = .returned v ∧ MovesIn w.heap.size w' v (remL r) ∧ Below w.heap.size w w' := by
 subst hn
 subst hl
 exact rRemoving_r r hr A B cp cq m w hm hg
end Go.Proofs.Ytghdiolnonejaaa
end
section
namespace Go.Proofs.Ytghdiolnonejaaa
open Go Go.RowKit
attribute [local go_sem ↓] Go.wp_at_zero Go.wp_at_succ
structure BB (w W:World):Prop where
 b:Below w.heap.size w W
theorem BB.refl (w:World):BB w w := ⟨Below.refl _ _⟩
theorem sz_alloc (W:World) (o:Obj):W.heap.size + 1 = (W.alloc o).heap.size := by simp
def Ty (W:World) (g:Nat) (t:TypeId):Prop := ∃ vs,Row W g t vs
theorem Row.ty {W:World} {g:Nat} {t:TypeId} {vs:List Value} (h:Row W g t vs):Ty W g t := ⟨_,h⟩
theorem Ty.set {W:World} {g g':Nat} {t:TypeId} (h:Ty W g t) (o:Nat) (v:Value):Ty (W.setCell ⟨g',o,none⟩ v) g t := by
 obtain ⟨vs,h⟩:=h
 by_cases e:g = g'
 ·subst e; exact ⟨_,h.set o v⟩
 ·exact ⟨vs,h.other e v⟩
theorem Ty.alloc {W:World} {g:Nat} {t:TypeId} (h:Ty W g t) (o:Obj):Ty (W.alloc o) g t := let ⟨vs,h⟩:=h; ⟨vs,h.alloc o⟩
theorem row_new3 (W:World) (g:Nat) (a b c:Value) (h:g = W.heap.size):Row (W.alloc (.cells #[a,b,c] 24)) g 24 [a,b,c] := row_at (vs := [a,b,c]) h
theorem DgT.setT {W:World} {A B:Option Addr} {d:Pl.Dg} {g o:Nat} {t:TypeId} {v:Value} (h:DgT W A B d) (ht:Ty W g t) (hne:3 ≠ t):DgT (W.setCell ⟨g,o,none⟩ v) A B d := by
 obtain ⟨vs,hr⟩:=ht
 have hb:=hr
 unfold Row at hb
 have key:∀ {A:Option Addr} {n:Nat} {xs:List Value},RowT W 3 A n xs → RowT (W.setCell ⟨g,o,none⟩ v) 3 A n xs:=fun h =>
  ⟨h.1, fun hn => let ⟨b, o', cs', fr', e, hb', hc⟩ := h.2 hn; ⟨b, o', cs', fr', e, (Below.heap_setCell W ⟨g, o, none⟩ v b (fun he => by
    have he':b = g:=he
    rw [he',hb] at hb'
    injection hb' with hb'
    injection hb' with _ h4
    exact hne h4.symm)).trans hb',hc⟩⟩
 exact ⟨key h.s,key h.m⟩
theorem DgT.al {W:World} {A B:Option Addr} {d:Pl.Dg} (h:DgT W A B d) (o:Obj):DgT (W.alloc o) A B d := h.keep ((Below.refl _ _).alloc (Nat.le_refl _) o)
theorem BB.drew {w W:World} (h:BB w W):BB w W.drew := ⟨h.b.drew⟩
theorem BB.alloc {w W:World} (h:BB w W) (o:Obj):BB w (W.alloc o) := ⟨h.b.alloc h.b.size o⟩
theorem BB.set {w W:World} {g:Nat} (h:BB w W) (hg:w.heap.size ≤ g) (o:Nat) (v:Value):BB w (W.setCell ⟨g,o,none⟩ v) := ⟨h.b.setCell hg v⟩
theorem BB.below {w W W':World} (h:BB w W) (hb:Below W.heap.size W W'):BB w W' := ⟨h.b.trans (hb.mono h.b.size)⟩
structure DL (w:World) (A B:Option Addr) (d r:Pl.Dg) (l:List Mv) (v:Value) (A9 B9:Option Addr) (n c8 m c9 lp:Nat) (W:World):Prop where
 val:Pl.Valid r
 eqD:dnD d = dnD r
 eqM:dnM d = l ++ dnM r
 hn:n = r.n
 hm:m = 4 * r.n
 hl:lp = r.lp
 at_:Row W w.heap.size 24 [.slice A9 n c8,.slice B9 m c9,.int .i64 (lp:Int)]
 res:Row W (w.heap.size + 1) 24 [.slice none 0 0,.slice none 0 0,.int .i64 0]
 t:DgT W A9 B9 r ∨ (A9 = A ∧ B9 = B ∧ r = d)
 own:W.ownsRow (w.heap.size + 1 + 1) 37 5 v l.length (mvs l)
 len:l.length + r.n ≤ d.n
 bel:Below w.heap.size w W
section
variable {w W W':World} {A B:Option Addr} {d r:Pl.Dg} {l:List Mv} {v:Value} {A9 B9:Option Addr} {n c8 m c9 lp:Nat}
theorem DL.below (h:DL w A B d r l v A9 B9 n c8 m c9 lp W) (hb:Below W.heap.size W W'):DL w A B d r l v A9 B9 n c8 m c9 lp W' :=
 ⟨h.val,h.eqD,h.eqM,h.hn,h.hm,h.hl,h.at_.below hb,h.res.below hb,h.t.imp (fun t => t.keep hb) id,own_below h.own hb,h.len,h.bel.trans (hb.mono h.bel.size)⟩
theorem DL.alloc (h:DL w A B d r l v A9 B9 n c8 m c9 lp W) (o:Obj):DL w A B d r l v A9 B9 n c8 m c9 lp (W.alloc o) := h.below ((Below.refl _ _).alloc (Nat.le_refl _) o)
theorem DL.dg (h:DL w A B d r l v A9 B9 n c8 m c9 lp W) (hg:DgAt w A B d):DgAt W A9 B9 r := by
 rcases h.t with t | ⟨h1,h2,h3⟩
 ·exact t.at
 ·rw [h1,h2,h3]; exact hg.keep h.bel
theorem DL.start (hd:Pl.Valid d) (hm:m = 4 * d.n):DL w A B d d [] (.slice none 0 0) A B d.n c8 m c9 d.lp ((w.alloc (.cells #[.slice A d.n c8,.slice B m c9,.int .i64 (d.lp:Int)] 24)).alloc (.cells #[.slice none 0 0,.slice none 0 0,.int .i64 0] 24)) :=
 ⟨hd,rfl,rfl,rfl,hm,rfl,(row_at (vs := [.slice A d.n c8,.slice B m c9,.int .i64 (d.lp:Int)]) rfl).alloc _,row_at (vs := [.slice none 0 0,.slice none 0 0,.int .i64 0]) (by simp),.inr ⟨rfl,rfl,rfl⟩,⟨rfl,.inl ⟨rfl,rfl⟩⟩,by simp,((Below.refl _ _).alloc (Nat.le_refl _) _).alloc (by simp) _⟩
end
def DnPost (A B:Option Addr) (d:Pl.Dg) (w:World) (e:Ending) (w':World):Prop := ∃ (A9 B9:Option Addr) (c8 c9:Nat) (v:Value),e = .returned (.tuple #[.agg #[.slice A9 (dnD d).n c8,.slice B9 (4 * (dnD d).n) c9,.int .i64 (dnD d).lp],v]) ∧ (DgT w' A9 B9 (dnD d) ∨ (A9 = A ∧ B9 = B ∧ dnD d = d)) ∧ MovesIn w.heap.size w' v (dnM d) ∧ Below w.heap.size w w'
theorem DL.post {w W:World} {A B:Option Addr} {d r:Pl.Dg} {l:List Mv} {v:Value} {A9 B9:Option Addr} {n c8 m c9 lp:Nat} (h:DL w A B d r l v A9 B9 n c8 m c9 lp W) (he:remL r = []) :
 DnPost A B d w (.returned (.tuple #[.agg #[.slice A9 n c8,.slice B9 m c9,.int .i64 (lp:Int)],v])) (((W.setCell ⟨w.heap.size + 1,0,none⟩ (.slice A9 n c8)).setCell ⟨w.heap.size + 1,1,none⟩ (.slice B9 m c9)).setCell ⟨w.heap.size + 1,2,none⟩ (.int .i64 (lp:Int))) := by
 have BB:=below3 h.bel (show w.heap.size ≤ w.heap.size + 1 by omega) (.slice A9 n c8) (.slice B9 m c9) (.int .i64 (lp:Int))
 have OO:=ownsRow_setCell_below (ownsRow_setCell_below (ownsRow_setCell_below h.own (a := ⟨w.heap.size + 1,0,none⟩) (by show w.heap.size + 1 < _; omega) (.slice A9 n c8)) (a := ⟨w.heap.size + 1,1,none⟩) (by show w.heap.size + 1 < _; omega) (.slice B9 m c9)) (a := ⟨w.heap.size + 1,2,none⟩) (by show w.heap.size + 1 < _; omega) (.int .i64 (lp:Int))
 have hs:=h.res.lt
 have e1:dnD d = r:=by rw [h.eqD,(dn_stop he).1]
 have e2:dnM d = l:=by rw [h.eqM,(dn_stop he).2,List.append_nil]
 have TT:DgT (((W.setCell ⟨w.heap.size + 1,0,none⟩ (.slice A9 n c8)).setCell ⟨w.heap.size + 1,1,none⟩ (.slice B9 m c9)).setCell ⟨w.heap.size + 1,2,none⟩ (.int .i64 (lp:Int))) A9 B9 (dnD d) ∨ (A9 = A ∧ B9 = B ∧ dnD d = d):=by
  rw [e1]
  exact h.t.imp (fun t => t.set3 h.res _ _ _) id
 unfold DnPost
 rw [e1,e2]
 rw [e1] at TT
 refine ⟨A9,B9,c8,c9,v,by rw [h.hn,h.hm,h.hl],TT,⟨w.heap.size + 1 + 1,by omega,by simp; omega,OO⟩,BB⟩
theorem first_mv {l:List Mv} {z:Mv} (h:l[0]? = some z):∃ t,l = z :: t := by
 cases l with
 | nil => cases h
 | cons a t => exact ⟨t,by rw [show a = z from Option.some.inj h]⟩
theorem DL.next {r d:Pl.Dg} {l:List Mv} {z:Mv} (hr:Pl.Valid r) (eqD:dnD d = dnD r) (eqM:dnM d = l ++ dnM r) (hl:l.length + r.n ≤ d.n) (h:(remL r)[0]? = some z) :
 Pl.Valid (apD r z) ∧ dnD d = dnD (apD r z) ∧ dnM d = (l ++ [z]) ++ dnM (apD r z) ∧ (l ++ [z]).length + (apD r z).n ≤ d.n ∧ (apD r z).n + 1 ≤ r.n := by
 obtain ⟨t,ht⟩:=first_mv h
 obtain ⟨e1,e2⟩:=dn_next hr ht
 have hz:z ∈ remL r:=by rw [ht]; exact List.mem_cons_self
 have hle:=rem_less hr hz
 refine ⟨(ap_ok hr (rem_ok hz).1).1,by rw [eqD,e1],by rw [eqM,e2]; simp,?_,hle⟩
 rw [List.length_append,List.length_singleton]
 omega
set_option maxRecDepth 100000 in
set_option maxHeartbeats 8000000 in
theorem descend_any (d:Pl.Dg) (hd:Pl.Valid d) (A B:Option Addr) (cp cq m:Nat) (w:World) (hm:m = 4 * d.n) (hg:DgAt w A B d) :
 Calls Try.prog 36 #[.agg #[.slice A d.n cp,.slice B m cq,.int .i64 d.lp]] w (DnPost A B d w) := by
 have HM:=hide hm
 have HG:=hide hg
 have hdn:=hd.wf.few
 have L0:=hide (DL.start (w := w) (A := A) (B := B) (c8 := cp) (c9 := cq) hd hm)
 clear hm hg
 obtain ⟨V,hV⟩:∃ V,V = (w.alloc (.cells #[.slice A d.n cp,.slice B m cq,.int .i64 (d.lp:Int)] 24)).alloc (.cells #[.slice none 0 0,.slice none 0 0,.int .i64 0] 24) := ⟨_,rfl⟩
 go_enter Try.func36,Try.ntmps36
 go_wp2
 rw [← hV] at L0 ⊢
 clear hV
 go_loopg [4,5,6,7] d.n (fun g s4 s5 s6 s7 wx => ∃ (r:Pl.Dg) (l:List Mv) (A9 B9:Option Addr) (n c8 m c9 lp:Nat),r.n = g ∧ DL w A B d r l s4 A9 B9 n c8 m c9 lp wx)
 case atStart => exact ⟨_,_,_,_,_,_,_,_,_,rfl,L0.out⟩
 case round =>
  clear L0
  obtain ⟨r,l,A9,B9,n,c8,m,c9,lp,hrg,hl⟩:=hrel
  have HKG:=hide hrg
  have K0:=hide hl
  have hln:=hl.len
  have hlp:=hl.val.wf.lp
  rw [← hl.hl] at hlp
  have hrn:=hl.val.wf.few
  rw [← hl.hn] at hrn
  have hlen:l.length ≤ 64:=by omega
  clear hl hrg
  obtain ⟨d0,d1,d2,d3⟩:=box3 K0.out.at_
  go_wp2_with fail
  refine (Removing_n r K0.out.val A9 B9 n c8 c9 m lp _ K0.out.hn K0.out.hm K0.out.hl (K0.out.dg HG.out)).mono ?_
  rintro e w3 ⟨v,rfl,hv,hb3⟩
  obtain ⟨A5,c5,rfl,hV⟩:=hv.at.mv
  have K3:=hide (K0.out.below hb3)
  have lch:=remL_le K0.out.val.wf.few
  obtain ⟨L,hL⟩:∃ L,L = remL r := ⟨_,rfl⟩
  rw [← hL] at hV lch ⊢
  obtain ⟨N5,hN5⟩:∃ n,n = L.length := ⟨_,rfl⟩
  rw [← hN5] at hV lch ⊢
  have HL:=hide hL
  have HN5:=hide hN5
  have HV:=hide hV
  have hw3:w.heap.size + 1 < w3.heap.size:=K3.out.res.lt
  clear hV hv hL hN5 hb3 d0 d1 d2 d3 K0 hln
  by_cases h0:N5 = 0
  ·have HE:=hide (show remL r = [] by rw [← HL.out]; exact List.eq_nil_of_length_eq_zero (by rw [← HN5.out]; exact h0))
   subst h0
   obtain ⟨e0,e1,e2,e3⟩:=box3 K3.out.at_
   obtain ⟨f0,f1,f2,f3⟩:=box3 K3.out.res
   obtain ⟨A7,c7,hs4⟩:=owns_slice K3.out.own
   subst hs4
   go_wp2
   have RR:=row3 K3.out.res rfl (.slice A9 n c8) (.slice B9 m c9) (.int .i64 (lp:Int))
   refine bodyPost_ret (v := .tuple #[.agg #[.slice A9 n c8,.slice B9 m c9,.int .i64 (lp:Int)],.slice A7 l.length c7]) ?_ rfl ?_
   ·obtain ⟨r0,r1,r2,r3⟩:=box3 RR
    simp [results,Try.results36,go_sem,r0,r1,r2]
   ·exact K3.out.post HE.out
  ·have hN0:0 < N5:=by omega
   have t0:((N5:Int) == 0) = false:=by rw [beq_eq_false_iff_ne]; omega
   have hN1:(0:Int) < (N5:Int):=by omega
   obtain ⟨g5,zk,zx,zy,zs,zo,rfl,hgl,hz,c0,c1,c2,c3,c4⟩:=HV.out.at_ hN0
   have HZ:=hide (show (remL r)[0]? = some ⟨zk,zx,zy,zs,zo⟩ by rw [← HL.out]; exact hz)
   have HIN:=hide (List.mem_of_getElem? HZ.out)
   have HOK:=hide (rem_ok HIN.out).1
   have HNX:=hide (DL.next K3.out.val K3.out.eqD K3.out.eqM K3.out.len HZ.out)
   simp only [Nat.zero_mul,Nat.zero_add] at c0 c1 c2 c3 c4
   obtain ⟨e0,e1,e2,e3⟩:=box3 K3.out.at_
   clear hz h0
   obtain ⟨r2,hr2⟩:∃ r2,r2 = apD r ⟨zk,zx,zy,zs,zo⟩:=⟨_,rfl⟩
   rw [← hr2] at HNX
   have HR2:=hide hr2
   obtain ⟨hv2,hd2,hm2,hl2,hlt2⟩:=HNX.out
   have HD2:=hide hd2
   have HMM2:=hide hm2
   have HL2:=hide hl2
   have HLT:=hide hlt2
   have HV2:=hide hv2
   have hr2n:=HV2.out.wf.few
   have hr2l:=HV2.out.wf.lp
   obtain ⟨N8,hN8⟩:∃ n,n = r2.n := ⟨_,rfl⟩
   obtain ⟨M8,hM8⟩:∃ n,n = 4 * r2.n := ⟨_,rfl⟩
   obtain ⟨L8,hL8⟩:∃ n,n = r2.lp := ⟨_,rfl⟩
   rw [← hN8] at hr2n
   rw [← hL8] at hr2l
   have HN8:=hide hN8
   have HM8:=hide hM8
   have HL8:=hide hL8
   have AR:=hide (fun (W:World) (hW:DgAt W A9 B9 r) => (apply_rem r K3.out.val A9 B9 n c8 c9 m lp zk zx zy zs zo W K3.out.hn K3.out.hm K3.out.hl hW HIN.out).mono (R' := fun e w' => ∃ (A8 B8:Option Addr) (b8 b9:Nat) (k9 x9 y9 s9:Int) (o9:Bool),e = .returned (.tuple #[.agg #[.slice A8 N8 b8,.slice B8 M8 b9,.int .i64 (L8:Int)],.agg #[.int .i64 k9,.int .i64 x9,.int .i64 y9,.int .i64 s9,.bool o9],.int .i64 0]) ∧ DgT w' A8 B8 r2 ∧ Below W.heap.size W w') (fun e w' hres => by
    obtain ⟨A8,B8,b8,b9,k9,x9,y9,s9,o9,hmv,he,hT⟩:=(hres.2.1 HOK.out).split
    rw [← HR2.out] at he hT
    rw [← HM8.out,← HN8.out,← HL8.out] at he
    exact ⟨A8,B8,b8,b9,k9,x9,y9,s9,o9,he,hT,hres.2.2⟩))
   have D3:=hide (K3.out.dg HG.out)
   have hrr:w.heap.size < w3.heap.size:=by omega
   clear hr2 hv2 hd2 hm2 hl2 hlt2 hN8 hM8 hL8 HNX
   have HALL:=hide (fun (W:World) (hb:BB w3 W) => (show (W.cell? ⟨w.heap.size,0,none⟩ = some (.slice A9 n c8) ∧ W.cell? ⟨w.heap.size,1,none⟩ = some (.slice B9 m c9) ∧ W.cell? ⟨w.heap.size,2,none⟩ = some (.int .i64 (lp:Int)) ∧ W.cell? ⟨g5,0,none⟩ = some (.int .i64 zk) ∧ W.cell? ⟨g5,1,none⟩ = some (.int .i64 zx) ∧ W.cell? ⟨g5,2,none⟩ = some (.int .i64 zy) ∧ W.cell? ⟨g5,3,none⟩ = some (.int .i64 zs) ∧ W.cell? ⟨g5,4,none⟩ = some (.bool zo)) from
    ⟨cell_below e0 hb.b,cell_below e1 hb.b,cell_below e2 hb.b,cell_below c0 hb.b,cell_below c1 hb.b,cell_below c2 hb.b,cell_below c3 hb.b,cell_below c4 hb.b⟩))
   have HB3:=hide (BB.refl w3)
   go_upto_region 5 with fail
   go_cut [6,7,8] from 16 to 24 (fun s6 s7 s8 wx => s8 = .int .i64 0 ∧ ∃ (g6:Nat) (A8 B8:Option Addr) (b8 b9:Nat),s6 = .pointer (some ⟨g6,0,none⟩) ∧ Row wx g6 24 [.slice A8 N8 b8,.slice B8 M8 b9,.int .i64 (L8:Int)] ∧ w3.heap.size ≤ g6 ∧ DgT wx A8 B8 r2 ∧ BB w3 wx)
   case first =>
    go_region_held3 (fun W => W.cell? ⟨w.heap.size,0,none⟩ = some (.slice A9 n c8) ∧ W.cell? ⟨w.heap.size,1,none⟩ = some (.slice B9 m c9) ∧ W.cell? ⟨w.heap.size,2,none⟩ = some (.int .i64 (lp:Int)) ∧ W.cell? ⟨g5,0,none⟩ = some (.int .i64 zk) ∧ W.cell? ⟨g5,1,none⟩ = some (.int .i64 zx) ∧ W.cell? ⟨g5,2,none⟩ = some (.int .i64 zy) ∧ W.cell? ⟨g5,3,none⟩ = some (.int .i64 zs) ∧ W.cell? ⟨g5,4,none⟩ = some (.bool zo))
     ((refine HALL.out _ ?_; (repeat (first | (with_reducible assumption) | (with_reducible exact HB3.out) | (with_reducible refine BB.drew ?_) | (with_reducible refine BB.alloc ?_ _) | (with_reducible refine BB.set ?_ (by omega) _ _) | (with_reducible refine BB.below ?_ hb5)))))
     (first
       | (go_at_call 23
          refine Calls.mono (AR.out _ ?_) ?_
          ·refine D3.out.keep (BB.b ?_)
           repeat (first | (with_reducible assumption) | (with_reducible exact HB3.out) | (with_reducible refine BB.drew ?_) | (with_reducible refine BB.alloc ?_ _))
          rintro e w5 ⟨A8,B8,b8,b9,k9,x9,y9,s9,o9,rfl,hT,hb5⟩
          have hlt5:w3.heap.size ≤ w5.heap.size:=by have := hb5.size; simp at this; omega
          (try (have r60 := Row.below (g := w3.heap.size) (t := 24) (vs := [.slice none 0 0,.slice none 0 0,.int .i64 0]) (by first | exact row_at rfl | exact row_at (sz_alloc _ _) | exact (row_at rfl).alloc _) hb5; obtain ⟨q0,q1,q2,q3⟩:=box3 r60; have hl60 := r60.lt; have ty60 := r60.ty; have hrow60 := fun a b c => row3 r60 rfl a b c))
          (try (have r61 := Row.below (g := w3.heap.size + 1) (t := 24) (vs := [.slice none 0 0,.slice none 0 0,.int .i64 0]) (by first | exact row_at rfl | exact row_at (sz_alloc _ _) | exact (row_at rfl).alloc _) hb5; obtain ⟨q0,q1,q2,q3⟩:=box3 r61; have hl61 := r61.lt; have ty61 := r61.ty; have hrow61 := fun a b c => row3 r61 rfl a b c))
          (try (have r70 := Row.below (g := w3.heap.size) (t := 37) (vs := [.int .i64 0,.int .i64 0,.int .i64 0,.int .i64 0,.bool false]) (by first | exact row_at rfl | exact row_at (sz_alloc _ _) | exact (row_at rfl).alloc _) hb5; obtain ⟨p0,p1,p2,p3,p4,p5⟩:=box5 r70; have hl70 := r70.lt; have ty70 := r70.ty))
          (try (have r71 := Row.below (g := w3.heap.size + 1) (t := 37) (vs := [.int .i64 0,.int .i64 0,.int .i64 0,.int .i64 0,.bool false]) (by first | exact row_at rfl | exact row_at (sz_alloc _ _) | exact (row_at rfl).alloc _) hb5; obtain ⟨p0,p1,p2,p3,p4,p5⟩:=box5 r71; have hl71 := r71.lt; have ty71 := r71.ty))
          (try (have n60:¬ w3.heap.size = w5.heap.size := (by omega); have n61:¬ w5.heap.size = w3.heap.size := (by omega)))))
    all_goals (go_wp2_with fail; go_meet)
    all_goals (
     refine ⟨rfl,_,A8,B8,b8,b9,rfl,?_,?_,?_,?_⟩
     ·repeat (first
       | (with_reducible exact hrow60 _ _ _)
       | (with_reducible exact hrow61 _ _ _)
       | (with_reducible refine row_new3 _ _ _ _ _ ?_)
       | (with_reducible refine Row.alloc ?_ _)
       | (with_reducible refine Row.other ?_ (by first | exact Nat.ne_of_lt (Nat.lt_succ_self _) | exact Nat.ne_of_gt (Nat.lt_succ_self _) | (simp <;> omega)) _))
      all_goals simp
     ·omega
     ·repeat (first
       | (with_reducible exact hT)
       | (with_reducible refine DgT.al ?_ _)
       | (with_reducible refine DgT.setT (t := 24) ?_ (by (repeat (first | (with_reducible refine Ty.set ?_ _ _) | (with_reducible refine Ty.alloc ?_ _))); with_reducible assumption) (by decide))
       | (with_reducible refine DgT.setT (t := 37) ?_ (by (repeat (first | (with_reducible refine Ty.set ?_ _ _) | (with_reducible refine Ty.alloc ?_ _))); with_reducible assumption) (by decide)))
     ·repeat (first
       | (with_reducible exact HB3.out)
       | (with_reducible refine BB.drew ?_)
       | (with_reducible refine BB.alloc ?_ _)
       | (with_reducible refine BB.set ?_ (by omega) _ _)
       | (with_reducible refine BB.below ?_ hb5)))
   case rest =>
    obtain ⟨rfl,g6,A8,B8,b8,b9,rfl,hr6,hg6,hT,hbb⟩:=hcut
    obtain ⟨w6,hw6⟩:∃ W,W = wc := ⟨_,rfl⟩
    rw [← hw6] at hr6 hT hbb ⊢
    have K6:=hide (K3.out.below hbb.b)
    have D6:=hide hr6
    have T6:=hide hT
    have V6:=hide (HV.out.keep hbb.b)
    have hw60:w.heap.size + 1 < w6.heap.size:=K6.out.res.lt
    have hg60:w.heap.size + 1 < g6:=by omega
    clear hw6 hr6 hT hbb e0 e1 e2 e3 c0 c1 c2 c3 c4 HALL HB3 AR D3 K3 HV
    obtain ⟨n0,hn0,hz0,hz1,hz2⟩:=info_parts moveInfo
    obtain ⟨g5',yk,yx,yy,ys,yo,e5',hgl',hz',c0,c1,c2,c3,c4⟩:=V6.out.at_ hN0
    injection e5' with e5'
    injection e5' with e5' _ _
    subst e5'
    rw [HL.out,HZ.out] at hz'
    obtain ⟨rfl,rfl,rfl,rfl,rfl⟩:zk = yk ∧ zx = yx ∧ zy = yy ∧ zs = ys ∧ zo = yo := by simpa using hz'
    simp only [Nat.zero_mul,Nat.zero_add] at c0 c1 c2 c3 c4
    obtain ⟨A7,c7,hs4⟩:=owns_slice K6.out.own
    subst hs4
    have K7:=hide (K6.out.alloc (.cells (Mv.cells ⟨zk,zx,zy,zs,zo⟩).toArray 37))
    have A1:∀ u ∈ Mv.cells ⟨zk,zx,zy,zs,zo⟩,u.oneCell' = true:=by simp [Mv.cells,Value.oneCell']
    have A2:l.length + 1 ≤ maxLen:=by unfold maxLen; omega
    have A3:(l.length + 1) * 40 ≤ 140737488355328:=by omega
    have A4:w.heap.size + 1 + 1 ≤ (w6.alloc (.cells (Mv.cells ⟨zk,zx,zy,zs,zo⟩).toArray 37)).heap.size:=by simp; omega
    have A6:=hide (five_news w6 w6.heap.size rfl ⟨zk,zx,zy,zs,zo⟩)
    clear hz' V6
    go_wp2_with (at_builtin; refine wpList_append_lies _ (by rfl) _ _ 27 (by rfl) (w.heap.size + 1 + 1) 37 n0 (.agg #[.int .i64 0,.int .i64 0,.int .i64 0,.int .i64 0,.bool false]) 5 40 Try.underlying27 hn0 hz0 hz1 hz2 rfl (by omega) _ l.length (mvs l) (by rfl) K7.out.own ⟨w6.heap.size,0,none⟩ 1 1 (Mv.cells ⟨zk,zx,zy,zs,zo⟩) (by rfl) (by rfl) A6.out A1 (by omega) A2 A3 A4 (w6.heap.size + 1) (by simp) ?_; intro g2 c2 w7 own2 grow2 at2 lt2; have OWN2 := hide own2; have AT7 := hide (K7.out.at_.grown grow2 (own_row_neM K7.out.own K7.out.at_ (by decide))); have RS7 := hide (K7.out.res.grown grow2 (own_row_neM K7.out.own K7.out.res (by decide))); have D7 := hide ((D6.out.alloc (.cells (Mv.cells ⟨zk,zx,zy,zs,zo⟩).toArray 37)).grown grow2 (own_row_neM K7.out.own (D6.out.alloc (.cells (Mv.cells ⟨zk,zx,zy,zs,zo⟩).toArray 37)) (by decide))); have T7 := hide ((T6.out.keep ((Below.refl _ _).alloc (Nat.le_refl _) (.cells (Mv.cells ⟨zk,zx,zy,zs,zo⟩).toArray 37))).grownM K7.out.own grow2); have B7 := hide (K7.out.bel.grown grow2 K7.out.bel.size (fun k hk => by have := (K7.out.own.lt k hk).1; omega)); clear own2 grow2 at2; obtain ⟨e0,e1,e2,e3⟩:=box3 AT7.out; obtain ⟨f0,f1,f2,f3⟩:=box3 D7.out)
    go_roundg r2.n
    case measure => have := HLT.out; have := HKG.out; omega
    case rel =>
     refine ⟨r2,l ++ [⟨zk,zx,zy,zs,zo⟩],A8,B8,N8,b8,M8,b9,L8,rfl,HV2.out,HD2.out,HMM2.out,HN8.out,HM8.out,HL8.out,row3 AT7.out rfl _ _ _,?_,.inl (T7.out.set3 AT7.out _ _ _),?_,HL2.out,below3 B7.out (Nat.le_refl _) _ _ _⟩
     ·exact ((RS7.out.other (by show _ ≠ w.heap.size; omega) _).other (by show _ ≠ w.heap.size; omega) _).other (by show _ ≠ w.heap.size; omega) _
     ·rw [mvs_app,List.length_append]
      exact ownsRow_setCell_below (ownsRow_setCell_below (ownsRow_setCell_below OWN2.out (by show w.heap.size < _; omega) _) (by show w.heap.size < _; omega) _) (by show w.heap.size < _; omega) _
set_option maxRecDepth 100000 in
set_option maxHeartbeats 8000000 in
theorem rDown_any (d:Pl.Dg) (hd:Pl.Valid d) (A B:Option Addr) (cp cq m:Nat) (w:World) (hm:m = 4 * d.n) (hg:DgAt w A B d) :
 Calls Try.prog 16 #[.agg #[.slice A d.n cp,.slice B m cq,.int .i64 d.lp]] w (DnPost A B d w) := by
 have HM:=hide hm
 have HG:=hide hg
 have hdn:=hd.wf.few
 have hdl:=hd.wf.lp
 have L0:=hide (DL.start (w := w) (A := A) (B := B) (c8 := cp) (c9 := cq) hd hm)
 clear hm hg
 obtain ⟨V,hV⟩:∃ V,V = (w.alloc (.cells #[.slice A d.n cp,.slice B m cq,.int .i64 (d.lp:Int)] 24)).alloc (.cells #[.slice none 0 0,.slice none 0 0,.int .i64 0] 24) := ⟨_,rfl⟩
 obtain ⟨d0,d1,d2,d3⟩:=box3 L0.out.at_
 have hsV:=L0.out.res.lt
 go_enter Try.func16,Try.ntmps16
 go_wp2_with fail
 rw [← hV] at L0 hsV ⊢
 clear hV d0 d1 d2 d3
 refine (rRemoving_n d hd A B d.n cp cq m d.lp _ rfl HM.out rfl (L0.out.dg HG.out)).mono ?_
 rintro e w1 ⟨v,rfl,⟨b,hb1,hb2,own⟩,hb⟩
 have K1:=hide (L0.out.below hb)
 have R1:=hide (show ∃ b,w.heap.size + 1 + 1 ≤ b ∧ b ≤ w1.heap.size ∧ w1.ownsRow b 37 5 v (remL d).length (mvs (remL d)) from ⟨b,by omega,hb2,own⟩)
 clear hb own hb1 hb2 L0
 go_wp2_with fail
 go_loopg [4,5] d.n (fun g s4 s5 wx => ∃ (r:Pl.Dg) (l:List Mv) (A9 B9:Option Addr) (n c8 m c9 lp:Nat),r.n = g ∧ DL w A B d r l s4 A9 B9 n c8 m c9 lp wx ∧ ∃ b,w.heap.size + 1 + 1 ≤ b ∧ b ≤ wx.heap.size ∧ wx.ownsRow b 37 5 s5 (remL r).length (mvs (remL r)))
 case atStart => exact ⟨_,_,_,_,_,_,_,_,_,rfl,K1.out,R1.out⟩
 case round =>
  clear K1 R1
  obtain ⟨r,l,A9,B9,n,c8,m,c9,lp,hrg,hl,b,hb1,hb2,own⟩:=hrel
  have HKG:=hide hrg
  have K3:=hide hl
  have OWL:=hide own
  have hln:=hl.len
  have hlp:=hl.val.wf.lp
  rw [← hl.hl] at hlp
  have hrn:=hl.val.wf.few
  rw [← hl.hn] at hrn
  have hlen:l.length ≤ 64:=by omega
  have lch:=remL_le hl.val.wf.few
  obtain ⟨A5,c5,hs5,hV⟩:=(show MovesAt wr _ (remL r) from ⟨b,own⟩).mv
  subst hs5
  obtain ⟨L,hL⟩:∃ L,L = remL r := ⟨_,rfl⟩
  rw [← hL] at hV lch OWL ⊢
  obtain ⟨N5,hN5⟩:∃ n,n = L.length := ⟨_,rfl⟩
  rw [← hN5] at hV lch OWL ⊢
  have HL:=hide hL
  have HN5:=hide hN5
  have HV:=hide hV
  have hw3:w.heap.size + 1 < wr.heap.size:=K3.out.res.lt
  clear hl hrg own hln hV hL hN5
  by_cases h0:N5 = 0
  ·have HE:=hide (show remL r = [] by rw [← HL.out]; exact List.eq_nil_of_length_eq_zero (by rw [← HN5.out]; exact h0))
   subst h0
   obtain ⟨e0,e1,e2,e3⟩:=box3 K3.out.at_
   obtain ⟨f0,f1,f2,f3⟩:=box3 K3.out.res
   obtain ⟨A7,c7,hs4⟩:=owns_slice K3.out.own
   subst hs4
   go_wp2
   have RR:=row3 K3.out.res rfl (.slice A9 n c8) (.slice B9 m c9) (.int .i64 (lp:Int))
   refine bodyPost_ret (v := .tuple #[.agg #[.slice A9 n c8,.slice B9 m c9,.int .i64 (lp:Int)],.slice A7 l.length c7]) ?_ rfl ?_
   ·obtain ⟨r0,r1,r2,r3⟩:=box3 RR
    simp [results,Try.results16,go_sem,r0,r1,r2]
   ·exact K3.out.post HE.out
  ·have hN0:0 < N5:=by omega
   have hN1:(0:Int) < (N5:Int):=by omega
   obtain ⟨g5,zk,zx,zy,zs,zo,rfl,hgl,hz,c0,c1,c2,c3,c4⟩:=HV.out.at_ hN0
   have HZ:=hide (show (remL r)[0]? = some ⟨zk,zx,zy,zs,zo⟩ by rw [← HL.out]; exact hz)
   have HIN:=hide (List.mem_of_getElem? HZ.out)
   have HOK:=hide (rem_ok HIN.out).1
   have HNX:=hide (DL.next K3.out.val K3.out.eqD K3.out.eqM K3.out.len HZ.out)
   simp only [Nat.zero_mul,Nat.zero_add] at c0 c1 c2 c3 c4
   obtain ⟨e0,e1,e2,e3⟩:=box3 K3.out.at_
   clear hz h0
   obtain ⟨r2,hr2⟩:∃ r2,r2 = apD r ⟨zk,zx,zy,zs,zo⟩:=⟨_,rfl⟩
   rw [← hr2] at HNX
   have HR2:=hide hr2
   obtain ⟨hv2,hd2,hm2,hl2,hlt2⟩:=HNX.out
   have HD2:=hide hd2
   have HMM2:=hide hm2
   have HL2:=hide hl2
   have HLT:=hide hlt2
   have HV2:=hide hv2
   have hr2n:=HV2.out.wf.few
   have hr2l:=HV2.out.wf.lp
   obtain ⟨N8,hN8⟩:∃ n,n = r2.n := ⟨_,rfl⟩
   obtain ⟨M8,hM8⟩:∃ n,n = 4 * r2.n := ⟨_,rfl⟩
   obtain ⟨L8,hL8⟩:∃ n,n = r2.lp := ⟨_,rfl⟩
   rw [← hN8] at hr2n
   rw [← hL8] at hr2l
   have HN8:=hide hN8
   have HM8:=hide hM8
   have HL8:=hide hL8
   have AR:=hide (fun (W:World) (hW:DgAt W A9 B9 r) => (rapply_rem r K3.out.val A9 B9 n c8 c9 m lp zk zx zy zs zo W K3.out.hn K3.out.hm K3.out.hl hW HIN.out).mono (R' := fun e w' => ∃ (A8 B8:Option Addr) (b8 b9:Nat) (k9 x9 y9 s9:Int) (o9:Bool),e = .returned (.tuple #[.agg #[.slice A8 N8 b8,.slice B8 M8 b9,.int .i64 (L8:Int)],.agg #[.int .i64 k9,.int .i64 x9,.int .i64 y9,.int .i64 s9,.bool o9],.int .i64 0]) ∧ DgT w' A8 B8 r2 ∧ Below W.heap.size W w') (fun e w' hres => by
    obtain ⟨A8,B8,b8,b9,k9,x9,y9,s9,o9,hmv,he,hT⟩:=(hres.2.1 HOK.out).split
    rw [← HR2.out] at he hT
    rw [← HM8.out,← HN8.out,← HL8.out] at he
    exact ⟨A8,B8,b8,b9,k9,x9,y9,s9,o9,he,hT,hres.2.2⟩))
   have D3:=hide (K3.out.dg HG.out)
   have K3':=hide (show DL w A B d r l _ A9 B9 n c8 m c9 lp wr.drew from K3.out.below (Below.refl _ _).drew)
   have OWL':=hide (show wr.drew.ownsRow b 37 5 (.slice (some ⟨g5,0,none⟩) N5 c5) N5 (mvs L) from OWL.out)
   clear hr2 hv2 hd2 hm2 hl2 hlt2 hN8 hM8 hL8 HNX
   obtain ⟨A7,c7,hs4⟩:=owns_slice K3.out.own
   subst hs4
   go_upto_region 4 with fail
   go_cut [11] from 12 to 19 (fun s11 wx => ∃ (A8 B8:Option Addr) (b8 b9:Nat),Row wx w.heap.size 24 [.slice A8 N8 b8,.slice B8 M8 b9,.int .i64 (L8:Int)] ∧ Row wx (w.heap.size + 1) 24 [.slice none 0 0,.slice none 0 0,.int .i64 0] ∧ DgT wx A8 B8 r2 ∧ wx.ownsRow (w.heap.size + 1 + 1) 37 5 (.slice A7 l.length c7) l.length (mvs l) ∧ wx.ownsRow b 37 5 (.slice (some ⟨g5,0,none⟩) N5 c5) N5 (mvs L) ∧ Below w.heap.size w wx)
   case first =>
    go_region_with (first
     | (go_at_call 43
        refine Calls.mono (AR.out _ ?_) ?_
        ·exact ⟨D3.out.s,D3.out.m⟩
        rintro e w5 ⟨A8,B8,b8,b9,k9,x9,y9,s9,o9,rfl,hT,hb5⟩
        have K5:=hide (K3'.out.below hb5)
        have OW5:=hide (own_below OWL'.out hb5)
        obtain ⟨f0,f1,f2,f3⟩:=box3 K5.out.at_))
    all_goals (go_wp2_with fail; go_meet)
    all_goals exact ⟨A8,B8,b8,b9,row3 K5.out.at_ rfl _ _ _,((K5.out.res.other (by show _ ≠ w.heap.size; omega) _).other (by show _ ≠ w.heap.size; omega) _).other (by show _ ≠ w.heap.size; omega) _,hT.set3 K5.out.at_ _ _ _,
     ownsRow_setCell_below (ownsRow_setCell_below (ownsRow_setCell_below K5.out.own (by show w.heap.size < _; omega) _) (by show w.heap.size < _; omega) _) (by show w.heap.size < _; omega) _,
     ownsRow_setCell_below (ownsRow_setCell_below (ownsRow_setCell_below OW5.out (by show w.heap.size < _; omega) _) (by show w.heap.size < _; omega) _) (by show w.heap.size < _; omega) _,
     below3 K5.out.bel (Nat.le_refl _) _ _ _⟩
   case rest =>
   obtain ⟨A8,B8,b8,b9,hat6,hrs6,ht6,how6,hll6,hb6⟩:=hcut
   obtain ⟨w6,hw6⟩:∃ W,W = wc := ⟨_,rfl⟩
   rw [← hw6] at hat6 hrs6 ht6 how6 hll6 hb6 ⊢
   have AT6:=hide hat6
   have RS6:=hide hrs6
   have T6:=hide ht6
   have OW6:=hide how6
   have LL6:=hide hll6
   have B6:=hide hb6
   have hs62:w.heap.size + 1 + 1 ≤ w6.heap.size:=by have := hrs6.lt; omega
   obtain ⟨n0,hn0,hz0,hz1,hz2⟩:=info_parts moveInfo
   clear hw6 hat6 hrs6 ht6 how6 hll6 hb6 e0 e1 e2 e3 K3 K3' OWL' OWL HV c0 c1 c2 c3 c4 hw3
   go_upto_region 5 with fail
   obtain ⟨A6',c6',e6',hV6⟩:=(show MovesAt w6 (.slice (some ⟨g5,0,none⟩) N5 c5) L from ⟨b,by rw [← HN5.out]; exact LL6.out⟩).mv
   injection e6' with e6' _ _
   subst e6'
   rw [← HN5.out] at hV6
   obtain ⟨g5',yk,yx,yy,ys,yo,e5',hgl',hz',c0,c1,c2,c3,c4⟩:=hV6.at_ hN0
   injection e5' with e5'
   injection e5' with e5' _ _
   subst e5'
   rw [HL.out,HZ.out] at hz'
   obtain ⟨rfl,rfl,rfl,rfl,rfl⟩:zk = yk ∧ zx = yx ∧ zy = yy ∧ zs = ys ∧ zo = yo := by simpa using hz'
   simp only [Nat.zero_mul,Nat.zero_add] at c0 c1 c2 c3 c4
   have K7:=hide (OW6.out.alloc (.cells (Mv.cells ⟨zk,zx,zy,zs,zo⟩).toArray 37))
   have A1:∀ u ∈ Mv.cells ⟨zk,zx,zy,zs,zo⟩,u.oneCell' = true:=by simp [Mv.cells,Value.oneCell']
   have A2:l.length + 1 ≤ maxLen:=by unfold maxLen; omega
   have A3:(l.length + 1) * 40 ≤ 140737488355328:=by omega
   have A4:w.heap.size + 1 + 1 ≤ (w6.alloc (.cells (Mv.cells ⟨zk,zx,zy,zs,zo⟩).toArray 37)).heap.size:=by simp; omega
   have A6:=hide (five_news w6 w6.heap.size rfl ⟨zk,zx,zy,zs,zo⟩)
   clear hz' hV6
   go_wp2_with (at_builtin; refine wpList_append_lies _ (by rfl) _ _ 27 (by rfl) (w.heap.size + 1 + 1) 37 n0 (.agg #[.int .i64 0,.int .i64 0,.int .i64 0,.int .i64 0,.bool false]) 5 40 Try.underlying27 hn0 hz0 hz1 hz2 rfl (by omega) _ l.length (mvs l) (by rfl) K7.out ⟨w6.heap.size,0,none⟩ 1 1 (Mv.cells ⟨zk,zx,zy,zs,zo⟩) (by rfl) (by rfl) A6.out A1 (by omega) A2 A3 A4 (w6.heap.size + 1) (by simp) ?_; intro g2 c2 w7 own2 grow2 at2 lt2; have OWN2 := hide own2; have AT7 := hide ((AT6.out.alloc (.cells (Mv.cells ⟨zk,zx,zy,zs,zo⟩).toArray 37)).grown grow2 (own_row_neM K7.out (AT6.out.alloc _) (by decide))); have RS7 := hide ((RS6.out.alloc (.cells (Mv.cells ⟨zk,zx,zy,zs,zo⟩).toArray 37)).grown grow2 (own_row_neM K7.out (RS6.out.alloc _) (by decide))); have T7 := hide ((T6.out.keep ((Below.refl _ _).alloc (Nat.le_refl _) (.cells (Mv.cells ⟨zk,zx,zy,zs,zo⟩).toArray 37))).grownM K7.out grow2); have B7 := hide ((B6.out.alloc B6.out.size (.cells (Mv.cells ⟨zk,zx,zy,zs,zo⟩).toArray 37)).grown grow2 (by simp; omega) (fun k hk => by have := (K7.out.lt k hk).1; omega)); clear own2 grow2 at2; obtain ⟨e0,e1,e2,e3⟩:=box3 AT7.out)
   have K8:=hide (show DL w A B d r2 (l ++ [⟨zk,zx,zy,zs,zo⟩]) (.slice (some ⟨g2,0,none⟩) (l.length + 1) c2) A8 B8 N8 b8 M8 b9 L8 w7 from
    ⟨HV2.out,HD2.out,HMM2.out,HN8.out,HM8.out,HL8.out,AT7.out,RS7.out,.inl T7.out,by rw [mvs_app,List.length_append]; exact OWN2.out,HL2.out,B7.out⟩)
   refine (rRemoving_n r2 HV2.out A8 B8 N8 b8 b9 M8 L8 _ HN8.out HM8.out HL8.out T7.out.at).mono ?_
   rintro e w8 ⟨v8,rfl,⟨b8',hb81,hb82,own8⟩,hb8⟩
   have K9:=hide (K8.out.below hb8)
   have hs7:=RS7.out.lt
   have R9:=hide (show ∃ b,w.heap.size + 1 + 1 ≤ b ∧ b ≤ w8.heap.size ∧ w8.ownsRow b 37 5 v8 (remL r2).length (mvs (remL r2)) from ⟨b8',by omega,hb82,own8⟩)
   clear hb8 own8 e0 e1 e2 e3 hb81 hb82
   go_wp2_with fail
   go_roundg r2.n
   case measure => have := HLT.out; have := HKG.out; omega
   case rel => exact ⟨r2,_,A8,B8,N8,b8,M8,b9,L8,rfl,K9.out,R9.out⟩
end Go.Proofs.Ytghdiolnonejaaa
end
section
namespace Go.Proofs.Ytghdiolnonejaaa
open Go Go.RowKit
attribute [local go_sem ↓] Go.wp_at_zero Go.wp_at_succ
theorem dn_valid {d:Pl.Dg} (hd:Pl.Valid d):Pl.Valid (dnD d) := by
 suffices h:∀ n,∀ d:Pl.Dg,Pl.Valid d → d.n ≤ n → Pl.Valid (dnD d) from h d.n d hd (Nat.le_refl _)
 intro n
 induction n with
 | zero =>
   intro d hd h0
   rw [(dn_stop (rem_flat (by omega))).1]; exact hd
 | succ n ih =>
   intro d hd hn
   cases hr:remL d with
   | nil => rw [(dn_stop hr).1]; exact hd
   | cons z l =>
     have hz:z ∈ remL d:=by rw [hr]; exact List.mem_cons_self
     have hl:=rem_less hd hz
     rw [(dn_next hd hr).1]
     exact ih _ (ap_ok hd (rem_ok hz).1).1 (by omega)
theorem dn_len {d:Pl.Dg} (hd:Pl.Valid d):(dnM d).length ≤ d.n := by
 suffices h:∀ n,∀ d:Pl.Dg,Pl.Valid d → d.n ≤ n → (dnM d).length ≤ d.n from h d.n d hd (Nat.le_refl _)
 intro n
 induction n with
 | zero =>
   intro d hd h0
   rw [(dn_stop (rem_flat (by omega))).2]; exact Nat.zero_le _
 | succ n ih =>
   intro d hd hn
   cases hr:remL d with
   | nil => rw [(dn_stop hr).2]; exact Nat.zero_le _
   | cons z l =>
     have hz:z ∈ remL d:=by rw [hr]; exact List.mem_cons_self
     have hl:=rem_less hd hz
     have h2:=ih _ (ap_ok hd (rem_ok hz).1).1 (by omega)
     rw [(dn_next hd hr).2,List.length_cons]
     omega
def DownPost (r:Pl.Dg) (l:List Mv) (w:World) (e:Ending) (w':World):Prop := ∃ (A9 B9:Option Addr) (c8 c9:Nat) (v:Value),e = .returned (.tuple #[.agg #[.slice A9 r.n c8,.slice B9 (4 * r.n) c9,.int .i64 r.lp],v,.int .i64 0]) ∧ DgAt w' A9 B9 r ∧ MovesIn w.heap.size w' v l ∧ Below w.heap.size w w'
theorem descend_n (d:Pl.Dg) (hd:Pl.Valid d) (A B:Option Addr) (n cp cq m lp:Nat) (w:World) (hn:n = d.n) (hl:lp = d.lp) (hm:m = 4 * d.n) (hg:DgAt w A B d) :
 Calls Try.prog 36 #[.agg #[.slice A n cp,.slice B m cq,.int .i64 (lp:Int)]] w (DnPost A B d w) := by
 subst hn
 subst hl
 exact descend_any d hd A B cp cq m w hm hg
set_option maxRecDepth 100000 in
set_option maxHeartbeats 4000000 in
theorem Down_any (d:Pl.Dg) (hd:Pl.Valid d) (A B:Option Addr) (cp cq m:Nat) (w:World) (hm:m = 4 * d.n) (hg:DgAt w A B d) :
 Calls Try.prog 12 #[.agg #[.slice A d.n cp,.slice B m cq,.int .i64 d.lp]] w (DownPost (dnD d) (dnM d) w) := by
 have HM:=hide hm
 have HG:=hide hg
 have hdn:=hd.wf.few
 clear hm hg
 have X0:=hide ((row_at (W := w) (g := w.heap.size) (t := 24) (vs := [.slice A d.n cp,.slice B m cq,.int .i64 (d.lp:Int)]) rfl).alloc (.cells #[.slice none 0 0,.slice none 0 0,.int .i64 0] 24))
 have S0:=hide (row_at (W := w.alloc (.cells #[.slice A d.n cp,.slice B m cq,.int .i64 (d.lp:Int)] 24)) (g := w.heap.size + 1) (t := 24) (vs := [.slice none 0 0,.slice none 0 0,.int .i64 0]) (by simp))
 have B0:=hide (show Below w.heap.size w ((w.alloc (.cells #[.slice A d.n cp,.slice B m cq,.int .i64 (d.lp:Int)] 24)).alloc (.cells #[.slice none 0 0,.slice none 0 0,.int .i64 0] 24)) from ((Below.refl _ _).alloc (Nat.le_refl _) _).alloc (by simp) _)
 go_enter Try.func12,Try.ntmps12
 go_wp2_with fail
 refine (valid_yes d hd A B cp cq m _ HM.out (HG.out.keep B0.out)).mono ?_
 rintro e w1 ⟨rfl,hb1⟩
 have X1:=hide (X0.out.below hb1)
 have S1:=hide (S0.out.below hb1)
 have B1:=hide (B0.out.trans (hb1.mono B0.out.size))
 clear hb1 X0 S0 B0
 obtain ⟨d0,d1,d2,d3⟩:=box3 X1.out
 go_wp2_with fail
 refine (clone_all d A B cp cq m _ HM.out (HG.out.keep B1.out) hdn).mono ?_
 rintro e w2 ⟨A9,B9,c8,c9,rfl,hT,hb2⟩
 have S2:=hide (S1.out.below hb2)
 have B2:=hide (B1.out.trans (hb2.mono B1.out.size))
 have HT:=hide hT
 clear hb2 X1 S1 B1 hT d0 d1 d2 d3
 go_wp2_with fail
 refine (descend_n d hd A9 B9 d.n c8 c9 m d.lp _ rfl rfl HM.out HT.out.at).mono ?_
 rintro e w3 ⟨A8,B8,b8,b9,v,rfl,hg8,hv8,hb3⟩
 have hs2:=S2.out.lt
 have hT8:DgT w3 A8 B8 (dnD d):=by
  rcases hg8 with h | ⟨h1,h2,h3⟩
  ·exact h
  ·rw [h1,h2,h3]; exact HT.out.keep hb3
 have hv:=dn_valid hd
 have hrn:=hv.wf.few
 have hrl:=hv.wf.lp
 obtain ⟨N8,hN8⟩:∃ n,n = (dnD d).n := ⟨_,rfl⟩
 obtain ⟨M8,hM8⟩:∃ n,n = 4 * (dnD d).n := ⟨_,rfl⟩
 obtain ⟨L8,hL8⟩:∃ n,n = (dnD d).lp := ⟨_,rfl⟩
 rw [← hM8,← hN8,← hL8]
 rw [← hN8] at hrn
 rw [← hL8] at hrl
 have HN8:=hide hN8
 have HM8:=hide hM8
 have HL8:=hide hL8
 have b4:=(Below.refl w3.heap.size w3).alloc (Nat.le_refl _) (.cells #[.slice A8 N8 b8,.slice B8 M8 b9,.int .i64 (L8:Int)] 24)
 have S3:=hide ((S2.out.below hb3).below b4)
 have R3:=hide (row_at (W := w3) (g := w3.heap.size) (t := 24) (vs := [.slice A8 N8 b8,.slice B8 M8 b9,.int .i64 (L8:Int)]) rfl)
 have T3:=hide hT8
 have B3:=hide (B2.out.trans (hb3.mono B2.out.size))
 obtain ⟨b,hb1,hb2,own⟩:=hv8
 obtain ⟨A7,c7,hs7⟩:=owns_slice own
 subst hs7
 have OW:=hide own
 have S3':=hide (S2.out.below hb3)
 have hw3:w.heap.size + 1 < w3.heap.size:=(S2.out.below hb3).lt
 have hw2:w.heap.size + 1 < b:=by omega
 clear hb3 own hg8 hT8 hN8 hM8 hL8 b4 HT S2 B2 hv
 obtain ⟨e0,e1,e2,e3⟩:=box3 R3.out
 obtain ⟨f0,f1,f2,f3⟩:=box3 S3'.out
 go_wp2
 have RR:=row3 S3'.out rfl (.slice A8 N8 b8) (.slice B8 M8 b9) (.int .i64 (L8:Int))
 have BB:=below3 B3.out (show w.heap.size ≤ w.heap.size + 1 by omega) (.slice A8 N8 b8) (.slice B8 M8 b9) (.int .i64 (L8:Int))
 have OO:=ownsRow_setCell_below (ownsRow_setCell_below (ownsRow_setCell_below OW.out (a := ⟨w.heap.size + 1,0,none⟩) (by show w.heap.size + 1 < _; omega) (.slice A8 N8 b8)) (a := ⟨w.heap.size + 1,1,none⟩) (by show w.heap.size + 1 < _; omega) (.slice B8 M8 b9)) (a := ⟨w.heap.size + 1,2,none⟩) (by show w.heap.size + 1 < _; omega) (.int .i64 (L8:Int))
 have TT:=T3.out.set3 S3'.out (.slice A8 N8 b8) (.slice B8 M8 b9) (.int .i64 (L8:Int))
 refine bodyPost_ret (v := .tuple #[.agg #[.slice A8 N8 b8,.slice B8 M8 b9,.int .i64 (L8:Int)],.slice A7 (dnM d).length c7,.int .i64 0]) ?_ rfl ?_
 ·obtain ⟨r0,r1,r2,r3⟩:=box3 (RR.alloc (.cells #[.slice A8 N8 b8,.slice B8 M8 b9,.int .i64 (L8:Int)] 24))
  simp [results,Try.results12,go_sem,r0,r1,r2]
 ·refine ⟨A8,B8,b8,b9,_,by rw [HN8.out,HM8.out,HL8.out],(TT.al _).at,⟨b,by omega,by simp; omega,OO.alloc _⟩,BB.alloc BB.size _⟩
set_option maxRecDepth 100000 in
set_option maxHeartbeats 4000000 in
theorem Down_bad (sg mt:List Int) (lp:Int) (A B:Option Addr) (n q cp cq:Nat) (w:World) (hs:IntsAt w A n sg) (hm:IntsAt w B q mt) (hn:n ≤ maxLen) (hq:q ≤ maxLen) (hlp:-9223372036854775808 ≤ lp ∧ lp ≤ 9223372036854775807) (hv:¬ Pl.VL sg mt lp) :
 Calls Try.prog 12 #[.agg #[.slice A n cp,.slice B q cq,.int .i64 lp]] w fun e w' => e = .returned (.tuple #[.agg #[.slice none 0 0,.slice none 0 0,.int .i64 0],.slice none 0 0,.int .i64 1]) ∧ Below w.heap.size w w' := by
 have HS:=hide hs
 have HM:=hide hm
 clear hs hm
 have S0:=hide (row_at (W := w.alloc (.cells #[.slice A n cp,.slice B q cq,.int .i64 lp] 24)) (g := w.heap.size + 1) (t := 24) (vs := [.slice none 0 0,.slice none 0 0,.int .i64 0]) (by simp))
 have B0:=hide (show Below w.heap.size w ((w.alloc (.cells #[.slice A n cp,.slice B q cq,.int .i64 lp] 24)).alloc (.cells #[.slice none 0 0,.slice none 0 0,.int .i64 0] 24)) from ((Below.refl _ _).alloc (Nat.le_refl _) _).alloc (by simp) _)
 go_enter Try.func12,Try.ntmps12
 go_wp2_with fail
 refine (valid_any sg mt lp A B n q cp cq _ (HS.out.keep B0.out) (HM.out.keep B0.out) hn hq hlp).mono ?_
 rintro e w1 ⟨rfl,hb1⟩
 rw [Pl.vb_false hv]
 have S1:=hide (S0.out.below hb1)
 have B1:=hide (B0.out.trans (hb1.mono B0.out.size))
 clear hb1 S0 B0
 obtain ⟨d0,d1,d2,d3⟩:=box3 S1.out
 go_wp2
 have RR:=row3 S1.out rfl (.slice none 0 0) (.slice none 0 0) (.int .i64 0)
 have BB:=below3 B1.out (show w.heap.size ≤ w.heap.size + 1 by omega) (.slice none 0 0) (.slice none 0 0) (.int .i64 0)
 refine bodyPost_ret (v := .tuple #[.agg #[.slice none 0 0,.slice none 0 0,.int .i64 0],.slice none 0 0,.int .i64 1]) ?_ rfl ?_
 ·obtain ⟨r0,r1,r2,r3⟩:=box3 RR
  simp [results,Try.results12,go_sem,r0,r1,r2]
 ·exact ⟨rfl,BB⟩
set_option maxRecDepth 100000 in
set_option maxHeartbeats 4000000 in
theorem Minimal_any (d:Pl.Dg) (hd:Pl.Valid d) (A B:Option Addr) (cp cq m:Nat) (w:World) (hm:m = 4 * d.n) (hg:DgAt w A B d) :
 Calls Try.prog 15 #[.agg #[.slice A d.n cp,.slice B m cq,.int .i64 d.lp]] w fun e w' => e = .returned (.bool (Pl.vb (remL d = []))) ∧ Below w.heap.size w w' := by
 have HM:=hide hm
 have HG:=hide hg
 have hdn:=hd.wf.few
 clear hm hg
 have X0:=hide (row_at (W := w) (g := w.heap.size) (t := 24) (vs := [.slice A d.n cp,.slice B m cq,.int .i64 (d.lp:Int)]) rfl)
 have B0:=hide (show Below w.heap.size w (w.alloc (.cells #[.slice A d.n cp,.slice B m cq,.int .i64 (d.lp:Int)] 24)) from (Below.refl _ _).alloc (Nat.le_refl _) _)
 go_enter Try.func15,Try.ntmps15
 go_wp2_with fail
 refine (valid_yes d hd A B cp cq m _ HM.out (HG.out.keep B0.out)).mono ?_
 rintro e w1 ⟨rfl,hb1⟩
 have X1:=hide (X0.out.below hb1)
 have B1:=hide (B0.out.trans (hb1.mono B0.out.size))
 clear hb1 X0 B0
 obtain ⟨d0,d1,d2,d3⟩:=box3 X1.out
 go_wp2_with fail
 refine (Removing_any d hd A B cp cq m _ HM.out (HG.out.keep B1.out)).mono ?_
 rintro e w2 ⟨v,rfl,hv,hb2⟩
 have B2:=hide (B1.out.trans (hb2.mono B1.out.size))
 obtain ⟨A5,c5,rfl,_⟩:=hv.at.mv
 have lch:=remL_le hd.wf.few
 obtain ⟨N5,hN5⟩:∃ n,n = (remL d).length := ⟨_,rfl⟩
 rw [← hN5] at lch ⊢
 have HN5:=hide hN5
 clear hN5 hb2 hv d0 d1 d2 d3
 by_cases h0:N5 = 0
 ·have E:=hide (show Pl.vb (remL d = []) = true from Pl.vb_true (List.eq_nil_of_length_eq_zero (by rw [← HN5.out]; exact h0)))
  subst h0
  go_wp2
  go_ret
  exact ⟨by rw [E.out]; rfl,B2.out⟩
 ·have E:=hide (show Pl.vb (remL d = []) = false from Pl.vb_false (fun h => h0 (by rw [HN5.out,h]; rfl)))
  have t0:((N5:Int) == 0) = false:=by rw [beq_eq_false_iff_ne]; omega
  clear h0
  go_wp2
  go_ret
  exact ⟨by rw [E.out]; rfl,B2.out⟩
set_option maxRecDepth 100000 in
set_option maxHeartbeats 4000000 in
theorem Minimal_bad (sg mt:List Int) (lp:Int) (A B:Option Addr) (n q cp cq:Nat) (w:World) (hs:IntsAt w A n sg) (hm:IntsAt w B q mt) (hn:n ≤ maxLen) (hq:q ≤ maxLen) (hlp:-9223372036854775808 ≤ lp ∧ lp ≤ 9223372036854775807) (hv:¬ Pl.VL sg mt lp) :
 Calls Try.prog 15 #[.agg #[.slice A n cp,.slice B q cq,.int .i64 lp]] w fun e w' => e = .returned (.bool false) ∧ Below w.heap.size w w' := by
 have HS:=hide hs
 have HM:=hide hm
 clear hs hm
 have B0:=hide (show Below w.heap.size w (w.alloc (.cells #[.slice A n cp,.slice B q cq,.int .i64 lp] 24)) from (Below.refl _ _).alloc (Nat.le_refl _) _)
 go_enter Try.func15,Try.ntmps15
 go_wp2_with fail
 refine (valid_any sg mt lp A B n q cp cq _ (HS.out.keep B0.out) (HM.out.keep B0.out) hn hq hlp).mono ?_
 rintro e w1 ⟨rfl,hb1⟩
 rw [Pl.vb_false hv]
 have B1:=hide (B0.out.trans (hb1.mono B0.out.size))
 clear hb1 B0
 go_wp2
 go_ret
 exact ⟨rfl,B1.out⟩
end Go.Proofs.Ytghdiolnonejaaa
end
section
namespace Go.Proofs.Ytghdiolnonejaaa
open Go Go.RowKit
attribute [local go_sem ↓] Go.wp_at_zero Go.wp_at_succ
set_option maxRecDepth 100000 in
set_option maxHeartbeats 4000000 in
theorem same10_moves (ms:List Mv) (A B:Option Addr) (n c c2:Nat) (w:World) (hA:MovesV w A n ms) (hB:MovesV w B n ms) (hn:n ≤ 1000000) :
 Calls Try.prog 18 #[.slice A n c,.slice B n c2] w fun e w' => e = .returned (.bool true) ∧ Below w.heap.size w w' := by
 have HA:=hide hA
 have HB:=hide hB
 clear hA hB
 go_enter Try.func18,Try.ntmps18
 go_wp2
 go_loopg [5] n (fun g i wx => ∃ k:Nat,k + g = n ∧ i = .int .i64 k ∧ Below w.heap.size w wx)
 case atStart => exact ⟨0,by omega,rfl,Below.refl _ _⟩
 case round =>
  obtain ⟨q,hkg,rfl,hb⟩:=hrel
  have HBW:=hide hb
  have HKG:=hide hkg
  clear hb
  by_cases hk:q < n
  ·have hki:(q:Int) < (n:Int):=by omega
   have k0:(0:Int) ≤ (q:Int):=by omega
   obtain ⟨ga,k,x,y,s,o,rfl,_,hz,a0,a1,a2,a3,a4⟩:=(HA.out.keep HBW.out).at_ hk
   obtain ⟨gb,k',x',y',s',o',rfl,_,hz',b0,b1,b2,b3,b4⟩:=(HB.out.keep HBW.out).at_ hk
   rw [hz] at hz'
   obtain ⟨rfl,rfl,rfl,rfl,rfl⟩:k = k' ∧ x = x' ∧ y = y' ∧ s = s' ∧ o = o' := by simpa using hz'
   clear hz hz' hkg
   go_upto_region 6 with fail
   go_quiet (fail)
   go_wp2
   go_roundg (gk - 1)
   case measure => have := HKG.out; omega
   case rel => exact ⟨q + 1,by have := HKG.out; omega,by go_num,below_drewN HBW.out _⟩
  ·have hki:¬ ((q:Int) < (n:Int)):=by omega
   clear hkg
   go_wp2
   go_ret
   exact ⟨rfl,HBW.out⟩
set_option maxHeartbeats 4000000 in
theorem few10_any (A B:Option Addr) (n q cp cq:Nat) (lp:Int) (w:World):Calls Try.prog 11 #[.agg #[.slice A n cp,.slice B q cq,.int .i64 lp]] w fun e w' => e = .returned (.bool (decide (n ≤ 9) && decide (q ≤ 45))) ∧ Below w.heap.size w w' := by
 have B0:=hide (show Below w.heap.size w (w.alloc (.cells #[.slice A n cp,.slice B q cq,.int .i64 lp] 24)) from (Below.refl _ _).alloc (Nat.le_refl _) _)
 by_cases h1:(n:Int) ≤ 9
 ·by_cases h2:(q:Int) ≤ 45
  ·have E:=hide (show (decide (n ≤ 9) && decide (q ≤ 45)) = true by rw [decide_eq_true (show n ≤ 9 by omega),decide_eq_true (show q ≤ 45 by omega)]; rfl)
   go_enter Try.func11,Try.ntmps11
   go_wp2
   go_ret
   exact ⟨by rw [E.out]; rfl,B0.out⟩
  ·have E:=hide (show (decide (n ≤ 9) && decide (q ≤ 45)) = false by rw [decide_eq_true (show n ≤ 9 by omega),decide_eq_false (show ¬ q ≤ 45 by omega)]; rfl)
   go_enter Try.func11,Try.ntmps11
   go_wp2
   go_ret
   exact ⟨by rw [E.out]; rfl,B0.out⟩
 ·have E:=hide (show (decide (n ≤ 9) && decide (q ≤ 45)) = false by rw [decide_eq_false (show ¬ n ≤ 9 by omega)]; rfl)
  go_enter Try.func11,Try.ntmps11
  go_wp2
  go_ret
  exact ⟨by rw [E.out]; rfl,B0.out⟩
theorem zero10_any (w:World):Calls Try.prog 14 #[.agg #[.slice none 0 0,.slice none 0 0,.int .i64 0]] w fun e w' => e = .returned (.bool true) ∧ Below w.heap.size w w' := by
 have B0:=hide (show Below w.heap.size w (w.alloc (.cells #[.slice none 0 0,.slice none 0 0,.int .i64 0] 24)) from (Below.refl _ _).alloc (Nat.le_refl _) _)
 go_enter Try.func14,Try.ntmps14
 go_wp2
 go_ret
 exact ⟨rfl,B0.out⟩
theorem tref_valid:Pl.Valid Pl.tref := Pl.tref_ok
set_option maxRecDepth 100000 in
set_option maxHeartbeats 4000000 in
theorem awake10 (w:World):Calls Try.prog 10 #[] w fun e w' => e = .returned (.bool true) ∧ Below w.heap.size w w' := by
 obtain ⟨W1,hW1⟩:∃ W:World,W = ((w.alloc (.cells #[.int .i64 1,.int .i64 (-1)] 3)).alloc (.cells #[.int .i64 6,.int .i64 5,.int .i64 4,.int .i64 7,.int .i64 2,.int .i64 1,.int .i64 0,.int .i64 3] 3)).alloc (.cells #[.slice (some ⟨w.heap.size,0,none⟩) 2 2,.slice (some ⟨w.heap.size + 1,0,none⟩) 8 8,.int .i64 0] 24) := ⟨_,rfl⟩
 have I1:=hide (show IRow W1 w.heap.size [1,-1] by rw [hW1]; exact ((row_at (vs := [.int .i64 1,.int .i64 (-1)]) rfl).alloc _).alloc _)
 have I2:=hide (show IRow W1 (w.heap.size + 1) [6,5,4,7,2,1,0,3] by rw [hW1]; exact (row_at (vs := [.int .i64 6,.int .i64 5,.int .i64 4,.int .i64 7,.int .i64 2,.int .i64 1,.int .i64 0,.int .i64 3]) (by simp)).alloc _)
 have R1:=hide (show Row W1 (w.heap.size + 1 + 1) 24 [.slice (some ⟨w.heap.size,0,none⟩) 2 2,.slice (some ⟨w.heap.size + 1,0,none⟩) 8 8,.int .i64 0] by rw [hW1]; exact row_at (vs := [_,_,_]) (by simp))
 have B1:=hide (show Below w.heap.size w W1 by rw [hW1]; exact (((Below.refl _ _).alloc (Nat.le_refl _) _).alloc (by simp) _).alloc (by simp; omega) _)
 have D1:=hide (show DgAt W1 (some ⟨w.heap.size,0,none⟩) (some ⟨w.heap.size + 1,0,none⟩) dgT from ⟨I1.out.ints,I2.out.ints⟩)
 have DN:=hide (fun (W:World) (h:DgAt W (some ⟨w.heap.size,0,none⟩) (some ⟨w.heap.size + 1,0,none⟩) dgT) => Down_any dgT dgT_valid _ _ 2 8 8 W rfl h)
 have MT:=hide (fun (W:World) (h:DgAt W (some ⟨w.heap.size,0,none⟩) (some ⟨w.heap.size + 1,0,none⟩) dgT) => Minimal_any dgT dgT_valid _ _ 2 8 8 W rfl h)
 go_enter Try.func10,Try.ntmps10
 go_wp2_with fail
 rw [← hW1]
 clear hW1
 refine (DN.out _ D1.out).mono ?_
 rintro e w2 ⟨A8,B8,b8,b9,v8,he,hg8,hv8,hb2⟩
 rw [dgT_dn.1] at he
 rw [dgT_dn.2] at hv8
 have he':e = .returned (.tuple #[.agg #[.slice A8 0 b8,.slice B8 0 b9,.int .i64 2],v8,.int .i64 0]):=he
 subst he'
 obtain ⟨M8,m8,rfl,hM8⟩:=hv8.at.mv
 have hM8':MovesV w2 M8 1 [⟨4,0,1,0,false⟩]:=hM8
 obtain ⟨g8,zk,zx,zy,zs,zo,rfl,hgl,hz,c0,c1,c2,c3,c4⟩:=hM8'.at_ (j := 0) (by omega)
 obtain ⟨rfl,rfl,rfl,rfl,rfl⟩:(4:Int) = zk ∧ (0:Int) = zx ∧ (1:Int) = zy ∧ (0:Int) = zs ∧ false = zo := by simpa using hz
 simp only [Nat.zero_mul,Nat.zero_add] at c0
 have C0:=hide c0
 have D2:=hide (D1.out.keep hb2)
 have R2:=hide (R1.out.below hb2)
 have B2:=hide (B1.out.trans (hb2.mono B1.out.size))
 have hgl2:=hgl
 have hl2:=R2.out.lt
 clear he hg8 hv8 hM8 hM8' hz c0 c1 c2 c3 c4 hb2 DN D1 R1 B1 I1 I2
 obtain ⟨n3,hn3⟩:∃ n,n = w2.heap.size := ⟨_,rfl⟩
 obtain ⟨W3,hW3⟩:∃ W:World,W = (((w2.alloc (.cells #[.slice A8 0 b8,.slice B8 0 b9,.int .i64 2] 24)).alloc (.cells #[.int .i64 1,.int .i64 1,.int .i64 1] 3)).alloc (.cells #[.int .i64 9,.int .i64 4,.int .i64 7,.int .i64 10,.int .i64 1,.int .i64 8,.int .i64 11,.int .i64 2,.int .i64 5,.int .i64 0,.int .i64 3,.int .i64 6] 3)).alloc (.cells #[.slice (some ⟨w2.heap.size + 1,0,none⟩) 3 3,.slice (some ⟨w2.heap.size + 1 + 1,0,none⟩) 12 12,.int .i64 0] 24) := ⟨_,rfl⟩
 have b3:=((((Below.refl w2.heap.size w2).alloc (Nat.le_refl _) (.cells #[.slice A8 0 b8,.slice B8 0 b9,.int .i64 2] 24)).alloc (by simp) (.cells #[.int .i64 1,.int .i64 1,.int .i64 1] 3)).alloc (by simp; omega) (.cells #[.int .i64 9,.int .i64 4,.int .i64 7,.int .i64 10,.int .i64 1,.int .i64 8,.int .i64 11,.int .i64 2,.int .i64 5,.int .i64 0,.int .i64 3,.int .i64 6] 3)).alloc (by simp; omega) (.cells #[.slice (some ⟨w2.heap.size + 1,0,none⟩) 3 3,.slice (some ⟨w2.heap.size + 1 + 1,0,none⟩) 12 12,.int .i64 0] 24)
 rw [← hW3] at b3
 have X3:=hide (show Row W3 w2.heap.size 24 [.slice A8 0 b8,.slice B8 0 b9,.int .i64 2] by rw [hW3]; exact (((row_at (vs := [_,_,_]) rfl).alloc _).alloc _).alloc _)
 have I3:=hide (show IRow W3 (w2.heap.size + 1) [1,1,1] by rw [hW3]; exact ((row_at (vs := [.int .i64 1,.int .i64 1,.int .i64 1]) (by simp)).alloc _).alloc _)
 have I4:=hide (show IRow W3 (w2.heap.size + 1 + 1) [9,4,7,10,1,8,11,2,5,0,3,6] by rw [hW3]; exact (row_at (vs := [.int .i64 9,.int .i64 4,.int .i64 7,.int .i64 10,.int .i64 1,.int .i64 8,.int .i64 11,.int .i64 2,.int .i64 5,.int .i64 0,.int .i64 3,.int .i64 6]) (by simp)).alloc _)
 have T3:=hide (show DgAt W3 (some ⟨w2.heap.size + 1,0,none⟩) (some ⟨w2.heap.size + 1 + 1,0,none⟩) Pl.tref from ⟨I3.out.ints,I4.out.ints⟩)
 have D3:=hide (D2.out.keep b3)
 have R3:=hide (R2.out.below b3)
 have C3:=hide (cell_below C0.out b3)
 have B3:=hide (B2.out.trans (b3.mono B2.out.size))
 have Y3:=hide (show Row W3 (w2.heap.size + 1 + 1 + 1) 24 [.slice (some ⟨w2.heap.size + 1,0,none⟩) 3 3,.slice (some ⟨w2.heap.size + 1 + 1,0,none⟩) 12 12,.int .i64 0] by rw [hW3]; exact row_at (vs := [_,_,_]) (by simp))
 have c0:=C3.out
 obtain ⟨d0,d1,d2,d3⟩:=box3 X3.out
 obtain ⟨e0,e1,e2,e3⟩:=box3 Y3.out
 obtain ⟨f0,f1,f2,f3⟩:=box3 R3.out
 have MR:=hide (fun (W:World) (h:DgAt W (some ⟨w2.heap.size + 1,0,none⟩) (some ⟨w2.heap.size + 1 + 1,0,none⟩) Pl.tref) => Minimal_any Pl.tref tref_valid _ _ 3 12 12 W rfl h)
 clear b3 hn3
 go_upto_region 4 with fail
 rw [← hW3]
 clear hW3
 go_wp2_with fail
 refine (MR.out _ T3.out).mono ?_
 rintro e w4 ⟨rfl,hb4⟩
 rw [Pl.vb_true tref_rem]
 have D4:=hide (D3.out.keep hb4)
 have R4:=hide (R3.out.below hb4)
 have B4:=hide (B3.out.trans (hb4.mono B3.out.size))
 clear hb4 c0 d0 d1 d2 d3 e0 e1 e2 e3 f0 f1 f2 f3
 obtain ⟨f0,f1,f2,f3⟩:=box3 R4.out
 go_wp2_with fail
 refine (MT.out _ D4.out).mono ?_
 rintro e w5 ⟨rfl,hb5⟩
 rw [Pl.vb_false (show ¬ remL dgT = [] by rw [dgT_rem]; exact List.cons_ne_nil _ _)]
 have B5:=hide (B4.out.trans (hb5.mono B4.out.size))
 clear hb5
 go_wp2
 go_ret
 exact ⟨rfl,B5.out⟩
set_option maxRecDepth 100000 in
set_option maxHeartbeats 8000000 in
theorem sdown_valid (d:Pl.Dg) (hd:Pl.Valid d) (A B:Option Addr) (cp cq m:Nat) (w:World) (hm:m = 4 * d.n) (hg:DgAt w A B d) :
 Calls Try.prog 3 #[.agg #[.slice A d.n cp,.slice B m cq,.int .i64 d.lp]] w fun e w' => e = .returned (.bool true) ∧ Below w.heap.size w w' := by
 have HM:=hide hm
 have HG:=hide hg
 have hn:=hd.wf.few
 have hlp:=hd.wf.lp
 clear hm hg
 have X0:=hide (row_at (W := w) (g := w.heap.size) (t := 24) (vs := [.slice A d.n cp,.slice B m cq,.int .i64 (d.lp:Int)]) rfl)
 have B0:=hide (show Below w.heap.size w (w.alloc (.cells #[.slice A d.n cp,.slice B m cq,.int .i64 (d.lp:Int)] 24)) from (Below.refl _ _).alloc (Nat.le_refl _) _)
 go_enter Try.func3,Try.ntmps3
 go_wp2_with fail
 refine (awake10 _).mono ?_
 rintro e w1 ⟨rfl,hb1⟩
 have Y0:=hide (X0.out.below hb1)
 have B1:=hide (B0.out.trans (hb1.mono B0.out.size))
 clear X0 B0 hb1
 obtain ⟨d0,d1,d2,d3⟩:=box3 Y0.out
 go_wp2_with fail
 refine (few10_any A B d.n m cp cq (d.lp:Int) w1).mono ?_
 rintro e w2 ⟨rfl,hb2⟩
 have Z0:=hide (Y0.out.below hb2)
 have B2:=hide (B1.out.trans (hb2.mono B1.out.size))
 clear Y0 B1 hb2 d0 d1 d2 d3
 obtain ⟨gb,hgb⟩:∃ b,b = (decide (d.n ≤ 9) && decide (m ≤ 45)) := ⟨_,rfl⟩
 rw [← hgb]
 clear hgb
 obtain ⟨d0,d1,d2,d3⟩:=box3 Z0.out
 cases gb with
 | false =>
   go_wp2_with fail
   refine (awake10 _).mono ?_
   rintro e w3 ⟨rfl,hb3⟩
   have B3:=hide (B2.out.trans (hb3.mono B2.out.size))
   clear hb3 d0 d1 d2 d3
   go_wp2
   go_ret
   exact ⟨rfl,B3.out⟩
 | true =>
   go_wp2_with fail
   refine (Down_any d hd A B cp cq m _ HM.out (HG.out.keep B2.out)).mono ?_
   rintro e w4 ⟨A4,B4,c4,c4',v4,rfl,hT4,hv4,hb4⟩
   have HV:=hide (dn_valid hd)
   obtain ⟨r,hr⟩:∃ r,r = dnD d := ⟨_,rfl⟩
   obtain ⟨ms,hms⟩:∃ ms,ms = dnM d := ⟨_,rfl⟩
   have hml:ms.length ≤ 64:=by have := dn_len hd; rw [hms]; omega
   rw [← hms] at hv4
   rw [← hr] at hT4 HV ⊢
   have HR:=hide hr
   have HMS:=hide hms
   clear hr hms
   obtain ⟨M4,e4,rfl,hs4⟩:=hv4.at.mv
   have hrn:=HV.out.wf.few
   have hrl:=HV.out.wf.lp
   obtain ⟨N8,hN8⟩:∃ n,n = r.n := ⟨_,rfl⟩
   obtain ⟨M8,hM8⟩:∃ n,n = 4 * r.n := ⟨_,rfl⟩
   obtain ⟨L8,hL8⟩:∃ n,n = r.lp := ⟨_,rfl⟩
   obtain ⟨K8,hK8⟩:∃ n,n = ms.length := ⟨_,rfl⟩
   have hs4':MovesV w4 M4 K8 ms:=by rw [hK8]; exact hs4
   have ts4:IntsAt w4 A4 N8 r.sg:=by rw [hN8]; exact hT4.s
   have tm4:IntsAt w4 B4 M8 (nats r.mt):=by rw [hM8]; exact hT4.m
   rw [← hM8,← hN8,← hL8,← hK8]
   rw [← hN8] at hrn
   rw [← hL8] at hrl
   rw [← hK8] at hml
   have HN8:=hide hN8
   have HM8:=hide hM8
   have HL8:=hide hL8
   have HK8:=hide hK8
   have b5:=(Below.refl w4.heap.size w4).alloc (Nat.le_refl _) (.cells #[.slice A4 N8 c4,.slice B4 M8 c4',.int .i64 (L8:Int)] 24)
   have G5:=hide (row_at (W := w4) (g := w4.heap.size) (t := 24) (vs := [.slice A4 N8 c4,.slice B4 M8 c4',.int .i64 (L8:Int)]) rfl)
   have TS5:=hide (ts4.keep b5)
   have TM5:=hide (tm4.keep b5)
   have V5:=hide (hs4'.keep b5)
   have Z5:=hide ((Z0.out.below hb4).below b5)
   have B5:=hide ((B2.out.trans (hb4.mono B2.out.size)).trans (b5.mono (B2.out.trans (hb4.mono B2.out.size)).size))
   clear hN8 hM8 hL8 hK8 hT4 hv4 hs4 hs4' ts4 tm4 hb4 b5 Z0 B2 d0 d1 d2 d3
   obtain ⟨d0,d1,d2,d3⟩:=box3 Z5.out
   go_wp2_with fail
   refine (r1valid_yes d hd A B cp cq m _ HM.out (HG.out.keep B5.out)).mono ?_
   rintro e w6 ⟨rfl,hb6⟩
   have G6:=hide (G5.out.below hb6)
   have Z6:=hide (Z5.out.below hb6)
   have TS6:=hide (TS5.out.keep hb6)
   have TM6:=hide (TM5.out.keep hb6)
   have V6:=hide (V5.out.keep hb6)
   have B6:=hide (B5.out.trans (hb6.mono B5.out.size))
   clear hb6 G5 Z5 B5 TS5 TM5 V5 d0 d1 d2 d3
   obtain ⟨d0,d1,d2,d3⟩:=box3 Z6.out
   go_wp2_with fail
   refine (rDown_any d hd A B cp cq m _ HM.out (HG.out.keep B6.out)).mono ?_
   rintro e w7 ⟨A7,B7,c7,c7',v7,rfl,hT7,hv7,hb7⟩
   have hD7:DgAt w7 A7 B7 (dnD d):=by
    rcases hT7 with h | ⟨h1,h2,h3⟩
    ·exact h.at
    ·rw [h1,h2,h3]; exact (HG.out.keep B6.out).keep hb7
   rw [← HMS.out] at hv7
   rw [← HR.out] at hD7 ⊢
   obtain ⟨M7,e7,rfl,hs7⟩:=hv7.at.mv
   rw [← HM8.out,← HN8.out,← HL8.out,← HK8.out]
   rw [← HK8.out] at hs7
   have ts7:IntsAt w7 A7 N8 r.sg:=by rw [HN8.out]; exact hD7.s
   have tm7:IntsAt w7 B7 M8 (nats r.mt):=by rw [HM8.out]; exact hD7.m
   have b8:=(Below.refl w7.heap.size w7).alloc (Nat.le_refl _) (.cells #[.slice A7 N8 c7,.slice B7 M8 c7',.int .i64 (L8:Int)] 24)
   have H8:=hide (row_at (W := w7) (g := w7.heap.size) (t := 24) (vs := [.slice A7 N8 c7,.slice B7 M8 c7',.int .i64 (L8:Int)]) rfl)
   have US8:=hide (ts7.keep b8)
   have UM8:=hide (tm7.keep b8)
   have W8:=hide (hs7.keep b8)
   have G8:=hide ((G6.out.below hb7).below b8)
   have Z8:=hide ((Z6.out.below hb7).below b8)
   have TS8:=hide ((TS6.out.keep hb7).keep b8)
   have TM8:=hide ((TM6.out.keep hb7).keep b8)
   have V8:=hide ((V6.out.keep hb7).keep b8)
   have B8:=hide ((B6.out.trans (hb7.mono B6.out.size)).trans (b8.mono (B6.out.trans (hb7.mono B6.out.size)).size))
   have HM82:=hide (show M8 = 4 * N8 by rw [HM8.out,HN8.out])
   clear hb7 b8 G6 TS6 TM6 V6 B6 Z6 ts7 tm7 hT7 hD7 hv7 hs7 d0 d1 d2 d3
   obtain ⟨d0,d1,d2,d3⟩:=box3 G8.out
   obtain ⟨e0,e1,e2,e3⟩:=box3 H8.out
   go_wp2_with fail
   refine (r1equal_eq r.sg (nats r.mt) L8 A4 B4 A7 B7 N8 M8 c4 c4' c7 c7' _ TS8.out TM8.out US8.out UM8.out (by omega) (by have := HM82.out; omega)).mono ?_
   rintro e w9 ⟨rfl,hb9⟩
   have V9:=hide (V8.out.keep hb9)
   have W9:=hide (W8.out.keep hb9)
   have Z9:=hide (Z8.out.below hb9)
   have B9:=hide (B8.out.trans (hb9.mono B8.out.size))
   clear hb9 V8 W8 B8 TS8 TM8 US8 UM8 G8 H8 Z8 d0 d1 d2 d3 e0 e1 e2 e3
   go_wp2_with fail
   refine (same10_moves ms M4 M7 K8 e4 e7 _ V9.out W9.out (by omega)).mono ?_
   rintro e w10 ⟨rfl,hb10⟩
   have B10:=hide (B9.out.trans (hb10.mono B9.out.size))
   have Z10:=hide (Z9.out.below hb10)
   clear hb10 B9 V9 W9 Z9
   obtain ⟨d0,d1,d2,d3⟩:=box3 Z10.out
   go_wp2_with fail
   refine (Minimal_any d hd A B cp cq m _ HM.out (HG.out.keep B10.out)).mono ?_
   rintro e w11 ⟨rfl,hb11⟩
   have B11:=hide (B10.out.trans (hb11.mono B10.out.size))
   have HQ:=hide (dnM_nil hd)
   clear hb11 B10 Z10 d0 d1 d2 d3
   by_cases h0:K8 = 0
   ·have E:=hide (Pl.vb_true (HQ.out.1 (by rw [← HMS.out]; exact List.eq_nil_of_length_eq_zero (by rw [← HK8.out]; exact h0))))
    rw [E.out]
    subst h0
    go_wp2
    go_ret
    exact ⟨rfl,B11.out⟩
   ·have E:=hide (Pl.vb_false (fun h => h0 (by rw [HK8.out,HMS.out,HQ.out.2 h]; rfl)))
    rw [E.out]
    have t0:((K8:Int) == 0) = false:=by rw [beq_eq_false_iff_ne]; omega
    clear h0
    go_wp2
    go_ret
    exact ⟨rfl,B11.out⟩
set_option maxRecDepth 100000 in
set_option maxHeartbeats 8000000 in
theorem sdown_bad (sg mt:List Int) (lp:Int) (A B:Option Addr) (n q cp cq:Nat) (w:World) (hs:IntsAt w A n sg) (hm:IntsAt w B q mt) (hn:n ≤ maxLen) (hq:q ≤ maxLen) (hlp:-9223372036854775808 ≤ lp ∧ lp ≤ 9223372036854775807) (hv:¬ Pl.VL sg mt lp) :
 Calls Try.prog 3 #[.agg #[.slice A n cp,.slice B q cq,.int .i64 lp]] w fun e w' => e = .returned (.bool true) ∧ Below w.heap.size w w' := by
 have HS:=hide hs
 have HM:=hide hm
 clear hs hm
 have X0:=hide (row_at (W := w) (g := w.heap.size) (t := 24) (vs := [.slice A n cp,.slice B q cq,.int .i64 lp]) rfl)
 have B0:=hide (show Below w.heap.size w (w.alloc (.cells #[.slice A n cp,.slice B q cq,.int .i64 lp] 24)) from (Below.refl _ _).alloc (Nat.le_refl _) _)
 go_enter Try.func3,Try.ntmps3
 go_wp2_with fail
 refine (awake10 _).mono ?_
 rintro e w1 ⟨rfl,hb1⟩
 have Y0:=hide (X0.out.below hb1)
 have B1:=hide (B0.out.trans (hb1.mono B0.out.size))
 clear X0 B0 hb1
 obtain ⟨d0,d1,d2,d3⟩:=box3 Y0.out
 go_wp2_with fail
 refine (few10_any A B n q cp cq lp w1).mono ?_
 rintro e w2 ⟨rfl,hb2⟩
 have Z0:=hide (Y0.out.below hb2)
 have B2:=hide (B1.out.trans (hb2.mono B1.out.size))
 clear Y0 B1 hb2 d0 d1 d2 d3
 obtain ⟨gb,hgb⟩:∃ b,b = (decide (n ≤ 9) && decide (q ≤ 45)) := ⟨_,rfl⟩
 rw [← hgb]
 clear hgb
 obtain ⟨d0,d1,d2,d3⟩:=box3 Z0.out
 cases gb with
 | false =>
   go_wp2_with fail
   refine (awake10 _).mono ?_
   rintro e w3 ⟨rfl,hb3⟩
   have B3:=hide (B2.out.trans (hb3.mono B2.out.size))
   clear hb3 d0 d1 d2 d3
   go_wp2
   go_ret
   exact ⟨rfl,B3.out⟩
 | true =>
   go_wp2_with fail
   refine (Down_bad sg mt lp A B n q cp cq _ (HS.out.keep B2.out) (HM.out.keep B2.out) hn hq hlp hv).mono ?_
   rintro e w4 ⟨rfl,hb4⟩
   have b5:=hb4.alloc hb4.size (.cells #[.slice none 0 0,.slice none 0 0,.int .i64 0] 24)
   have G5:=hide (row_at (W := w4) (g := w4.heap.size) (t := 24) (vs := [.slice none 0 0,.slice none 0 0,.int .i64 0]) rfl)
   have Z5:=hide (Z0.out.below b5)
   have B5:=hide (B2.out.trans (b5.mono B2.out.size))
   clear b5 hb4 Z0 B2 d0 d1 d2 d3
   obtain ⟨d0,d1,d2,d3⟩:=box3 Z5.out
   go_wp2_with fail
   refine (r1valid_any sg mt lp A B n q cp cq _ (HS.out.keep B5.out) (HM.out.keep B5.out) hn hq hlp).mono ?_
   rintro e w6 ⟨rfl,hb6⟩
   rw [Pl.vb_false hv]
   have G6:=hide (G5.out.below hb6)
   have Z6:=hide (Z5.out.below hb6)
   have B6:=hide (B5.out.trans (hb6.mono B5.out.size))
   clear hb6 G5 Z5 B5 d0 d1 d2 d3
   obtain ⟨e0,e1,e2,e3⟩:=box3 G6.out
   go_wp2_with fail
   refine (zero10_any _).mono ?_
   rintro e w7 ⟨rfl,hb7⟩
   have B7:=hide (B6.out.trans (hb7.mono B6.out.size))
   have Z7:=hide (Z6.out.below hb7)
   clear hb7 e0 e1 e2 e3 G6 B6 Z6
   obtain ⟨d0,d1,d2,d3⟩:=box3 Z7.out
   go_wp2_with fail
   refine (Minimal_bad sg mt lp A B n q cp cq _ (HS.out.keep B7.out) (HM.out.keep B7.out) hn hq hlp hv).mono ?_
   rintro e w8 ⟨rfl,hb8⟩
   have B8:=hide (B7.out.trans (hb8.mono B7.out.size))
   clear hb8 d0 d1 d2 d3 B7 Z7
   go_wp2
   go_ret
   exact ⟨rfl,B8.out⟩
theorem sdown_walk (sg mt:List Int) (lp:Int) (A B:Option Addr) (n q cp cq:Nat) (w:World) (hs:IntsAt w A n sg) (hm:IntsAt w B q mt) (hn:n ≤ maxLen) (hq:q ≤ maxLen) (hlp:-9223372036854775808 ≤ lp ∧ lp ≤ 9223372036854775807) :
 Calls Try.prog 3 #[.agg #[.slice A n cp,.slice B q cq,.int .i64 lp]] w fun e w' => e = .returned (.bool true) ∧ Below w.heap.size w w' := by
 by_cases hv:Pl.VL sg mt lp
 ·have hl:=hs.len
  have hl2:=hm.len
  have hl3:=hv.len
  have en:(Pl.mk sg mt lp).n = n:=hl
  have em:nats (Pl.mk sg mt lp).mt = mt:=Pl.nats_mk hv.2.1
  have el:((Pl.mk sg mt lp).lp:Int) = lp:=by show ((lp.toNat:Nat):Int) = lp; have := hv.2.2; omega
  have h:=sdown_valid (Pl.mk sg mt lp) hv.1 A B cp cq q w (by rw [en]; omega) ⟨by rw [en]; exact hs,by rw [en,em,show 4 * n = q by omega]; exact hm⟩
  rw [en,el] at h
  exact h
 ·exact sdown_bad sg mt lp A B n q cp cq w hs hm hn hq hlp hv
end Go.Proofs.Ytghdiolnonejaaa
end
