/-
  The texts Wg.
-/
import Derived.Test.YtdgliimmnnhhjaaGreatDoorU05
set_option linter.unusedVariables false
set_option linter.unusedSimpArgs false
section
namespace Go.Proofs.YtdgliimmnnhhjaaGreatDoor
open Go.RowKit
def nilD:Value := .agg #[.slice none 0 0,.slice none 0 0,.int .i64 0]
def nilM:Value := .agg #[.int .i64 0,.int .i64 0,.int .i64 0,.int .i64 0,.bool false]
def ResErr (k:Int)(e:Ending):Prop:=e = .returned (.tuple #[nilD,nilM,.int .i64 k])
structure DgT (w:World) (A:Option Addr) (B:Option Addr) (d:Pl.Dg):Prop where
 s:RowT w 3 A d.n (d.sg.map (.int .i64))
 m:RowT w 3 B (4 * d.n) ((nats d.mt).map (.int .i64))
theorem DgT.at {w:World}{A B:Option Addr}{d:Pl.Dg}(h:DgT w A B d):DgAt w A B d:=⟨h.s.row,h.m.row⟩
theorem DgT.keep {w w':World}{A B:Option Addr}{d:Pl.Dg}(h:DgT w A B d)(hb:Below w.heap.size w w'):DgT w' A B d:=⟨h.s.keep hb,h.m.keep hb⟩
theorem own_intsT {w:World}{base:Nat}{e:TypeId}{A:Option Addr}{n c:Nat}{zs:List Int}(h:w.ownsRow base e 1 (.slice A n c) n (zs.map (.int .i64))):RowT w e A n (zs.map (.int .i64)):=by
 have hl:=h.1
 refine ⟨by simpa using hl,fun hn=>?_⟩
 rcases h.2 with ⟨_,h2⟩ | ⟨g,cap,cur,h1,_,h3,_,_,_,h7⟩
 ·omega
 ·injection h1 with h1 _ _
  refine ⟨g,0,cur,(0,0),h1,h3,fun j u hu=>?_⟩
  rw [Nat.zero_add,←Array.getElem?_toList]
  have h9:=hu
  rw [←h7,List.getElem?_take] at h9
  split at h9
  ·exact h9
  ·exact absurd h9 (by simp)
theorem OwnN.intsT {w:World}{base g n c:Nat}{l:List Nat}(h:OwnN w base g n c l):RowT w 3 (some ⟨g,0,none⟩) n ((nats l).map (.int .i64)):=by
 refine own_intsT (base:=base) (e:=3) (c:=c) ?_
 unfold OwnN at h
 unfold nats
 rw [List.map_map]
 exact h
def ResOk (r:Pl.Dg)(mv:Mv)(e:Ending)(w':World):Prop :=
 ∃(A B:Option Addr) (c1 c2:Nat),e = .returned (.tuple #[.agg #[.slice A r.n c1,.slice B (4 * r.n) c2,.int .i64 r.lp],mv.v,.int .i64 0])∧DgT w' A B r
theorem fin8 {W:World}{gd gm:Nat}{vs us:List Value}(h1:Row W gd 24 vs)(h2:Row W gm 43 us)(l1:vs.length=3)(l2:us.length=5)(hne:gd≠gm)(y0 y1 y2 z0 z1 z2 z3 z4:Value) :
 ((((((((W.setCell ⟨gd,0,none⟩ y0).setCell ⟨gd,1,none⟩ y1).setCell ⟨gd,2,none⟩ y2).setCell ⟨gm,0,none⟩ z0).setCell ⟨gm,1,none⟩ z1).setCell ⟨gm,2,none⟩ z2).setCell ⟨gm,3,none⟩ z3).setCell ⟨gm,4,none⟩ z4).cell? ⟨gd,0,none⟩=some y0∧((((((((W.setCell ⟨gd,0,none⟩ y0).setCell ⟨gd,1,none⟩ y1).setCell ⟨gd,2,none⟩ y2).setCell ⟨gm,0,none⟩ z0).setCell ⟨gm,1,none⟩ z1).setCell ⟨gm,2,none⟩ z2).setCell ⟨gm,3,none⟩ z3).setCell ⟨gm,4,none⟩ z4).cell? ⟨gd,1,none⟩=some y1∧((((((((W.setCell ⟨gd,0,none⟩ y0).setCell ⟨gd,1,none⟩ y1).setCell ⟨gd,2,none⟩ y2).setCell ⟨gm,0,none⟩ z0).setCell ⟨gm,1,none⟩ z1).setCell ⟨gm,2,none⟩ z2).setCell ⟨gm,3,none⟩ z3).setCell ⟨gm,4,none⟩ z4).cell? ⟨gd,2,none⟩=some y2∧((((((((W.setCell ⟨gd,0,none⟩ y0).setCell ⟨gd,1,none⟩ y1).setCell ⟨gd,2,none⟩ y2).setCell ⟨gm,0,none⟩ z0).setCell ⟨gm,1,none⟩ z1).setCell ⟨gm,2,none⟩ z2).setCell ⟨gm,3,none⟩ z3).setCell ⟨gm,4,none⟩ z4).cell? ⟨gm,0,none⟩=some z0∧((((((((W.setCell ⟨gd,0,none⟩ y0).setCell ⟨gd,1,none⟩ y1).setCell ⟨gd,2,none⟩ y2).setCell ⟨gm,0,none⟩ z0).setCell ⟨gm,1,none⟩ z1).setCell ⟨gm,2,none⟩ z2).setCell ⟨gm,3,none⟩ z3).setCell ⟨gm,4,none⟩ z4).cell? ⟨gm,1,none⟩=some z1∧((((((((W.setCell ⟨gd,0,none⟩ y0).setCell ⟨gd,1,none⟩ y1).setCell ⟨gd,2,none⟩ y2).setCell ⟨gm,0,none⟩ z0).setCell ⟨gm,1,none⟩ z1).setCell ⟨gm,2,none⟩ z2).setCell ⟨gm,3,none⟩ z3).setCell ⟨gm,4,none⟩ z4).cell? ⟨gm,2,none⟩=some z2∧((((((((W.setCell ⟨gd,0,none⟩ y0).setCell ⟨gd,1,none⟩ y1).setCell ⟨gd,2,none⟩ y2).setCell ⟨gm,0,none⟩ z0).setCell ⟨gm,1,none⟩ z1).setCell ⟨gm,2,none⟩ z2).setCell ⟨gm,3,none⟩ z3).setCell ⟨gm,4,none⟩ z4).cell? ⟨gm,3,none⟩=some z3∧((((((((W.setCell ⟨gd,0,none⟩ y0).setCell ⟨gd,1,none⟩ y1).setCell ⟨gd,2,none⟩ y2).setCell ⟨gm,0,none⟩ z0).setCell ⟨gm,1,none⟩ z1).setCell ⟨gm,2,none⟩ z2).setCell ⟨gm,3,none⟩ z3).setCell ⟨gm,4,none⟩ z4).cell? ⟨gm,4,none⟩=some z4:=by
 obtain ⟨a,b,c,rfl⟩:∃a b c,vs=[a,b,c]:=by
  match vs,l1 with
  | [a,b,c],_=>exact ⟨a,b,c,rfl⟩
 obtain ⟨a',b',c',d',e',rfl⟩:∃a b c d e,us=[a,b,c,d,e]:=by
  match us,l2 with
  | [a,b,c,d,e],_=>exact ⟨a,b,c,d,e,rfl⟩
 have r1:=((((((((h1.set 0 y0).set 1 y1).set 2 y2).other (a:=⟨gm,0,none⟩) hne z0).other (a:=⟨gm,1,none⟩) hne z1).other (a:=⟨gm,2,none⟩) hne z2).other (a:=⟨gm,3,none⟩) hne z3).other (a:=⟨gm,4,none⟩) hne z4)
 have r2:=((((((((h2.other (a:=⟨gd,0,none⟩) (Ne.symm hne) y0).other (a:=⟨gd,1,none⟩) (Ne.symm hne) y1).other (a:=⟨gd,2,none⟩) (Ne.symm hne) y2).set 0 z0).set 1 z1).set 2 z2).set 3 z3).set 4 z4)
 exact ⟨r1.cell (i:=0) (by simp),r1.cell (i:=1) (by simp),r1.cell (i:=2) (by simp),r2.cell (i:=0) (by simp),r2.cell (i:=1) (by simp),r2.cell (i:=2) (by simp),r2.cell (i:=3) (by simp),r2.cell (i:=4) (by simp)⟩
theorem box3 {W:World}{g:Nat}{t:TypeId}{a b c:Value}(h:Row W g t [a,b,c]):W.cell? ⟨g,0,none⟩=some a∧W.cell? ⟨g,1,none⟩=some b∧W.cell? ⟨g,2,none⟩=some c∧∀o,W.frozen? ⟨g,o,none⟩=false :=
 ⟨h.cell (i:=0) (by simp),h.cell (i:=1) (by simp),h.cell (i:=2) (by simp),h.free⟩
theorem box5 {W:World}{g:Nat}{t:TypeId}{a b c d e:Value}(h:Row W g t [a,b,c,d,e]):W.cell? ⟨g,0,none⟩=some a∧W.cell? ⟨g,1,none⟩=some b∧W.cell? ⟨g,2,none⟩=some c∧W.cell? ⟨g,3,none⟩=some d∧W.cell? ⟨g,4,none⟩=some e∧∀o,W.frozen? ⟨g,o,none⟩=false :=
 ⟨h.cell (i:=0) (by simp),h.cell (i:=1) (by simp),h.cell (i:=2) (by simp),h.cell (i:=3) (by simp),h.cell (i:=4) (by simp),h.free⟩
theorem own_grown {w w':World}{base:Nat}{e:TypeId}{g g' n c:Nat}{xs:List Value}(h:w.ownsRow base e 1 (.slice (some ⟨g,0,none⟩) n c) n xs)(hg:w.grownBy w' (some g'))(hne:g≠g'):w'.ownsRow base e 1 (.slice (some ⟨g,0,none⟩) n c) n xs:=by
 refine ⟨h.1,?_⟩
 rcases h.2 with hz | ⟨k,cap,cur,r1,r2,r3,r4⟩
 ·exact .inl hz
 ·injection r1 with e1 e2 e3
  injection e1 with e1
  injection e1 with e1
  subst e1
  subst e3
  exact .inr ⟨g,c,cur,rfl,r2,(hg.block g (lt_of_heap r3) (by intro h;injection h;omega)).trans r3,r4⟩
theorem own_ints {w:World}{base:Nat}{e:TypeId}{g n c:Nat}{zs:List Int}(h:w.ownsRow base e 1 (.slice (some ⟨g,0,none⟩) n c) n (zs.map (.int .i64))):IntsAt w (some ⟨g,0,none⟩) n zs:=by
 have hl:=h.1
 refine ⟨by simpa using hl,fun _=>⟨g,0,rfl,fun j u hu=>?_⟩⟩
 rw [Nat.zero_add]
 have hj:j<n:=by
  have:=(List.getElem?_eq_some_iff.mp hu).1
  simp at this hl
  omega
 rw [World.ownsRow.cellAt h j (by simpa using hj)]
 exact hu
theorem OwnN.ints {w:World}{base g n c:Nat}{l:List Nat}(h:OwnN w base g n c l):IntsAt w (some ⟨g,0,none⟩) n (nats l):=by
 refine own_ints (base:=base) (e:=3) (c:=c) ?_
 unfold OwnN at h
 unfold nats
 rw [List.map_map]
 exact h
theorem Row.drew' {w W:World}{g:Nat}{t:TypeId}{vs:List Value}(e:W=w.drew)(h:Row w g t vs):Row W g t vs:=e ▸ h
theorem own_drew {w W:World}{base:Nat}{t:TypeId}{v:Value}{n:Nat}{xs:List Value}(e:W=w.drew)(h:w.ownsRow base t 1 v n xs):W.ownsRow base t 1 v n xs:=by subst e;exact h
theorem OwnN.drew' {w W:World}{base g n c:Nat}{l:List Nat}(e:W=w.drew)(h:OwnN w base g n c l):OwnN W base g n c l:=by subst e;exact h
def kI0 (n:Nat)(sg:Int)(ov:Bool):Nat:=if ov then (if sg = -1 then 4 * n+1 else 4 * n+3) else 4 * n
def kO0 (n:Nat)(sg:Int)(ov:Bool):Nat:=if ov then (if sg = -1 then 4 * n+3 else 4 * n+1) else 4 * n+2
def kI1 (n:Nat)(sg:Int)(ov:Bool):Nat:=if ov then 4 * n else (if sg = -1 then 4 * n+1 else 4 * n+3)
def kO1 (n:Nat)(sg:Int)(ov:Bool):Nat:=if ov then 4 * n+2 else (if sg = -1 then 4 * n+3 else 4 * n+1)
def crl (d:Pl.Dg)(x sg:Int)(ov:Bool):Pl.Dg where
 sg:=d.sg++[sg]
 mt:=if x<0 then jn (jn (d.mt++List.replicate 4 0) (kO0 d.n sg ov) (kI1 d.n sg ov)) (kO1 d.n sg ov) (kI0 d.n sg ov) else jn (jn (jn (d.mt++List.replicate 4 0) (kO0 d.n sg ov) (kI1 d.n sg ov)) (kO1 d.n sg ov) (d.m x.toNat)) x.toNat (kI0 d.n sg ov)
 lp:=if x<0 then d.lp - 1 else d.lp
theorem crl_n (d:Pl.Dg)(x sg:Int)(ov:Bool):(crl d x sg ov).n=d.n+1:=by unfold Pl.Dg.n crl;simp
def CurlPost (d:Pl.Dg)(x sg:Int)(ov:Bool)(w:World)(e:Ending)(w':World):Prop:=(curlableC d x≠0→ResErr (curlableC d x) e)∧(curlableC d x=0→ResOk (crl d x sg ov) ⟨2,d.n,0,0,false⟩ e w')∧Below w.heap.size w w'
theorem Row.cast {W W3:World}{g:Nat}{t:TypeId}{vs:List Value}(h:W3=W)(r:Row W g t vs):Row W3 g t vs:=h ▸ r
set_option maxRecDepth 100000 in
set_option maxHeartbeats 4000000 in
theorem curl_any (d:Pl.Dg)(hd:Pl.Wf d)(A B:Option Addr)(cp cq:Nat)(k x y sg:Int)(ov:Bool)(w:World)(hg:DgAt w A B d)(hx:-1≤x∧x<4 * d.n)(hsg:sg=1∨sg = -1) :
 Calls Tryz.prog 43 #[.agg #[.slice A d.n cp,.slice B (4 * d.n) cq,.int .i64 d.lp],.agg #[.int .i64 k,.int .i64 x,.int .i64 y,.int .i64 sg,.bool ov]] w (CurlPost d x sg ov w):=by
 have hn:=hd.few
 have hlp:=hd.lp
 obtain ⟨m,hm⟩:∃m,m=4 * d.n:=⟨_,rfl⟩
 have HG:=hide hg
 clear hg
 rw [←hm]
 have HM:=hide hm
 clear hm
 have b0:Below w.heap.size w ((((w.alloc (.cells #[.slice A d.n cp,.slice B m cq,.int .i64 d.lp] 24)).alloc (.cells #[.int .i64 k,.int .i64 x,.int .i64 y,.int .i64 sg,.bool ov] 43)).alloc (.cells #[.slice none 0 0,.slice none 0 0,.int .i64 0] 24)).alloc (.cells #[.int .i64 0,.int .i64 0,.int .i64 0,.int .i64 0,.bool false] 43)):=((((Below.refl _ _).alloc (Nat.le_refl _) _).alloc (by simp) _).alloc (by simp;omega) _).alloc (by simp;omega) _
 have x2:Row ((((w.alloc (.cells #[.slice A d.n cp,.slice B m cq,.int .i64 d.lp] 24)).alloc (.cells #[.int .i64 k,.int .i64 x,.int .i64 y,.int .i64 sg,.bool ov] 43)).alloc (.cells #[.slice none 0 0,.slice none 0 0,.int .i64 0] 24)).alloc (.cells #[.int .i64 0,.int .i64 0,.int .i64 0,.int .i64 0,.bool false] 43)) (w.heap.size+1+1) 24 [.slice none 0 0,.slice none 0 0,.int .i64 0]:=by
  have:=(Row.new ((w.alloc (.cells #[.slice A d.n cp,.slice B m cq,.int .i64 d.lp] 24)).alloc (.cells #[.int .i64 k,.int .i64 x,.int .i64 y,.int .i64 sg,.bool ov] 43)) 24 [.slice none 0 0,.slice none 0 0,.int .i64 0]).alloc (.cells #[.int .i64 0,.int .i64 0,.int .i64 0,.int .i64 0,.bool false] 43)
  simpa using this
 have x3:Row ((((w.alloc (.cells #[.slice A d.n cp,.slice B m cq,.int .i64 d.lp] 24)).alloc (.cells #[.int .i64 k,.int .i64 x,.int .i64 y,.int .i64 sg,.bool ov] 43)).alloc (.cells #[.slice none 0 0,.slice none 0 0,.int .i64 0] 24)).alloc (.cells #[.int .i64 0,.int .i64 0,.int .i64 0,.int .i64 0,.bool false] 43)) (w.heap.size+1+1+1) 43 [.int .i64 0,.int .i64 0,.int .i64 0,.int .i64 0,.bool false]:=by
  have:=Row.new (((w.alloc (.cells #[.slice A d.n cp,.slice B m cq,.int .i64 d.lp] 24)).alloc (.cells #[.int .i64 k,.int .i64 x,.int .i64 y,.int .i64 sg,.bool ov] 43)).alloc (.cells #[.slice none 0 0,.slice none 0 0,.int .i64 0] 24)) 43 [.int .i64 0,.int .i64 0,.int .i64 0,.int .i64 0,.bool false]
  simpa using this
 have X0:=hide (show Row ((((w.alloc (.cells #[.slice A d.n cp,.slice B m cq,.int .i64 d.lp] 24)).alloc (.cells #[.int .i64 k,.int .i64 x,.int .i64 y,.int .i64 sg,.bool ov] 43)).alloc (.cells #[.slice none 0 0,.slice none 0 0,.int .i64 0] 24)).alloc (.cells #[.int .i64 0,.int .i64 0,.int .i64 0,.int .i64 0,.bool false] 43)) w.heap.size 24 [.slice A d.n cp,.slice B m cq,.int .i64 d.lp] from (((Row.new w _ [.slice A d.n cp,.slice B m cq,.int .i64 d.lp]).alloc _).alloc _).alloc _)
 have X1:=hide (show Row ((((w.alloc (.cells #[.slice A d.n cp,.slice B m cq,.int .i64 d.lp] 24)).alloc (.cells #[.int .i64 k,.int .i64 x,.int .i64 y,.int .i64 sg,.bool ov] 43)).alloc (.cells #[.slice none 0 0,.slice none 0 0,.int .i64 0] 24)).alloc (.cells #[.int .i64 0,.int .i64 0,.int .i64 0,.int .i64 0,.bool false] 43)) (w.heap.size+1) 43 [.int .i64 k,.int .i64 x,.int .i64 y,.int .i64 sg,.bool ov] by
  have:=((Row.new (w.alloc (.cells #[.slice A d.n cp,.slice B m cq,.int .i64 d.lp] 24)) 43 [.int .i64 k,.int .i64 x,.int .i64 y,.int .i64 sg,.bool ov]).alloc (.cells #[.slice none 0 0,.slice none 0 0,.int .i64 0] 24)).alloc (.cells #[.int .i64 0,.int .i64 0,.int .i64 0,.int .i64 0,.bool false] 43)
  simpa using this)
 have X2:=hide x2
 have X3:=hide x3
 clear x2 x3
 go_enter Tryz.func43,Tryz.ntmps43
 go_wp2_with fail
 refine (curlable_m d A B cp cq m k x y sg ov _ HM.out (HG.out.keep b0) hn hlp hx).mono ?_
 rintro e w1 ⟨rfl,hb1⟩
 have b1:=b0.trans (hb1.mono b0.size)
 have Y0:=hide (X0.out.below hb1)
 have Y1:=hide (X1.out.below hb1)
 have Y2:=hide (X2.out.below hb1)
 have Y3:=hide (X3.out.below hb1)
 obtain ⟨hc,hf⟩:=bcell hb1
 have hsz:w.heap.size+3<w1.heap.size:=by have:=hb1.size;simp at this;omega
 have l1:w.heap.size<w1.heap.size:=by omega
 have l2:w.heap.size+1<w1.heap.size:=by omega
 have l3:w.heap.size+1+1<w1.heap.size:=by omega
 have l4:w.heap.size+1+1+1<w1.heap.size:=by omega
 by_cases hC:curlableC d x=0
 ·have t1:(curlableC d x != 0)=false:=by rw [bne_eq_false_iff_eq];exact hC
  have HC:=hide hC
  clear hC
  have b2:Below w.heap.size w (w1.alloc (.cells #[.int .i64 sg] 3)):=b1.alloc (by omega) _
  have HSS:=hide (show IntsAt (w1.alloc (.cells #[.int .i64 sg] 3)) (some ⟨w1.heap.size,0,none⟩) 1 [sg] by
   refine ⟨rfl,fun _=>⟨_,0,rfl,fun j u hu=>?_⟩⟩
   match j,hu with
   | 0,hu=>simp at hu;subst hu;exact (Lib.cell_of_heap (heap_alloc_new w1 _) 0).trans rfl)
  rcases hsg with rfl | rfl <;> cases ov
  all_goals
   go_wp2_with fail
   refine (grown_any d A B cp cq 1 1 w1.heap.size m 4 [_] _ HM.out (by omega) (HG.out.keep b2) HSS.out (by omega) (by omega) (by omega)).mono ?_
   rintro e w2 ⟨g1,c1,g2,c2,rfl,own1,own2,hne,hb2⟩
   have b3:=b2.trans (hb2.mono b2.size)
   have hsz2:w1.heap.size+1≤w2.heap.size:=by have:=hb2.size;simp at this;omega
   have k1:w.heap.size+1+1+1<w2.heap.size:=by omega
   obtain ⟨W3,hW3⟩:∃W3:World,W3=w2.alloc (.cells #[.slice (some ⟨g1,0,none⟩) (d.n+1) c1,.slice (some ⟨g2,0,none⟩) (m+4) c2,.int .i64 d.lp] 24):=⟨_,rfl⟩
   have Z0:=hide (show Row W3 w.heap.size 24 [.slice A d.n cp,.slice B m cq,.int .i64 d.lp] by rw [hW3];exact ((Y0.out.alloc _).below hb2).alloc _)
   have Z1:=hide (Row.cast hW3 (((Y1.out.alloc _).below hb2).alloc _))
   have T2:=hide (show Row W3 (w.heap.size+1+1) 24 [.slice none 0 0,.slice none 0 0,.int .i64 0] by rw [hW3];exact ((Y2.out.alloc _).below hb2).alloc _)
   have T3:=hide (show Row W3 (w.heap.size+1+1+1) 43 [.int .i64 0,.int .i64 0,.int .i64 0,.int .i64 0,.bool false] by rw [hW3];exact ((Y3.out.alloc _).below hb2).alloc _)
   have Z9:=hide (show Row W3 w2.heap.size 24 [.slice (some ⟨g1,0,none⟩) (d.n+1) c1,.slice (some ⟨g2,0,none⟩) (m+4) c2,.int .i64 d.lp] by rw [hW3];exact Row.new w2 _ _)
   have ZN:=hide (show OwnN W3 w1.heap.size g2 (m+4) c2 (d.mt++List.replicate 4 0) by rw [hW3];exact own_keep own2 ((Below.refl _ _).alloc (Nat.le_refl _) _) (by simp))
   obtain ⟨e0,e1,e2,e3,e4,e5⟩:=box5 (((Y1.out.alloc (.cells #[.int .i64 _] 3)).below hb2).alloc (.cells #[.slice (some ⟨g1,0,none⟩) (d.n+1) c1,.slice (some ⟨g2,0,none⟩) (m+4) c2,.int .i64 d.lp] 24))
   have T1:=hide (own_keep own1 ((Below.refl _ _).alloc (Nat.le_refl _) (.cells #[.slice (some ⟨g1,0,none⟩) (d.n+1) c1,.slice (some ⟨g2,0,none⟩) (m+4) c2,.int .i64 d.lp] 24)) (Nat.le_refl _))
   rw [←hW3] at T1
   obtain ⟨g2',eg2,lg2,ug2⟩:=owns_pos (by omega) own2
   injection eg2 with eg2
   injection eg2 with eg2 eg3
   subst eg2
   simp at lg2
   obtain ⟨g1',eg1,lg1,ug1⟩:=owns_pos (by omega) own1
   injection eg1 with eg1
   injection eg1 with eg1 eg4
   subst eg1
   simp at lg1
   clear own1 own2 t1 eg3 eg4
   go_wp2_with fail
   rw [←hW3]
   clear e0 e1 e2 e3 e4 e5
   refine (join_int w1.heap.size g2 (m+4) c2 _ _ (d.mt++List.replicate 4 0) W3 ZN.out (by have:=HM.out;omega) (by have:=HM.out;omega) (by have:=HM.out;omega)).mono ?_
   rintro e w4 ⟨rfl,own4,gr4⟩
   have V0:=hide (Z0.out.grown gr4 (by intro h;injection h;omega))
   have V1:=hide (Z1.out.grown gr4 (by intro h;injection h;omega))
   have V9:=hide (Z9.out.grown gr4 (by intro h;injection h;omega))
   have hs4:w2.heap.size+1≤w4.heap.size:=by have:=gr4.size;rw [hW3] at this;simpa using this
   have b33:Below w.heap.size w W3:=by rw [hW3];exact b3.alloc (by omega) _
   have b4:Below w.heap.size w w4:=b33.grown gr4 b33.size (fun k hk=>by injection hk with hk;omega)
   clear b33
   have HG4:=hide (HG.out.keep b4)
   have v1:w4.cell? ⟨w.heap.size+1,1,none⟩=some (.int .i64 x):=V1.out.cell (i:=1) (by show 1<5;omega)
   have OWN4:=hide own4
   have v9:w4.cell? ⟨w2.heap.size,1,none⟩=some (.slice (some ⟨g2,0,none⟩) (m+4) c2):=V9.out.cell (i:=1) (by show 1<3;omega)
   have v0:w4.cell? ⟨w.heap.size,1,none⟩=some (.slice B m cq):=V0.out.cell (i:=1) (by show 1<3;omega)
   clear own4
   by_cases hx0:x<0
   ·have t2:decide (x<0)=true:=by simpa using hx0
    go_wp2_with fail
    refine (join_int w1.heap.size g2 (m+4) c2 _ _ _ w4 OWN4.out (by have:=HM.out;omega) (by have:=HM.out;omega) (by have:=HM.out;omega)).mono ?_
    rintro e w5 ⟨rfl,own5,gr5⟩
    have U9:=hide (V9.out.grown gr5 (by intro h;injection h;omega))
    have hs5:=gr5.size
    have b5:Below w.heap.size w w5:=b4.grown gr5 b4.size (fun k hk=>by injection hk with hk;omega)
    have R2:=hide (show Row w5 (w.heap.size+1+1) 24 [.slice none 0 0,.slice none 0 0,.int .i64 0] from (T2.out.grown gr4 (by intro h;injection h;omega)).grown gr5 (by intro h;injection h;omega))
    have R3:=hide (show Row w5 (w.heap.size+1+1+1) 43 [.int .i64 0,.int .i64 0,.int .i64 0,.int .i64 0,.bool false] from (T3.out.grown gr4 (by intro h;injection h;omega)).grown gr5 (by intro h;injection h;omega))
    obtain ⟨q0,q1,q2,q3⟩:=box3 R2.out
    obtain ⟨p0,p1,p2,p3,p4,p5⟩:=box5 R3.out
    have u9:w5.cell? ⟨w2.heap.size,2,none⟩=some (.int .i64 d.lp):=U9.out.cell (i:=2) (by show 2<3;omega)
    have u90:w5.cell? ⟨w2.heap.size,0,none⟩=some (.slice (some ⟨g1,0,none⟩) (d.n+1) c1):=U9.out.cell (i:=0) (by show 0<3;omega)
    have u91:w5.cell? ⟨w2.heap.size,1,none⟩=some (.slice (some ⟨g2,0,none⟩) (m+4) c2):=U9.out.cell (i:=1) (by show 1<3;omega)
    have uf:w5.frozen? ⟨w2.heap.size,2,none⟩=false:=U9.out.free 2
    have OWN5:=hide own5
    have S5:=hide (own_grown (own_grown T1.out gr4 hne) gr5 hne)
    clear own5 gr4 gr5 v9 v0 v1
    go_wp2_with fail
    clear q0 q1 q2 q3 p0 p1 p2 p3 p4 p5
    refine bodyPost_ret (v := .tuple #[.agg #[.slice (some ⟨g1,0,none⟩) (d.n+1) c1,.slice (some ⟨g2,0,none⟩) (m+4) c2,.int .i64 ((d.lp:Int) - 1)],.agg #[.int .i64 2,.int .i64 d.n,.int .i64 0,.int .i64 0,.bool false],.int .i64 0]) ?_ rfl ?_
    ·obtain ⟨e0,e1,e2,e3,e4,e5,e6,e7⟩:=fin8 (R2.out.other (a:=⟨w2.heap.size,2,none⟩) (by show _≠w2.heap.size;omega) (.int .i64 ((d.lp:Int) - 1))) (R3.out.other (a:=⟨w2.heap.size,2,none⟩) (by show _≠w2.heap.size;omega) (.int .i64 ((d.lp:Int) - 1))) rfl rfl (by omega) (.slice (some ⟨g1,0,none⟩) (d.n+1) c1) (.slice (some ⟨g2,0,none⟩) (m+4) c2) (.int .i64 ((d.lp:Int) - 1)) (.int .i64 2) (.int .i64 d.n) (.int .i64 0) (.int .i64 0) (.bool false)
     simp [results,Tryz.results43,go_sem,e0,e1,e2,e3,e4,e5,e6,e7]
    ·have hl1 : 1 ≤ d.lp := by
      have:=HC.out
      unfold curlableC at this
      rw [if_pos hx0] at this
      by_cases h0:d.lp=0
      ·rw [if_pos h0] at this;omega
      ·omega
     have en:=crl_n d x
     have em:m+4=4 * (d.n+1):=by have:=HM.out;omega
     have el:((d.lp:Int) - 1)=((d.lp - 1:Nat):Int):=by omega
     have O5:=OWN5.out
     simp only [show (4 * (d.n:Int)).toNat=4 * d.n by omega,show (4 * (d.n:Int)+1).toNat=4 * d.n+1 by omega,show (4 * (d.n:Int)+2).toNat=4 * d.n+2 by omega,show (4 * (d.n:Int)+3).toNat=4 * d.n+3 by omega] at O5
     refine ⟨fun h=>absurd HC.out h,fun _=>⟨some ⟨g1,0,none⟩,some ⟨g2,0,none⟩,c1,c2,?_,?_,?_⟩,?_⟩
     ·rw [en,el,em]
      unfold crl Mv.v
      simp only [if_pos hx0]
     ·rw [en]
      refine own_intsT (base:=w1.heap.size+1) (e:=3) (c:=c1) ?_
      (iterate 9 refine own_set ?_ (by omega))
      have:=S5.out
      simp at this
      simpa [crl] using this
     ·rw [en,←em]
      refine OwnN.intsT (base:=w1.heap.size) (c:=c2) ?_
      unfold OwnN
      (iterate 9 refine own_set ?_ (by omega))
      unfold OwnN at O5
      unfold crl kI0 kI1 kO0 kO1
      simp only [if_pos hx0]
      first
       | exact O5
       | (simp;exact O5)
       | (simp at O5 ⊢;exact O5)
     ·exact (((((((((b5.setCell (by simp;omega) _).setCell (by simp;omega) _).setCell (by simp;omega) _).setCell (by simp;omega) _).setCell (by simp;omega) _).setCell (by simp;omega) _).setCell (by simp;omega) _).setCell (by simp;omega) _).setCell (by simp;omega) _)
   ·obtain ⟨q,rfl⟩:=Int.eq_ofNat_of_zero_le (show 0≤x by omega)
    have t2:decide ((q:Int)<0)=false:=by simp
    have hq:q<4 * d.n:=by omega
    obtain ⟨b,o,rfl,cm⟩:=mate_at HG4.out.m hq
    have hmn:d.m q<4 * d.n:=hd.lt q hq
    have hqm:q<m:=by have:=HM.out;omega
    have hqm2:(q:Int)<(m:Int):=by omega
    have hqm3:(0:Int)≤(q:Int):=by omega
    go_upto_region 17 with fail
    go_still_tail 9,(by kernel_rfl)
    change wpList _ _ _ _ _ w4.drew
    obtain ⟨W6,hW6⟩:∃W6:World,W6=w4.drew:=⟨_,rfl⟩
    rw [←hW6]
    have OWN6:=hide (OwnN.drew' hW6 OWN4.out)
    have S6:=hide (own_drew hW6 (own_grown T1.out gr4 hne))
    have R26:=hide (Row.drew' hW6 (T2.out.grown gr4 (by intro h;injection h;omega)))
    have R36:=hide (Row.drew' hW6 (T3.out.grown gr4 (by intro h;injection h;omega)))
    have V16:=hide (Row.drew' hW6 V1.out)
    have V96:=hide (Row.drew' hW6 V9.out)
    have b6:Below w.heap.size w W6:=by rw [hW6];exact b4.drew
    have hs6:w2.heap.size+1≤W6.heap.size:=by rw [hW6];exact hs4
    clear hW6
    clear gr4 v9 v0 v1 cm
    go_wp2_with fail
    refine (join_int w1.heap.size g2 (m+4) c2 _ _ _ W6 OWN6.out (by have:=HM.out;omega) (by have:=HM.out;omega) (by have:=HM.out;omega)).mono ?_
    rintro e w5 ⟨rfl,own5,gr5⟩
    have V15:=hide (V16.out.grown gr5 (by intro h;injection h;omega))
    have V95:=hide (V96.out.grown gr5 (by intro h;injection h;omega))
    have S5:=hide (own_grown S6.out gr5 hne)
    have R25:=hide (R26.out.grown gr5 (by intro h;injection h;omega))
    have R35:=hide (R36.out.grown gr5 (by intro h;injection h;omega))
    have b5:Below w.heap.size w w5:=b6.grown gr5 b6.size (fun k hk=>by injection hk with hk;omega)
    have hs5:=gr5.size
    have OWN5:=hide own5
    have v9:w5.cell? ⟨w2.heap.size,1,none⟩=some (.slice (some ⟨g2,0,none⟩) (m+4) c2):=V95.out.cell (i:=1) (by show 1<3;omega)
    have v1:w5.cell? ⟨w.heap.size+1,1,none⟩=some (.int .i64 (q:Int)):=V15.out.cell (i:=1) (by show 1<5;omega)
    clear own5 gr5
    go_wp2_with fail
    refine (join_int w1.heap.size g2 (m+4) c2 _ _ _ w5 OWN5.out (by have:=HM.out;omega) (by have:=HM.out;omega) (by have:=HM.out;omega)).mono ?_
    rintro e w7 ⟨rfl,own7,gr7⟩
    have S7:=hide (own_grown S5.out gr7 hne)
    have R2:=hide (show Row w7 (w.heap.size+1+1) 24 [.slice none 0 0,.slice none 0 0,.int .i64 0] from R25.out.grown gr7 (by intro h;injection h;omega))
    have R3:=hide (show Row w7 (w.heap.size+1+1+1) 43 [.int .i64 0,.int .i64 0,.int .i64 0,.int .i64 0,.bool false] from R35.out.grown gr7 (by intro h;injection h;omega))
    have b7:Below w.heap.size w w7:=b5.grown gr7 b5.size (fun k hk=>by injection hk with hk;omega)
    obtain ⟨q0,q1,q2,q3⟩:=box3 R2.out
    obtain ⟨p0,p1,p2,p3,p4,p5⟩:=box5 R3.out
    obtain ⟨u0,u1,u2,u3⟩:=box3 (V95.out.grown gr7 (by intro h;injection h;omega))
    have OWN7:=hide own7
    clear own7 gr7 v9 v1
    go_wp2_with fail
    clear q0 q1 q2 q3 p0 p1 p2 p3 p4 p5 u0 u1 u2 u3
    refine bodyPost_ret (v := .tuple #[.agg #[.slice (some ⟨g1,0,none⟩) (d.n+1) c1,.slice (some ⟨g2,0,none⟩) (m+4) c2,.int .i64 (d.lp:Int)],.agg #[.int .i64 2,.int .i64 d.n,.int .i64 0,.int .i64 0,.bool false],.int .i64 0]) ?_ rfl ?_
    ·obtain ⟨e0,e1,e2,e3,e4,e5,e6,e7⟩:=fin8 R2.out R3.out rfl rfl (by omega) (.slice (some ⟨g1,0,none⟩) (d.n+1) c1) (.slice (some ⟨g2,0,none⟩) (m+4) c2) (.int .i64 (d.lp:Int)) (.int .i64 2) (.int .i64 d.n) (.int .i64 0) (.int .i64 0) (.bool false)
     simp [results,Tryz.results43,go_sem,e0,e1,e2,e3,e4,e5,e6,e7]
    ·have en:=crl_n d (q:Int)
     have em:m+4=4 * (d.n+1):=by have:=HM.out;omega
     have O5:=OWN7.out
     simp only [Int.toNat_natCast,show (4 * (d.n:Int)).toNat=4 * d.n by omega,show (4 * (d.n:Int)+1).toNat=4 * d.n+1 by omega,show (4 * (d.n:Int)+2).toNat=4 * d.n+2 by omega,show (4 * (d.n:Int)+3).toNat=4 * d.n+3 by omega] at O5
     refine ⟨fun h=>absurd HC.out h,fun _=>⟨some ⟨g1,0,none⟩,some ⟨g2,0,none⟩,c1,c2,?_,?_,?_⟩,?_⟩
     ·rw [en,em]
      unfold crl Mv.v
      simp only [if_neg (show ¬((q:Int)<0) by omega)]
     ·rw [en]
      refine own_intsT (base:=w1.heap.size+1) (e:=3) (c:=c1) ?_
      (iterate 8 refine own_set ?_ (by omega))
      have:=S7.out
      simp at this
      simpa [crl] using this
     ·rw [en,←em]
      refine OwnN.intsT (base:=w1.heap.size) (c:=c2) ?_
      unfold OwnN
      (iterate 8 refine own_set ?_ (by omega))
      unfold OwnN at O5
      unfold crl kI0 kI1 kO0 kO1
      simp only [if_neg (show ¬((q:Int)<0) by omega),Int.toNat_natCast]
      first
       | exact O5
       | (simp;exact O5)
       | (simp at O5 ⊢;exact O5)
     ·exact ((((((((b7.setCell (by simp;omega) _).setCell (by simp;omega) _).setCell (by simp;omega) _).setCell (by simp;omega) _).setCell (by simp;omega) _).setCell (by simp;omega) _).setCell (by simp;omega) _).setCell (by simp;omega) _)
 ·have t1:(curlableC d x != 0)=true:=by rw [bne_iff_ne];exact hC
  go_wp2
  refine bodyPost_ret (v := .tuple #[nilD,nilM,.int .i64 (curlableC d x)]) ?_ rfl ?_
  rotate_left 1
  ·refine ⟨fun _=>(show ResErr _ _ from rfl),fun h=>absurd h hC,?_⟩
   exact (((((((b1.setCell (by simp;omega) _).setCell (by simp;omega) _).setCell (by simp;omega) _).setCell (by simp;omega) _).setCell (by simp;omega) _).setCell (by simp;omega) _).setCell (by simp;omega) _).setCell (by simp;omega) _
  ·obtain ⟨e0,e1,e2,e3,e4,e5,e6,e7⟩:=fin8 Y2.out Y3.out rfl rfl (by omega) (.slice none 0 0) (.slice none 0 0) (.int .i64 0) (.int .i64 0) (.int .i64 0) (.int .i64 0) (.int .i64 0) (.bool false)
   unfold nilD nilM
   simp [results,Tryz.results43,go_sem,e0,e1,e2,e3,e4,e5,e6,e7]
end Go.Proofs.YtdgliimmnnhhjaaGreatDoor
end
