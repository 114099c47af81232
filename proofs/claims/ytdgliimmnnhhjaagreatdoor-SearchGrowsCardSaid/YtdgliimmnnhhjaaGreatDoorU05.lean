/-
  The texts We.
-/
import Derived.Test.YtdgliimmnnhhjaaGreatDoorU02
set_option linter.unusedVariables false
set_option linter.unusedSimpArgs false
section
namespace Go.Proofs.YtdgliimmnnhhjaaGreatDoor
open Go.RowKit
attribute [local go_sem ↓] Go.wp_at_zero Go.wp_at_succ
structure GS (w:World) (g:Nat) (x0 x1 x2:Value) (W:World):Prop where
 row:∃vs,Row W g 24 [x0,x1,x2]∧Row W (g+1) 24 vs∧vs.length=3
 bel:Below w.heap.size w W
 lo:w.heap.size≤g
theorem GS.drew {w:World}{g:Nat}{x0 x1 x2:Value}{W:World}(h:GS w g x0 x1 x2 W):GS w g x0 x1 x2 W.drew:=⟨h.row,h.bel.drew,h.lo⟩
def cv (W:World)(a:Addr):Value:=(W.cell? a).getD (.bool false)
theorem cv_some {W:World}{a:Addr}{v:Value}(h:W.cell? a=some v):W.cell? a=some (cv W a):=by unfold cv;rw [h];rfl
theorem GS.alloc {w:World}{g:Nat}{x0 x1 x2:Value}{W:World}(h:GS w g x0 x1 x2 W)(o:Obj):GS w g x0 x1 x2 (W.alloc o) :=
 let ⟨vs,r1,r2,r3⟩:=h.row
 ⟨⟨vs,r1.alloc o,r2.alloc o,r3⟩,h.bel.alloc h.bel.size o,h.lo⟩
theorem GS.below {w:World}{g:Nat}{x0 x1 x2:Value}{W W':World}(h:GS w g x0 x1 x2 W)(hb:Below W.heap.size W W'):GS w g x0 x1 x2 W' :=
 let ⟨vs,r1,r2,r3⟩:=h.row
 ⟨⟨vs,r1.below hb,r2.below hb,r3⟩,h.bel.trans (hb.mono h.bel.size),h.lo⟩
theorem GS.set {w:World}{g:Nat}{x0 x1 x2:Value}{W:World}(h:GS w g x0 x1 x2 W)(o:Nat)(v:Value):GS w g x0 x1 x2 (W.setCell ⟨g+1,o,none⟩ v) :=
 let ⟨vs,r1,r2,r3⟩:=h.row
 ⟨⟨vs.set o v,r1.other (by simp) v,r2.set o v,by rw [List.length_set,r3]⟩,h.bel.setCell (by have:=h.lo;simp;omega) v,h.lo⟩
theorem GS.all {w:World}{g:Nat}{x0 x1 x2:Value}{W:World}(h:GS w g x0 x1 x2 W):W.cell? ⟨g,0,none⟩=some x0∧W.cell? ⟨g,1,none⟩=some x1∧W.cell? ⟨g,2,none⟩=some x2∧W.cell? ⟨g+1,0,none⟩=some (cv W ⟨g+1,0,none⟩)∧W.cell? ⟨g+1,1,none⟩=some (cv W ⟨g+1,1,none⟩)∧W.cell? ⟨g+1,2,none⟩=some (cv W ⟨g+1,2,none⟩)∧(∀o,W.frozen? ⟨g+1,o,none⟩=false)∧GS w g x0 x1 x2 W:=by
 obtain ⟨vs,r1,r2,r3⟩:=h.row
 exact ⟨r1.cell (i:=0) (by show 0<3;omega),r1.cell (i:=1) (by show 1<3;omega),r1.cell (i:=2) (by show 2<3;omega),cv_some (r2.cell (i:=0) (by omega)),cv_some (r2.cell (i:=1) (by omega)),cv_some (r2.cell (i:=2) (by omega)),fun o=>r2.free o,h⟩
theorem GS.fin {w:World}{g:Nat}{x0 x1 x2:Value}{W:World}(h:GS w g x0 x1 x2 W)(y0 y1 y2:Value) :
 (((W.setCell ⟨g+1,0,none⟩ y0).setCell ⟨g+1,1,none⟩ y1).setCell ⟨g+1,2,none⟩ y2).cell? ⟨g+1,0,none⟩=some y0∧(((W.setCell ⟨g+1,0,none⟩ y0).setCell ⟨g+1,1,none⟩ y1).setCell ⟨g+1,2,none⟩ y2).cell? ⟨g+1,1,none⟩=some y1∧(((W.setCell ⟨g+1,0,none⟩ y0).setCell ⟨g+1,1,none⟩ y1).setCell ⟨g+1,2,none⟩ y2).cell? ⟨g+1,2,none⟩=some y2:=by
 obtain ⟨vs,_,r2,r3⟩:=h.row
 have r:=((r2.set 0 y0).set 1 y1).set 2 y2
 obtain ⟨a,b,c,rfl⟩:∃a b c,vs=[a,b,c]:=by
  match vs,r3 with
  | [a,b,c],_=>exact ⟨a,b,c,rfl⟩
 exact ⟨r.cell (i:=0) (by simp),r.cell (i:=1) (by simp),r.cell (i:=2) (by simp)⟩
theorem GS.start (w:World)(x0 x1 x2 y0 y1 y2:Value):GS w w.heap.size x0 x1 x2 ((w.alloc (.cells #[x0,x1,x2] 24)).alloc (.cells #[y0,y1,y2] 24)):=by
 refine ⟨⟨[y0,y1,y2],Row.alloc (Row.new w _ [x0,x1,x2]) _,?_,rfl⟩,((Below.refl _ _).alloc (Nat.le_refl _) _).alloc (by simp) _,Nat.le_refl _⟩
 have:=Row.new (w.alloc (.cells #[x0,x1,x2] 24)) 24 [y0,y1,y2]
 simpa using this
theorem IntsAt.alloc {w:World}{A:Option Addr}{n:Nat}{zs:List Int}(h:IntsAt w A n zs)(o:Obj):IntsAt (w.alloc o) A n zs:=h.keep ((Below.refl _ _).alloc (Nat.le_refl _) o)
theorem IntsAt.drew {w:World}{A:Option Addr}{n:Nat}{zs:List Int}(h:IntsAt w A n zs):IntsAt w.drew A n zs:=h
theorem made_at {w:World}{g:Nat}(h:g=w.heap.size)(n:Nat):IntsAt (w.alloc (.cells (Array.replicate n (Value.int .i64 0)) 3)) (some ⟨g,0,none⟩) n (List.replicate n 0):=by
 subst h
 have:=(IRow.made w n).ints
 rw [List.length_replicate] at this
 exact this
theorem owns_pos {w:World}{base:Nat}{e:TypeId}{A:Option Addr}{n c:Nat}{xs:List Value}(hn:0<n)(h:w.ownsRow base e 1 (.slice A n c) n xs):∃g,A=some ⟨g,0,none⟩∧base≤g∧g<w.heap.size:=by
 rcases h.2 with ⟨_,h0⟩ | ⟨g,cap,cur,h1,h2,h3,_⟩
 ·omega
 ·injection h1 with h1
  exact ⟨g,h1,h2,lt_of_heap h3⟩
theorem own_keep {w w':World}{base base':Nat}{e:TypeId}{v:Value}{n:Nat}{xs:List Value}(h:w.ownsRow base e 1 v n xs)(hb:Below w.heap.size w w')(hle:base'≤base):w'.ownsRow base' e 1 v n xs:=by
 refine ⟨h.1,?_⟩
 rcases h.2 with hz | ⟨g,cap,cur,r1,r2,r3,r4⟩
 ·exact .inl hz
 ·exact .inr ⟨g,cap,cur,r1,Nat.le_trans hle r2,(hb.block g (lt_of_heap r3)).trans r3,r4⟩
theorem own_set {w:World}{base:Nat}{e:TypeId}{g n c b o:Nat}{v:Value}{xs:List Value}(h:w.ownsRow base e 1 (.slice (some ⟨g,0,none⟩) n c) n xs)(hne:g≠b):(w.setCell ⟨b,o,none⟩ v).ownsRow base e 1 (.slice (some ⟨g,0,none⟩) n c) n xs:=by
 refine ⟨h.1,?_⟩
 rcases h.2 with hz | ⟨g',cap,cur,r1,r2,r3,r4⟩
 ·exact .inl hz
 ·injection r1 with e1 e2 e3
  injection e1 with e1
  injection e1 with e1
  subst e1
  exact .inr ⟨g,cap,cur,by rw [e3],r2,(Below.heap_setCell w _ v g hne).trans r3,r4⟩
theorem nats_rep (l:List Nat)(k:Nat):(nats l++List.replicate k 0).map (Value.int .i64)=(l++List.replicate k 0).map (fun j:Nat=>Value.int .i64 j):=by
 unfold nats
 simp
set_option maxRecDepth 100000 in
set_option maxHeartbeats 8000000 in
theorem grown_any (d:Pl.Dg)(A B:Option Addr)(cp cq s cs h m m4:Nat)(ss:List Int)(w:World)(hm:m=4 * d.n)(hm4:m4=4 * s)(hg:DgAt w A B d)(hs:IntsAt w (some ⟨h,0,none⟩) s ss)(hn:d.n≤1000)(hs1:1≤s)(hs2:s≤10) :
 Calls Tryz.prog 70 #[.agg #[.slice A d.n cp,.slice B m cq,.int .i64 d.lp],.slice (some ⟨h,0,none⟩) s cs] w fun e w'=>∃g1 c1 g2 c2:Nat,e = .returned (.agg #[.slice (some ⟨g1,0,none⟩) (d.n+s) c1,.slice (some ⟨g2,0,none⟩) (m+m4) c2,.int .i64 d.lp]) ∧
  w'.ownsRow w.heap.size 3 1 (.slice (some ⟨g1,0,none⟩) (d.n+s) c1) (d.n+s) ((d.sg++ss).map (.int .i64))∧OwnN w' w.heap.size g2 (m+m4) c2 (d.mt++List.replicate m4 0)∧g1≠g2∧Below w.heap.size w w':=by
 have HS:=hide hg.s
 have HMT:=hide (show IntsAt w B m (nats d.mt) by rw [hm];exact hg.m)
 have HSS:=hide hs
 have HM:=hide hm
 have hmm:m≤4000:=by omega
 have hm44:m4≤40:=by omega
 have hmk:=fun W:World=>run_ints m4 (by omega) W
 have h44:4 * (s:Int)=(m4:Int):=by omega
 clear hm hm4 hg hs
 have HGS:=hide (GS.start w (.slice A d.n cp) (.slice B m cq) (.int .i64 d.lp) (.slice none 0 0) (.slice none 0 0) (.int .i64 0))
 go_enter Tryz.func70,Tryz.ntmps70
 go_wp2
 have hwr:IntKind.i64.wrap (m4:Int)=(m4:Int):=IntWalk.i64_in _ (by omega)
 go_region_held3 (fun w'=>w'.cell? ⟨w.heap.size,0,none⟩=some (.slice A d.n cp)∧w'.cell? ⟨w.heap.size,1,none⟩=some (.slice B m cq)∧w'.cell? ⟨w.heap.size,2,none⟩=some (.int .i64 d.lp)∧w'.cell? ⟨w.heap.size+1,0,none⟩=some (cv w' ⟨w.heap.size+1,0,none⟩)∧w'.cell? ⟨w.heap.size+1,1,none⟩=some (cv w' ⟨w.heap.size+1,1,none⟩)∧w'.cell? ⟨w.heap.size+1,2,none⟩=some (cv w' ⟨w.heap.size+1,2,none⟩)∧(∀o,w'.frozen? ⟨w.heap.size+1,o,none⟩=false)∧GS w w.heap.size (.slice A d.n cp) (.slice B m cq) (.int .i64 d.lp) w')
  ((go_split_ands;refine GS.all ?_;(repeat (first | assumption | (with_reducible exact HGS.out) | (with_reducible refine GS.set ?_ _ _) | (with_reducible refine GS.alloc ?_ _) | (with_reducible refine GS.drew ?_) | (with_reducible refine GS.below ?_ hba) | (with_reducible refine GS.below ?_ hbb)))))
  (first
    | (go_at_call 100
       refine Calls.mono (concat_ex d.n s _ d.sg ss _ (by omega) ?_ ?_) ?_
       ·refine ⟨A,cp,?_,HS.out.keep (GS.bel (g:=w.heap.size) (x0 := .slice A d.n cp) (x1 := .slice B m cq) (x2 := .int .i64 d.lp) ?_)⟩
        ·first | (go_simp;done) | ((with_reducible refine cell_below ?_ hbb);go_simp;done)
        ·repeat (first | assumption | (with_reducible exact HGS.out) | (with_reducible refine GS.set ?_ _ _) | (with_reducible refine GS.alloc ?_ _) | (with_reducible refine GS.drew ?_) | (with_reducible refine GS.below ?_ hba) | (with_reducible refine GS.below ?_ hbb))
       ·refine ⟨some ⟨h,0,none⟩,cs,?_,HSS.out.keep (GS.bel (g:=w.heap.size) (x0 := .slice A d.n cp) (x1 := .slice B m cq) (x2 := .int .i64 d.lp) ?_)⟩
        ·first | (go_simp;done) | ((with_reducible refine cell_below ?_ hbb);go_simp;done)
        ·repeat (first | assumption | (with_reducible exact HGS.out) | (with_reducible refine GS.set ?_ _ _) | (with_reducible refine GS.alloc ?_ _) | (with_reducible refine GS.drew ?_) | (with_reducible refine GS.below ?_ hba) | (with_reducible refine GS.below ?_ hbb))
       rintro e wa ⟨Aa,ca,rfl,owna,hba⟩)
    | (go_at_call 100
       refine Calls.mono (concat_ex m m4 _ (nats d.mt) (List.replicate m4 0) _ (by omega) ?_ ?_) ?_
       ·refine ⟨B,cq,?_,HMT.out.keep (GS.bel (g:=w.heap.size) (x0 := .slice A d.n cp) (x1 := .slice B m cq) (x2 := .int .i64 d.lp) ?_)⟩
        ·first | (go_simp;done) | ((with_reducible refine cell_below ?_ hba);go_simp;done)
        ·repeat (first | assumption | (with_reducible exact HGS.out) | (with_reducible refine GS.set ?_ _ _) | (with_reducible refine GS.alloc ?_ _) | (with_reducible refine GS.drew ?_) | (with_reducible refine GS.below ?_ hba) | (with_reducible refine GS.below ?_ hbb))
       ·refine ⟨?_,m4,?_,?_⟩
        rotate_left 1
        ·first | (go_simp;rfl) | ((with_reducible refine cell_below ?_ hba);go_simp;rfl)
        ·repeat (first | ((with_reducible refine made_at ?_ _);(simp;done)) | (with_reducible refine made_at rfl _) | (with_reducible refine IntsAt.drew ?_) | (with_reducible refine IntsAt.alloc ?_ _) | (with_reducible refine IntsAt.keep ?_ hba))
       rintro e wb ⟨Ab,cb,rfl,ownb,hbb⟩))
 all_goals
  obtain ⟨g1,rfl,b1,l1⟩:=owns_pos (by omega) owna
  obtain ⟨g2,rfl,b2,l2⟩:=owns_pos (by omega) ownb
  go_wp2
  refine bodyPost_ret (v := .agg #[.slice (some ⟨g1,0,none⟩) (d.n+s) ca,.slice (some ⟨g2,0,none⟩) (m+m4) cb,.int .i64 d.lp]) ?_ rfl ⟨g1,ca,g2,cb,rfl,?_,?_,?_,?_⟩
  ·first
    | (have hx : GS w w.heap.size (.slice A d.n cp) (.slice B m cq) (.int .i64 d.lp) wb := by
        repeat (first | assumption | (with_reducible exact HGS.out) | (with_reducible refine GS.set ?_ _ _) | (with_reducible refine GS.alloc ?_ _) | (with_reducible refine GS.drew ?_) | (with_reducible refine GS.below ?_ hba) | (with_reducible refine GS.below ?_ hbb))
       obtain ⟨e0,e1,e2⟩:=hx.fin (.slice (some ⟨g1,0,none⟩) (d.n+s) ca) (.slice (some ⟨g2,0,none⟩) (m+m4) cb) (.int .i64 d.lp)
       simp [results,Tryz.results70,go_sem,e0,e1,e2]
       done)
    | (have hx : GS w w.heap.size (.slice A d.n cp) (.slice B m cq) (.int .i64 d.lp) wa := by
        repeat (first | assumption | (with_reducible exact HGS.out) | (with_reducible refine GS.set ?_ _ _) | (with_reducible refine GS.alloc ?_ _) | (with_reducible refine GS.drew ?_) | (with_reducible refine GS.below ?_ hba) | (with_reducible refine GS.below ?_ hbb))
       obtain ⟨e0,e1,e2⟩:=hx.fin (.slice (some ⟨g1,0,none⟩) (d.n+s) ca) (.slice (some ⟨g2,0,none⟩) (m+m4) cb) (.int .i64 d.lp)
       simp [results,Tryz.results70,go_sem,e0,e1,e2]
       done)
  ·simp at b1 b2
   refine own_set (own_set (own_set ?_ (by omega)) (by omega)) (by omega)
   first
    | (refine own_keep owna (Below.refl _ _) ?_;first | omega | (simp;done) | (simp;omega))
    | (refine own_keep owna (Below.trans ?_ (hbb.mono ?_)) ?_;all_goals (repeat (first | exact Below.refl _ _ | (with_reducible refine Below.drew ?_) | (with_reducible refine Below.alloc ?_ ?_ _) | omega | (simp;done) | (simp;omega))))
  ·simp at b1 b2
   unfold OwnN
   rw [←nats_rep]
   refine own_set (own_set (own_set ?_ (by omega)) (by omega)) (by omega)
   first
    | (refine own_keep ownb (Below.refl _ _) ?_;first | omega | (simp;done) | (simp;omega))
    | (refine own_keep ownb (Below.trans ?_ (hba.mono ?_)) ?_;all_goals (repeat (first | exact Below.refl _ _ | (with_reducible refine Below.drew ?_) | (with_reducible refine Below.alloc ?_ ?_ _) | omega | (simp;done) | (simp;omega))))
  ·simp at b1 b2
   omega
  ·refine GS.bel (g:=w.heap.size) (x0 := .slice A d.n cp) (x1 := .slice B m cq) (x2 := .int .i64 d.lp) ?_
   repeat (first | assumption | (with_reducible exact HGS.out) | (with_reducible refine GS.set ?_ _ _) | (with_reducible refine GS.alloc ?_ _) | (with_reducible refine GS.drew ?_) | (with_reducible refine GS.below ?_ hba) | (with_reducible refine GS.below ?_ hbb))
end Go.Proofs.YtdgliimmnnhhjaaGreatDoor
end
