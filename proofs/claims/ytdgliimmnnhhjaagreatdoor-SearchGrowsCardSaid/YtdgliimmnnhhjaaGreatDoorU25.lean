/-
  The texts Xj.
-/
import Derived.Test.YtdgliimmnnhhjaaGreatDoorU16
import Derived.Test.YtdgliimmnnhhjaaGreatDoorU22
set_option linter.unusedVariables false
set_option linter.unusedSimpArgs false
section
namespace Go.Proofs.YtdgliimmnnhhjaaGreatDoor
open Go Go.RowKit
attribute [local go_sem ↓] Go.wp_at_zero Go.wp_at_succ
def sb (d:Pl.Dg)(h k:Nat):Nat:=Pl.tn (eo d (th d h k)) 2
def so (d:Pl.Dg)(h k:Nat):Nat:=eo d (th d h k)
def si (d:Pl.Dg)(h k:Nat):Nat:=ei d (th d h k)
def sf (d:Pl.Dg)(h k:Nat):Nat:=Pl.tn (ei d (th d h k)) 2
def sTo (d:Pl.Dg)(h:Nat):Nat→List Nat
 | 0=>List.range (4 * d.n)
 | k+1=>((sTo d h k).set (sb d h k) (si d h k)).set (sf d h k) (so d h k)
def sOu (d:Pl.Dg)(h:Nat):Nat→List Bool
 | 0=>List.replicate (4 * d.n) false
 | k+1=>((sOu d h k).set (sb d h k) true).set (sf d h k) true
def sM (d:Pl.Dg)(h:Nat):Nat→List Nat
 | 0=>d.mt
 | u+1=>if (sOu d h 3).getD u false=true then jn (sM d h u) ((sTo d h 3).getD u 0) ((sTo d h 3).getD (d.m u) 0) else sM d h u
def sF (d:Pl.Dg)(h:Nat):Nat→List Nat
 | 0=>sM d h (4 * d.n)
 | k+1=>jn (sF d h k) (sb d h k) (sf d h k)
def lnx (l:List Nat)(u:Nat):Nat:=Pl.tn (l.getD u 0) 3
def sC (d:Pl.Dg)(h u:Nat):Bool:=(sOu d h 3).getD u false && (sOu d h 3).getD (lnx (sF d h 3) u) false && (sOu d h 3).getD (lnx (sF d h 3) (lnx (sF d h 3) u)) false && lnx (sF d h 3) (lnx (sF d h 3) (lnx (sF d h 3) u)) == u
def sX (d:Pl.Dg)(h:Nat):Nat→Nat
 | 0=>0
 | g+1=>if sC d h (4 * d.n - (g+1)) then 4 * d.n - (g+1) else sX d h g
open Classical in
noncomputable def sldC (d:Pl.Dg)(h:Nat):Int:=if isT d h then 0 else 6
def sldD (d:Pl.Dg)(h:Nat):Pl.Dg:=⟨d.sg,sF d h 3,d.lp⟩
def sldI (d:Pl.Dg)(h:Nat):Mv:=⟨5,sX d h (4 * d.n),0,0,false⟩
theorem tri_v (d:Pl.Dg)(hd:Pl.Wf d)(A B:Option Addr)(cp cq m h:Nat)(w:World)(hm:m=4 * d.n)(hg:DgAt w A B d)(hh:h<4 * d.n) :
 Calls Tryz.prog 85 #[.agg #[.slice A d.n cp,.slice B m cq,.int .i64 d.lp],.int .i64 (h:Int)] w fun e w'=>∃b0 o0 i0 f0 b1 o1 i1 f1 b2 o2 i2 f2:Nat,
  e = .returned (.tuple #[.agg #[.int .i64 (b0:Int),.int .i64 (o0:Int),.int .i64 (i0:Int),.int .i64 (f0:Int),.int .i64 (b1:Int),.int .i64 (o1:Int),.int .i64 (i1:Int),.int .i64 (f1:Int),.int .i64 (b2:Int),.int .i64 (o2:Int),.int .i64 (i2:Int),.int .i64 (f2:Int)],.bool (Pl.vb (isT d h))]) ∧
  (isT d h→b0=sb d h 0∧o0=so d h 0∧i0=si d h 0∧f0=sf d h 0∧b1=sb d h 1∧o1=so d h 1∧i1=si d h 1∧f1=sf d h 1∧b2=sb d h 2∧o2=so d h 2∧i2=si d h 2∧f2=sf d h 2)∧Below w.heap.size w w':=by
 refine (triangle_any d hd A B cp cq m h w hm hg hh).mono ?_
 rintro e w' ⟨h1,h2,hb⟩
 by_cases h3:is3 d h
 ·exact ⟨_,_,_,_,_,_,_,_,_,_,_,_,h1 h3,fun _=>⟨rfl,rfl,rfl,rfl,rfl,rfl,rfl,rfl,rfl,rfl,rfl,rfl⟩,hb⟩
 ·refine ⟨0,0,0,0,0,0,0,0,0,0,0,0,?_,fun h=>absurd h.1 h3,hb⟩
  rw [h2 h3,Pl.vb_false (fun h=>h3 h.1)]
  rfl
theorem cl1 (A:Option Addr)(n c:Nat)(xs:List Int)(w:World)(hx:IntsAt w A n xs)(hn:0<n∧n≤1000) :
 Calls Tryz.prog 91 #[.slice A n c] w fun e w'=>∃g c':Nat,e = .returned (.slice (some ⟨g,0,none⟩) n c')∧w'.ownsRow w.heap.size 3 1 (.slice (some ⟨g,0,none⟩) n c') n (xs.map (.int .i64))∧Below w.heap.size w w':=by
 have hl:=hx.len
 obtain ⟨b,o,rfl,_⟩:=hx.at_ (k:=0) hn.1
 refine (Tryz.slices_Clone_int b o n c xs w (by omega) (by omega) (fun j hj=>?_)).mono ?_
 ·obtain ⟨b',o',e,hc⟩:=hx.at_ (k:=j) (by omega)
  injection e with e
  injection e with e1 e2
  subst e1
  subst e2
  exact hc
 ·rintro e w' ⟨v,rfl,own,_,hb⟩
  rw [List.take_of_length_le (by omega)] at own
  obtain ⟨A',c',rfl⟩:=owns_slice own
  obtain ⟨g,rfl,_,_⟩:=owns_pos hn.1 own
  exact ⟨g,c',rfl,own,hb⟩
set_option maxRecDepth 100000 in
set_option maxHeartbeats 2000000 in
theorem clone_any (d:Pl.Dg)(A B:Option Addr)(cp cq m:Nat)(w:World)(hm:m=4 * d.n)(hg:DgAt w A B d)(hn:0<d.n∧d.n≤64) :
 Calls Tryz.prog 58 #[.agg #[.slice A d.n cp,.slice B m cq,.int .i64 d.lp]] w fun e w'=>∃g1 c1 g2 c2:Nat,e = .returned (.agg #[.slice (some ⟨g1,0,none⟩) d.n c1,.slice (some ⟨g2,0,none⟩) m c2,.int .i64 d.lp]) ∧
  w'.ownsRow w.heap.size 3 1 (.slice (some ⟨g1,0,none⟩) d.n c1) d.n (d.sg.map (.int .i64))∧OwnN w' w.heap.size g2 m c2 d.mt∧g1≠g2∧Below w.heap.size w w':=by
 have HG:=hide hg
 have HGM:=hide (show IntsAt w B m (nats d.mt) by rw [hm];exact hg.m)
 have hm0:0<m∧m≤1000:=by omega
 have hnn:0<d.n∧d.n≤1000:=by omega
 clear hm hg
 have HGS:=hide (GS.start w (.slice A d.n cp) (.slice B m cq) (.int .i64 d.lp) (.slice none 0 0) (.slice none 0 0) (.int .i64 0))
 go_enter Tryz.func58,Tryz.ntmps58
 go_wp2_with fail
 obtain ⟨V0,hV0⟩:∃V:World,V=(w.alloc (.cells #[.slice A d.n cp,.slice B m cq,.int .i64 d.lp] 24)).alloc (.cells #[.slice none 0 0,.slice none 0 0,.int .i64 0] 24):=⟨_,rfl⟩
 rw [←hV0] at HGS ⊢
 have hv0:w.heap.size+2≤V0.heap.size:=by rw [hV0];simp
 clear hV0
 obtain ⟨c0,c1,c2,c3,c4,c5,c6,_⟩:=HGS.out.all
 go_region_held3 (fun w'=>w'.cell? ⟨w.heap.size,0,none⟩=some (.slice A d.n cp)∧w'.cell? ⟨w.heap.size,1,none⟩=some (.slice B m cq)∧w'.cell? ⟨w.heap.size,2,none⟩=some (.int .i64 d.lp)∧w'.cell? ⟨w.heap.size+1,0,none⟩=some (cv w' ⟨w.heap.size+1,0,none⟩)∧w'.cell? ⟨w.heap.size+1,1,none⟩=some (cv w' ⟨w.heap.size+1,1,none⟩)∧w'.cell? ⟨w.heap.size+1,2,none⟩=some (cv w' ⟨w.heap.size+1,2,none⟩)∧(∀o,w'.frozen? ⟨w.heap.size+1,o,none⟩=false)∧GS w w.heap.size (.slice A d.n cp) (.slice B m cq) (.int .i64 d.lp) w')
  ((go_split_ands;refine GS.all ?_;(repeat (first | (with_reducible assumption) | (with_reducible exact HGS.out) | (with_reducible refine GS.set ?_ _ _) | (with_reducible refine GS.drew ?_) | (with_reducible refine GS.below ?_ hbb) | (with_reducible refine GS.below ?_ hba)))))
  (first
    | (have hxa := hba
       clear hxa
       go_at_call 91
       refine Calls.mono (cl1 B m cq (nats d.mt) _ ?_ hm0) ?_
       ·exact HGM.out.keep (HGS.out.drew.below hba).bel
       rintro e wb ⟨g2,k2,rfl,ownb,hbb⟩)
    | (go_at_call 91
       refine Calls.mono (cl1 A d.n cp d.sg _ ?_ hnn) ?_
       ·exact HG.out.s.keep HGS.out.drew.bel
       rintro e wa ⟨g1,k1,rfl,owna,hba⟩))
 clear c0 c1 c2 c3 c4 c5 c6
 have G5:=hide ((HGS.out.drew.below hba).below hbb)
 go_wp2
 have ga:=World.ownsRow.lt owna g1 rfl
 have gb:=World.ownsRow.lt ownb g2 rfl
 have e9:V0.drew.heap.size=V0.heap.size:=rfl
 refine bodyPost_ret (v := .agg #[.slice (some ⟨g1,0,none⟩) d.n k1,.slice (some ⟨g2,0,none⟩) m k2,.int .i64 d.lp]) ?_ rfl ⟨g1,k1,g2,k2,rfl,?_,?_,?_,?_⟩
 ·obtain ⟨e0,e1,e2⟩:=G5.out.fin (.slice (some ⟨g1,0,none⟩) d.n k1) (.slice (some ⟨g2,0,none⟩) m k2) (.int .i64 d.lp)
  simp [results,Tryz.results58,go_sem,e0,e1,e2]
 ·exact own_set (own_set (own_set (own_keep (own_keep owna hbb (Nat.le_refl _)) (Below.refl _ _) (by omega)) (by omega)) (by omega)) (by omega)
 ·unfold OwnN
  rw [←map_nats]
  exact own_set (own_set (own_set (own_keep ownb (Below.refl _ _) (by have:=hba.size;omega)) (by omega)) (by omega)) (by omega)
 ·omega
 ·exact ((G5.out.bel.setCell (by show _≤w.heap.size+1;omega) _).setCell (by show _≤w.heap.size+1;omega) _).setCell (by show _≤w.heap.size+1;omega) _
theorem nats_len (F:List Nat):(nats F).length=F.length:=by unfold nats;simp
section
variable {w W W':World} {ge:Nat} {dv mv ev:List Value}
end
section
variable {w W W2:World} {ge gt gu gr g1 c1 g2 c2 base m n:Nat} {dv mv ev:List Value} {tl:List Int} {ou:List Bool} {ss:List Value} {lp:Int} {L L':List Nat}
end
def tk (m k:Nat):List Nat:=(List.range m).map (fun j=>if j<k then j else 0)
end Go.Proofs.YtdgliimmnnhhjaaGreatDoor
end
