/-
 The texts Xd, Sld, Slr, Slv, Slt, Sgn, Byp, Rst, Unc, Und, Unk, Str, Sa, Ue.
-/
import Derived.Test.YtghdiolnonejaaaGreatDoorE02
import Derived.Test.YtghdiolnonejaaaGreatDoorE11
set_option linter.unusedVariables false
set_option linter.unusedSimpArgs false
section
namespace Go.Proofs.YtghdiolnonejaaaGreatDoor
open Go Go.RowKit
attribute [local go_sem ↓] Go.wp_at_zero Go.wp_at_succ
structure UP (w:World) (gl:Nat) (dv mv lv:List Value) (W:World):Prop where
 d:Row W w.heap.size 24 dv
 m:Row W (w.heap.size + 1) 43 mv
 rd:∃ vs,Row W (w.heap.size + 1 + 1) 24 vs ∧ vs.length = 3
 rm:∃ us,Row W (w.heap.size + 1 + 1 + 1) 43 us ∧ us.length = 5
 l:Row W gl 131 lv
 bel:Below w.heap.size w W
 lo:w.heap.size + 1 + 1 + 1 < gl
section
variable {w W W':World} {gl:Nat} {dv mv lv:List Value}
theorem UP.drew (h:UP w gl dv mv lv W):UP w gl dv mv lv W.drew := ⟨h.d,h.m,h.rd,h.rm,h.l,h.bel.drew,h.lo⟩
theorem UP.below (h:UP w gl dv mv lv W) (hb:Below W.heap.size W W'):UP w gl dv mv lv W' :=
 let ⟨vs,r1,l1⟩:=h.rd
 let ⟨us,r2,l2⟩:=h.rm
 ⟨h.d.below hb,h.m.below hb,⟨vs,r1.below hb,l1⟩,⟨us,r2.below hb,l2⟩,h.l.below hb,h.bel.trans (hb.mono h.bel.size),h.lo⟩
theorem UP.alloc (h:UP w gl dv mv lv W) (o:Obj):UP w gl dv mv lv (W.alloc o) := h.below ((Below.refl _ _).alloc (Nat.le_refl _) o)
theorem UP.grown (h:UP w gl dv mv lv W) {r:Option Nat} (hg:W.grownBy W' r) (hr:∀ k,r = some k → gl < k):UP w gl dv mv lv W' :=
 have a:=h.lo
 have key:∀ {g:Nat},g ≤ gl → some g ≠ r:=fun {g} hg' e => by have := hr g e.symm; omega
 let ⟨vs,r1,l1⟩:=h.rd
 let ⟨us,r2,l2⟩:=h.rm
 ⟨h.d.grown hg (key (by omega)),h.m.grown hg (key (by omega)),⟨vs,r1.grown hg (key (by omega)),l1⟩,⟨us,r2.grown hg (key (by omega)),l2⟩,h.l.grown hg (key (by omega)),h.bel.grown hg h.bel.size (fun k hk => by have := hr k hk; omega),h.lo⟩
theorem UP.setD (h:UP w gl dv mv lv W) (o:Nat) (v:Value):UP w gl dv mv lv (W.setCell ⟨w.heap.size + 1 + 1,o,none⟩ v) :=
 let ⟨vs,r1,l1⟩:=h.rd
 let ⟨us,r2,l2⟩:=h.rm
 have hl:=h.lo
 ⟨h.d.other (by show _ ≠ w.heap.size + 1 + 1; omega) v,h.m.other (by show _ ≠ w.heap.size + 1 + 1; omega) v,⟨vs.set o v,r1.set o v,by rw [List.length_set,l1]⟩,⟨us,r2.other (by show _ ≠ w.heap.size + 1 + 1; omega) v,l2⟩,h.l.other (by show _ ≠ w.heap.size + 1 + 1; omega) v,h.bel.setCell (by show _ ≤ w.heap.size + 1 + 1; omega) v,h.lo⟩
theorem UP.setM (h:UP w gl dv mv lv W) (o:Nat) (v:Value):UP w gl dv mv lv (W.setCell ⟨w.heap.size + 1 + 1 + 1,o,none⟩ v) :=
 let ⟨vs,r1,l1⟩:=h.rd
 let ⟨us,r2,l2⟩:=h.rm
 have hl:=h.lo
 ⟨h.d.other (by show _ ≠ w.heap.size + 1 + 1 + 1; omega) v,h.m.other (by show _ ≠ w.heap.size + 1 + 1 + 1; omega) v,⟨vs,r1.other (by show _ ≠ w.heap.size + 1 + 1 + 1; omega) v,l1⟩,⟨us.set o v,r2.set o v,by rw [List.length_set,l2]⟩,h.l.other (by show _ ≠ w.heap.size + 1 + 1 + 1; omega) v,h.bel.setCell (by show _ ≤ w.heap.size + 1 + 1 + 1; omega) v,h.lo⟩
theorem UP.all {x0 x1 x2 y0 y1 y2 y3 y4 l0 l1 l2 l3 l4 l5 l6 l7:Value} (h:UP w gl [x0,x1,x2] [y0,y1,y2,y3,y4] [l0,l1,l2,l3,l4,l5,l6,l7] W) :
 W.cell? ⟨w.heap.size,0,none⟩ = some x0 ∧ W.cell? ⟨w.heap.size,1,none⟩ = some x1 ∧ W.cell? ⟨w.heap.size,2,none⟩ = some x2 ∧
 W.cell? ⟨w.heap.size + 1,0,none⟩ = some y0 ∧ W.cell? ⟨w.heap.size + 1,1,none⟩ = some y1 ∧ W.cell? ⟨w.heap.size + 1,2,none⟩ = some y2 ∧ W.cell? ⟨w.heap.size + 1,3,none⟩ = some y3 ∧ W.cell? ⟨w.heap.size + 1,4,none⟩ = some y4 ∧
 W.cell? ⟨gl,0,none⟩ = some l0 ∧ W.cell? ⟨gl,1,none⟩ = some l1 ∧ W.cell? ⟨gl,2,none⟩ = some l2 ∧ W.cell? ⟨gl,3,none⟩ = some l3 ∧ W.cell? ⟨gl,4,none⟩ = some l4 ∧ W.cell? ⟨gl,5,none⟩ = some l5 ∧ W.cell? ⟨gl,6,none⟩ = some l6 ∧ W.cell? ⟨gl,7,none⟩ = some l7 ∧
 W.cell? ⟨w.heap.size + 1 + 1,0,none⟩ = some (cv W ⟨w.heap.size + 1 + 1,0,none⟩) ∧ W.cell? ⟨w.heap.size + 1 + 1,1,none⟩ = some (cv W ⟨w.heap.size + 1 + 1,1,none⟩) ∧ W.cell? ⟨w.heap.size + 1 + 1,2,none⟩ = some (cv W ⟨w.heap.size + 1 + 1,2,none⟩) ∧
 W.cell? ⟨w.heap.size + 1 + 1 + 1,0,none⟩ = some (cv W ⟨w.heap.size + 1 + 1 + 1,0,none⟩) ∧ W.cell? ⟨w.heap.size + 1 + 1 + 1,1,none⟩ = some (cv W ⟨w.heap.size + 1 + 1 + 1,1,none⟩) ∧ W.cell? ⟨w.heap.size + 1 + 1 + 1,2,none⟩ = some (cv W ⟨w.heap.size + 1 + 1 + 1,2,none⟩) ∧ W.cell? ⟨w.heap.size + 1 + 1 + 1,3,none⟩ = some (cv W ⟨w.heap.size + 1 + 1 + 1,3,none⟩) ∧ W.cell? ⟨w.heap.size + 1 + 1 + 1,4,none⟩ = some (cv W ⟨w.heap.size + 1 + 1 + 1,4,none⟩) ∧
 (∀ o,W.frozen? ⟨w.heap.size + 1 + 1,o,none⟩ = false) ∧ (∀ o,W.frozen? ⟨w.heap.size + 1 + 1 + 1,o,none⟩ = false) ∧ UP w gl [x0,x1,x2] [y0,y1,y2,y3,y4] [l0,l1,l2,l3,l4,l5,l6,l7] W := by
 obtain ⟨vs,r1,k1⟩:=h.rd
 obtain ⟨us,r2,k2⟩:=h.rm
 obtain ⟨d0,d1,d2,_⟩:=box3 h.d
 obtain ⟨m0,m1,m2,m3,m4,_⟩:=box5 h.m
 obtain ⟨e0,e1,e2,e3,e4,e5,e6,e7,_⟩:=box8 h.l
 exact ⟨d0,d1,d2,m0,m1,m2,m3,m4,e0,e1,e2,e3,e4,e5,e6,e7,cv_some (r1.cell (i := 0) (by omega)),cv_some (r1.cell (i := 1) (by omega)),cv_some (r1.cell (i := 2) (by omega)),cv_some (r2.cell (i := 0) (by omega)),cv_some (r2.cell (i := 1) (by omega)),cv_some (r2.cell (i := 2) (by omega)),cv_some (r2.cell (i := 3) (by omega)),cv_some (r2.cell (i := 4) (by omega)),r1.free,r2.free,h⟩
end
def unpA (d:Pl.Dg) (l:Ln):List Nat := if d.mt.getD l.p2 0 = l.q0 then d.mt else jn d.mt (d.mt.getD l.p2 0) (d.mt.getD l.q0 0)
def unpB (d:Pl.Dg) (l:Ln):List Nat := if (unpA d l).getD l.p3 0 = l.q3 then unpA d l else jn (unpA d l) ((unpA d l).getD l.p3 0) ((unpA d l).getD l.q3 0)
def unpL (d:Pl.Dg) (l:Ln):Nat := d.lp + (if d.mt.getD l.p2 0 = l.q0 then 1 else 0) + (if (unpA d l).getD l.p3 0 = l.q3 then 1 else 0)
def unpC (d:Pl.Dg) (x y:Nat):Int := match lensI d x y with
 | none => 6
 | some i => if 64 < unpL d (lensOf d (lnH x y i)) then 5 else 0
def unpDl (d:Pl.Dg) (l:Ln) (x y:Nat):Pl.Dg := ⟨Pl.shrS [x,y] d.sg,Pl.shrM [x,y] d.n (unpB d l),unpL d l⟩
def UnpPost (d:Pl.Dg) (x y:Nat) (w:World) (e:Ending) (w':World):Prop :=
 (unpC d x y ≠ 0 → ResErr (unpC d x y) e) ∧ (unpC d x y = 0 → ∃ i,lensI d x y = some i ∧ ResOk (unpDl d (lensOf d (lnH x y i)) x y) (pusI d (lensOf d (lnH x y i)) x y) e w') ∧ Below w.heap.size w w'
theorem lens_lt {d:Pl.Dg} {x y i:Nat} (h:lensI d x y = some i):i < 8 := by
 unfold lensI at h
 have:=List.mem_of_find?_eq_some h
 simpa using this
theorem lens_is {d:Pl.Dg} {x y i:Nat} (h:lensI d x y = some i):isL d x y i := by
 unfold lensI at h
 have:=List.find?_some h
 simpa using this
theorem jn_lt {l:List Nat} {n a b:Nat} (hl:l.length = n) (h:∀ k,k < n → l.getD k 0 < n) (ha:a < n) (hb:b < n):∀ k,k < n → (jn l a b).getD k 0 < n := by
 intro k hk
 have key:∀ (l:List Nat) (a b:Nat),(∀ k,k < n → l.getD k 0 < n) → b < n → ∀ k,k < n → (l.set a b).getD k 0 < n:=by
  intro l a b h hb k hk
  rw [List.getD_eq_getElem?_getD,List.getElem?_set]
  have:=h k hk
  rw [List.getD_eq_getElem?_getD] at this
  split
  ·split
   ·simpa using hb
   ·simp; omega
  ·exact this
 exact key _ _ _ (key _ _ _ h hb) ha k hk
theorem jn_len (l:List Nat) (a b:Nat):(jn l a b).length = l.length := by unfold jn; simp
theorem pushed_v (d:Pl.Dg) (hd:Pl.Wf d) (A B:Option Addr) (cp cq m x y:Nat) (k sg:Int) (ov:Bool) (p0 p1 p2 p3 q0 q1 q2 q3:Nat) (w:World) (hm:m = 4 * d.n) (hg:DgAt w A B d) (hxy:x < y)
 (h2:p2 < m) (h3:p3 < m) (k0:q0 < m) (k3:q3 < m) (k1:q1 < m) :
 Calls Tryz.prog 89 #[.agg #[.slice A d.n cp,.slice B m cq,.int .i64 d.lp],.agg #[.int .i64 (p0:Int),.int .i64 (p1:Int),.int .i64 (p2:Int),.int .i64 (p3:Int),.int .i64 (q0:Int),.int .i64 (q1:Int),.int .i64 (q2:Int),.int .i64 (q3:Int)],.agg #[.int .i64 k,.int .i64 (x:Int),.int .i64 (y:Int),.int .i64 sg,.bool ov]] w
  fun e w' => ∃ (X Y S:Int) (b:Bool),e = .returned (.agg #[.int .i64 3,.int .i64 X,.int .i64 Y,.int .i64 S,.bool b]) ∧ pusI d ⟨p0,p1,p2,p3,q0,q1,q2,q3⟩ x y = ⟨3,X,Y,S,b⟩ ∧ Below w.heap.size w w' := by
 subst hm
 refine (pushed_any d hd A B cp cq (4 * d.n) x y k sg ov ⟨p0,p1,p2,p3,q0,q1,q2,q3⟩ w rfl hg hxy h2 h3 k0 k3 k1).mono ?_
 rintro e w' ⟨rfl,hb⟩
 exact ⟨_,_,_,_,rfl,rfl,hb⟩
set_option maxRecDepth 100000 in
set_option maxHeartbeats 4000000 in
theorem unpoke_any (d:Pl.Dg) (hd:Pl.Wf d) (A B:Option Addr) (cp cq x y:Nat) (k sg:Int) (ov:Bool) (w:World) (hg:DgAt w A B d) (hxy:x < y) (hy:y < d.n) :
 Calls Tryz.prog 50 #[.agg #[.slice A d.n cp,.slice B (4 * d.n) cq,.int .i64 d.lp],.agg #[.int .i64 k,.int .i64 (x:Int),.int .i64 (y:Int),.int .i64 sg,.bool ov]] w (UnpPost d x y w) := by
 have hn:=hd.few
 have hlp:=hd.lp
 obtain ⟨m,hm⟩:∃ m,m = 4 * d.n := ⟨_,rfl⟩
 have HG:=hide hg
 clear hg
 rw [← hm]
 have hm2:m ≤ 256:=by omega
 have HM:=hide hm
 clear hm
 obtain ⟨x0,x1,x2,x3,b0,s0⟩:=boxes4 w (.slice A d.n cp) (.slice B m cq) (.int .i64 d.lp) (.int .i64 k) (.int .i64 (x:Int)) (.int .i64 (y:Int)) (.int .i64 sg) (.bool ov)
 unfold W4 at x0 x1 x2 x3 b0 s0
 have X0:=hide x0
 have X1:=hide x1
 have X2:=hide x2
 have X3:=hide x3
 have B0:=hide b0
 have S0:=hide s0
 clear x0 x1 x2 x3 b0 s0
 go_enter Tryz.func50,Tryz.ntmps50
 go_wp2_with fail
 refine (find_any d hd A B cp cq m x y _ HM.out (HG.out.keep B0.out) (by omega) hy).mono ?_
 rintro e w1 ⟨rfl,hb1⟩
 have hsz:w.heap.size + 4 ≤ w1.heap.size:=by have := hb1.size; have := S0.out; omega
 have Y0:=hide (X0.out.below hb1)
 have Y1:=hide (X1.out.below hb1)
 have Y2:=hide (X2.out.below hb1)
 have Y3:=hide (X3.out.below hb1)
 have B1:=hide (B0.out.trans (hb1.mono B0.out.size))
 clear X0 X1 X2 X3 B0 S0 hb1
 cases hL:lensI d x y with
 | none =>
   have e6:=hide (show unpC d x y = 6 by unfold unpC; rw [hL])
   clear hL
   unfold findE noLens
   obtain ⟨p0,p1,p2,p3⟩:=box3 Y2.out
   obtain ⟨q0,q1,q2,q3,q4,q5⟩:=box5 Y3.out
   have z1:w.heap.size + 1 + 1 < w1.heap.size:=by omega
   have z2:w.heap.size + 1 + 1 + 1 < w1.heap.size:=by omega
   go_wp2
   refine bodyPost_ret (v := .tuple #[nilD,nilM,.int .i64 6]) ?_ rfl ?_
   ·obtain ⟨e0,e1,e2,e3,e4,e5,e6,e7⟩:=fin8 (Y2.out) (Y3.out) rfl rfl (by omega) (.slice none 0 0) (.slice none 0 0) (.int .i64 0) (.int .i64 0) (.int .i64 0) (.int .i64 0) (.int .i64 0) (.bool false)
    unfold nilD nilM
    simp [results,Tryz.results50,go_sem,e0,e1,e2,e3,e4,e5,e6,e7,z1,z2]
   ·refine ⟨fun _ => by rw [e6.out]; exact rfl,fun h => absurd h (by rw [e6.out]; decide),?_⟩
    exact Below.alloc (below8 B1.out _ _ _ _ _ _ _ _) (below8 B1.out _ _ _ _ _ _ _ _).size _
 | some i =>
   have HL:=hide hL
   have E6:=hide (show unpC d x y = if 64 < unpL d (lensOf d (lnH x y i)) then 5 else 0 by unfold unpC; rw [hL])
   have hi8:=lens_lt hL
   obtain ⟨hI1,hI2,_⟩:=lens_is hL
   have hh:lnH x y i < 4 * d.n:=by unfold lnH; split <;> omega
   clear hL
   unfold findE
   simp only [lensOf_v]
   obtain ⟨l,hl⟩:∃ l,l = lensOf d (lnH x y i) := ⟨_,rfl⟩
   have hgg:Pl.nx d (lnH x y i) < 4 * d.n:=Pl.tn_lt (hd.lt _ hh)
   have k2:l.p2 < m:=by rw [hl]; have := HM.out; have:Pl.tn (lnH x y i) 2 < 4 * d.n := Pl.tn_lt hh; show Pl.tn (lnH x y i) 2 < m; omega
   have k3:l.p3 < m:=by rw [hl]; have := HM.out; have:Pl.tn (d.m (Pl.nx d (lnH x y i))) 2 < 4 * d.n := Pl.tn_lt (hd.lt _ hgg); show Pl.tn _ 2 < m; omega
   have j0:l.q0 < m:=by rw [hl]; have := HM.out; have:Pl.tn (d.m (lnH x y i)) 2 < 4 * d.n := Pl.tn_lt (hd.lt _ hh); show Pl.tn _ 2 < m; omega
   have j1:l.q1 < m:=by rw [hl]; have := HM.out; show Pl.nx d _ < m; omega
   have j3:l.q3 < m:=by rw [hl]; have := HM.out; have:Pl.tn (Pl.nx d (lnH x y i)) 2 < 4 * d.n := Pl.tn_lt hgg; show Pl.tn _ 2 < m; omega
   rw [← hl] at E6 ⊢
   have HLL:=hide hl
   clear hl hgg hh hI1 hI2
   obtain ⟨p0,p1,p2,p3,q0,q1,q2,q3⟩:=l
   simp only at k2 k3 j0 j1 j3
   unfold Ln.cells
   obtain ⟨i0,hi0,hz0,hz1,hz2⟩:=info_parts intInfo
   obtain ⟨f0,f1,f2,f3⟩:=box3 Y0.out
   have z1:w.heap.size < w1.heap.size:=by omega
   have hml:d.mt.length = m:=by have := hd.len; have := HM.out; omega
   have HML:=hide hml
   clear hml
   go_upto_region 4 with fail
   obtain ⟨V1,hV1⟩:∃ V1:World,V1 = w1.alloc (.cells #[.int .i64 (p0:Int),.int .i64 (p1:Int),.int .i64 (p2:Int),.int .i64 (p3:Int),.int .i64 (q0:Int),.int .i64 (q1:Int),.int .i64 (q2:Int),.int .i64 (q3:Int)] 131) := ⟨_,rfl⟩
   rw [← hV1]
   obtain ⟨gl,hgl⟩:∃ gl,gl = w1.heap.size := ⟨_,rfl⟩
   rw [← hgl]
   have U1:=hide (show UP w gl [.slice A d.n cp,.slice B m cq,.int .i64 (d.lp:Int)] [.int .i64 k,.int .i64 (x:Int),.int .i64 (y:Int),.int .i64 sg,.bool ov] [.int .i64 (p0:Int),.int .i64 (p1:Int),.int .i64 (p2:Int),.int .i64 (p3:Int),.int .i64 (q0:Int),.int .i64 (q1:Int),.int .i64 (q2:Int),.int .i64 (q3:Int)] V1 by
    rw [hV1]
    exact ⟨Y0.out.alloc _,Y1.out.alloc _,⟨_,Y2.out.alloc _,rfl⟩,⟨_,Y3.out.alloc _,rfl⟩,row_at (vs := [_,_,_,_,_,_,_,_]) hgl,B1.out.alloc B1.out.size _,by omega⟩)
   clear hV1 hgl hsz Y0 Y1 Y2 Y3 B1 f0 f1 f2 f3 z1
   obtain ⟨f0,f1,f2,f3⟩:=box3 U1.out.d
   have HGM:=hide (show IntsAt V1 B m (nats d.mt) by rw [HM.out]; exact (HG.out.keep U1.out.bel).m)
   have hgl:=U1.out.l.lt
   go_wp2_with (at_builtin; refine wpList_append_ints _ rfl _ _ 22 rfl V1.heap.size 3 i0 (.int .i64 0) 8 Tryz.underlying22 hi0 hz0 hz1 hz2 rfl (.slice none 0 0) 0 [] (by rfl) (World.ownsRow_nil _ _ _ _) B m cq (nats d.mt) (by rfl) HGM.out (by unfold maxLen; omega) (by omega) (Nat.le_refl _) ?_; intro v2 w2 own2 grow2)
   simp only [Nat.zero_add,List.nil_append] at own2
   obtain ⟨A2,c2,rfl⟩:=owns_slice own2
   obtain ⟨g2,rfl,lo2,hi2⟩:=owns_pos (by omega) own2
   have OWN2:=hide (show OwnN w2 V1.heap.size g2 m c2 d.mt by unfold OwnN; rw [← map_nats]; exact own2)
   have U2:=hide (U1.out.grown grow2 (fun k hk => by simp [Value.ownBlock] at hk))
   clear own2 grow2 f0 f1 f2 f3 hi2
   have hg2:gl < g2:=by omega
   obtain ⟨base,hbase⟩:∃ base,base = V1.heap.size := ⟨_,rfl⟩
   rw [← hbase] at OWN2 lo2
   have hbl:gl < base:=by omega
   clear hbase hgl HGM
   have HLT:=hide (show ∀ k,k < m → d.mt.getD k 0 < m from fun k hk => by
    rw [getD_m (by rw [HML.out]; exact hk)]
    have:=hd.lt k (by have := HM.out; omega)
    have:=HM.out
    omega)
   -- the first strand
   obtain ⟨LA,hLA⟩:∃ LA,LA = unpA d ⟨p0,p1,p2,p3,q0,q1,q2,q3⟩:=⟨_,rfl⟩
   obtain ⟨ca,hca⟩:∃ ca:Nat,ca = if d.mt.getD p2 0 = q0 then 1 else 0 := ⟨_,rfl⟩
   have hca1:ca ≤ 1:=by rw [hca]; split <;> omega
   have CA:=hide (show ∀ W,OwnN W base g2 m c2 d.mt → Calls Tryz.prog 77 #[.slice (some ⟨g2,0,none⟩) m c2,.int .i64 (p2:Int),.int .i64 (q0:Int)] W fun e w' => e = .returned (.int .i64 (ca:Int)) ∧ OwnN w' base g2 m c2 LA ∧ W.grownBy w' (some g2) from fun W hW => by
    refine (closed_any base g2 m c2 p2 q0 d.mt W hW k2 j0 (by omega) HLT.out).mono ?_
    rintro e w' ⟨h1,h2,h3⟩
    refine ⟨?_,?_,h3⟩
    ·rw [h1,hca]; split <;> rfl
    ·rw [hLA]; exact h2)
   have HLA:=hide (show (∀ k,k < m → LA.getD k 0 < m) ∧ LA.length = m from by
    rw [hLA]
    unfold unpA
    simp only
    split
    ·exact ⟨HLT.out,HML.out⟩
    ·exact ⟨jn_lt HML.out HLT.out (HLT.out _ k2) (HLT.out _ j0),by rw [jn_len]; exact HML.out⟩)
   have HLAE:=hide hLA
   have HCAE:=hide hca
   clear hLA hca
   obtain ⟨f0,f1,f2,f3⟩:=box3 U2.out.d
   obtain ⟨e0,e1,e2,e3,e4,e5,e6,e7,e8⟩:=box8 U2.out.l
   have hl1:=U2.out.l.lt
   have hl2:=U2.out.d.lt
   go_upto_region 5 with fail
   go_cut [10] (fun s10 wx => s10 = .int .i64 ((d.lp:Int) + (ca:Int)) ∧ UP w gl [.slice A d.n cp,.slice B m cq,.int .i64 (d.lp:Int)] [.int .i64 k,.int .i64 (x:Int),.int .i64 (y:Int),.int .i64 sg,.bool ov] [.int .i64 (p0:Int),.int .i64 (p1:Int),.int .i64 (p2:Int),.int .i64 (p3:Int),.int .i64 (q0:Int),.int .i64 (q1:Int),.int .i64 (q2:Int),.int .i64 (q3:Int)] wx ∧ OwnN wx base g2 m c2 LA)
   case first =>
    have hwr:IntKind.i64.wrap ((d.lp:Int) + (ca:Int)) = (d.lp:Int) + (ca:Int):=IntWalk.i64_in _ (by omega)
    go_region_held3 (fun w' => w'.cell? ⟨w.heap.size,2,none⟩ = some (.int .i64 (d.lp:Int)) ∧ w'.cell? ⟨gl,2,none⟩ = some (.int .i64 (p2:Int)) ∧ w'.cell? ⟨gl,4,none⟩ = some (.int .i64 (q0:Int))) (first | go_keep | assumption | (exact ⟨k5,k6,k7⟩))
     (first
       | (go_at_call 77
          refine Calls.mono (CA.out _ ?_) ?_
          ·exact OwnN.drew' rfl OWN2.out
          rintro e w3 ⟨rfl,own3,gr3⟩
          have U3:=hide (U2.out.drew.grown gr3 (fun k hk => by injection hk with hk; omega))
          have OWN3:=hide own3
          obtain ⟨_,_,k5,_⟩:=box3 U3.out.d
          obtain ⟨_,_,k6,_,k7,_⟩:=box8 U3.out.l
          clear own3 gr3))
    all_goals
     go_wp2_with fail
     go_meet
     exact ⟨rfl,U3.out,OWN3.out⟩
   case rest =>
    obtain ⟨rfl,hu4,ho4⟩:=hcut
    have U4:=hide hu4
    have OWN4:=hide ho4
    clear hu4 ho4 f0 f1 f2 f3 e0 e1 e2 e3 e4 e5 e6 e7 e8 U1 U2 OWN2 CA hl1 hl2
    obtain ⟨e0,e1,e2,e3,e4,e5,e6,e7,e8⟩:=box8 U4.out.l
    obtain ⟨LB,hLB⟩:∃ LB,LB = unpB d ⟨p0,p1,p2,p3,q0,q1,q2,q3⟩:=⟨_,rfl⟩
    obtain ⟨cb,hcb⟩:∃ cb:Nat,cb = if LA.getD p3 0 = q3 then 1 else 0 := ⟨_,rfl⟩
    have hcb1:cb ≤ 1:=by rw [hcb]; split <;> omega
    have HLBE:=hide hLB
    have E7:=hide (show unpL d ⟨p0,p1,p2,p3,q0,q1,q2,q3⟩ = d.lp + ca + cb by unfold unpL; simp only; rw [HCAE.out,hcb,HLAE.out])
    have CB:=hide (show ∀ W,OwnN W base g2 m c2 LA → Calls Tryz.prog 77 #[.slice (some ⟨g2,0,none⟩) m c2,.int .i64 (p3:Int),.int .i64 (q3:Int)] W fun e w' => e = .returned (.int .i64 (cb:Int)) ∧ OwnN w' base g2 m c2 LB ∧ W.grownBy w' (some g2) from fun W hW => by
     refine (closed_any base g2 m c2 p3 q3 LA W hW k3 j3 (by omega) HLA.out.1).mono ?_
     rintro e w' ⟨h1,h2,h3⟩
     refine ⟨?_,?_,h3⟩
     ·rw [h1,hcb]; split <;> rfl
     ·rw [hLB]; unfold unpB; simp only; rw [← HLAE.out]; exact h2)
    have HLB:=hide (show (∀ k,LB.getD k 0 ≤ 1000) from fun k => by
     have key:∀ k,k < m → LB.getD k 0 < m:=by
      rw [hLB]
      unfold unpB
      simp only
      rw [← HLAE.out]
      split
      ·exact HLA.out.1
      ·exact jn_lt HLA.out.2 HLA.out.1 (HLA.out.1 _ k3) (HLA.out.1 _ j3)
     have len:LB.length = m:=by
      rw [hLB]
      unfold unpB
      simp only
      rw [← HLAE.out]
      split
      ·exact HLA.out.2
      ·rw [jn_len]; exact HLA.out.2
     rcases Nat.lt_or_ge k m with h | h
     ·have:=key k h; omega
     ·rw [List.getD_eq_getElem?_getD,List.getElem?_eq_none (by omega)]; simp)
    clear hLB hcb HLA HLT
    have hwr:IntKind.i64.wrap ((d.lp:Int) + (ca:Int) + (cb:Int)) = (d.lp:Int) + (ca:Int) + (cb:Int):=IntWalk.i64_in _ (by omega)
    go_wp2_with fail
    refine (CB.out _ OWN4.out).mono ?_
    rintro e w5 ⟨rfl,own5,gr5⟩
    have U5:=hide (U4.out.grown gr5 (fun k hk => by injection hk with hk; omega))
    have OWN5:=hide own5
    clear own5 gr5 e0 e1 e2 e3 e4 e5 e6 e7 e8 U4 OWN4 CB
    by_cases hfull:64 < d.lp + ca + cb
    ·have hfu:(64:Int) < (d.lp:Int) + (ca:Int) + (cb:Int):=by omega
     have E8:=hide (show unpC d x y = 5 by rw [E6.out,E7.out,if_pos hfull])
     obtain ⟨vs,r1,l1⟩:=U5.out.rd
     obtain ⟨us,r2,l2⟩:=U5.out.rm
     obtain ⟨_,_,_,_,_,_,_,_,_,_,_,_,_,_,_,_,p0',p1',p2',q0',q1',q2',q3',q4',fr1,fr2,_⟩:=U5.out.all
     go_wp2
     refine bodyPost_ret (v := .tuple #[nilD,nilM,.int .i64 5]) ?_ rfl ?_
     ·obtain ⟨e0,e1,e2,e3,e4,e5,e6,e7⟩:=fin8 r1 r2 l1 l2 (by omega) (.slice none 0 0) (.slice none 0 0) (.int .i64 0) (.int .i64 0) (.int .i64 0) (.int .i64 0) (.int .i64 0) (.bool false)
      clear p0' p1' p2' q0' q1' q2' q3' q4'
      unfold nilD nilM
      simp [results,Tryz.results50,go_sem,e0,e1,e2,e3,e4,e5,e6,e7]
     ·exact ⟨fun _ => by rw [E8.out]; exact rfl,fun h => absurd h (by rw [E8.out]; decide),below8 U5.out.bel _ _ _ _ _ _ _ _⟩
    ·have hfu:(d.lp:Int) + (ca:Int) + (cb:Int) ≤ 64:=by omega
     have E8:=hide (show unpC d x y = 0 by rw [E6.out,E7.out,if_neg hfull])
     have hgl:=U5.out.l.lt
     have hdl:=U5.out.d.lt
     have hlo:=U5.out.lo
     have z0:w.heap.size + 1 < w5.heap.size:=by omega
     have z1:w.heap.size + 1 + 1 < w5.heap.size:=by omega
     have z2:w.heap.size + 1 + 1 + 1 < w5.heap.size:=by omega
     go_upto_region 9 with fail
     have HCAP:=hide OWN5.out.caps
     have HG5:=hide (HG.out.keep U5.out.bel)
     have KS:=hide (IntsAt.drew ((HG5.out.s).alloc (.cells #[.int .i64 (x:Int),.int .i64 (y:Int)] 3)))
     have KM:=hide (OwnN.ints (OwnN.drew' rfl (OWN5.out.alloc (.cells #[.int .i64 (x:Int),.int .i64 (y:Int)] 3))))
     have KG:=hide (two_ints w5 (x:Int) (y:Int))
     obtain ⟨s0,s1,s2,s3,s4,s5,s6,s7,t0,t1,t2,t3,t4,t5,t6,t7,p0',p1',p2',q0',q1',q2',q3',q4',fr1,fr2,_⟩:=U5.out.all
     go_region_held3 (fun w' => w'.cell? ⟨w.heap.size,0,none⟩ = some (.slice A d.n cp) ∧ w'.cell? ⟨w.heap.size,1,none⟩ = some (.slice B m cq) ∧ w'.cell? ⟨w.heap.size,2,none⟩ = some (.int .i64 (d.lp:Int)) ∧
      w'.cell? ⟨w.heap.size + 1,0,none⟩ = some (.int .i64 k) ∧ w'.cell? ⟨w.heap.size + 1,1,none⟩ = some (.int .i64 (x:Int)) ∧ w'.cell? ⟨w.heap.size + 1,2,none⟩ = some (.int .i64 (y:Int)) ∧ w'.cell? ⟨w.heap.size + 1,3,none⟩ = some (.int .i64 sg) ∧ w'.cell? ⟨w.heap.size + 1,4,none⟩ = some (.bool ov) ∧
      w'.cell? ⟨gl,0,none⟩ = some (.int .i64 (p0:Int)) ∧ w'.cell? ⟨gl,1,none⟩ = some (.int .i64 (p1:Int)) ∧ w'.cell? ⟨gl,2,none⟩ = some (.int .i64 (p2:Int)) ∧ w'.cell? ⟨gl,3,none⟩ = some (.int .i64 (p3:Int)) ∧ w'.cell? ⟨gl,4,none⟩ = some (.int .i64 (q0:Int)) ∧ w'.cell? ⟨gl,5,none⟩ = some (.int .i64 (q1:Int)) ∧ w'.cell? ⟨gl,6,none⟩ = some (.int .i64 (q2:Int)) ∧ w'.cell? ⟨gl,7,none⟩ = some (.int .i64 (q3:Int)) ∧
      w'.cell? ⟨w.heap.size + 1 + 1,0,none⟩ = some (cv w' ⟨w.heap.size + 1 + 1,0,none⟩) ∧ w'.cell? ⟨w.heap.size + 1 + 1,1,none⟩ = some (cv w' ⟨w.heap.size + 1 + 1,1,none⟩) ∧ w'.cell? ⟨w.heap.size + 1 + 1,2,none⟩ = some (cv w' ⟨w.heap.size + 1 + 1,2,none⟩) ∧
      w'.cell? ⟨w.heap.size + 1 + 1 + 1,0,none⟩ = some (cv w' ⟨w.heap.size + 1 + 1 + 1,0,none⟩) ∧ w'.cell? ⟨w.heap.size + 1 + 1 + 1,1,none⟩ = some (cv w' ⟨w.heap.size + 1 + 1 + 1,1,none⟩) ∧ w'.cell? ⟨w.heap.size + 1 + 1 + 1,2,none⟩ = some (cv w' ⟨w.heap.size + 1 + 1 + 1,2,none⟩) ∧ w'.cell? ⟨w.heap.size + 1 + 1 + 1,3,none⟩ = some (cv w' ⟨w.heap.size + 1 + 1 + 1,3,none⟩) ∧ w'.cell? ⟨w.heap.size + 1 + 1 + 1,4,none⟩ = some (cv w' ⟨w.heap.size + 1 + 1 + 1,4,none⟩) ∧
      (∀ o,w'.frozen? ⟨w.heap.size + 1 + 1,o,none⟩ = false) ∧ (∀ o,w'.frozen? ⟨w.heap.size + 1 + 1 + 1,o,none⟩ = false) ∧ UP w gl [.slice A d.n cp,.slice B m cq,.int .i64 (d.lp:Int)] [.int .i64 k,.int .i64 (x:Int),.int .i64 (y:Int),.int .i64 sg,.bool ov] [.int .i64 (p0:Int),.int .i64 (p1:Int),.int .i64 (p2:Int),.int .i64 (p3:Int),.int .i64 (q0:Int),.int .i64 (q1:Int),.int .i64 (q2:Int),.int .i64 (q3:Int)] w')
      ((go_split_ands; refine UP.all ?_; (repeat (first | (with_reducible assumption) | (with_reducible exact U5.out) | (with_reducible refine UP.setD ?_ _ _) | (with_reducible refine UP.setM ?_ _ _) | (with_reducible refine UP.alloc ?_ _) | (with_reducible refine UP.drew ?_) | (with_reducible refine UP.below ?_ hb7) | (with_reducible refine UP.below ?_ hb6)))))
      (first
        | (have hx6 := hb6
           clear hx6
           go_at_call 89
           refine Calls.mono (pushed_v d hd A B cp cq m x y k sg ov p0 p1 p2 p3 q0 q1 q2 q3 _ HM.out ?_ hxy k2 k3 j0 j3 j1) ?_
           ·exact (HG.out.keep (((U5.out.alloc (.cells #[.int .i64 (x:Int),.int .i64 (y:Int)] 3)).drew.below hb6)).bel)
           rintro e w7 ⟨XX,YY,SS,bb,rfl,hpus,hb7⟩
           have HPUS:=hide hpus
           clear hpus)
        | (go_at_call 79
           refine Calls.mono (shrunk_sl [x,y] d.sg LB ((d.lp:Int) + (ca:Int) + (cb:Int)) A (some ⟨g2,0,none⟩) (some ⟨w5.heap.size,0,none⟩) d.n m 2 cp c2 2 _ ?_ ?_ ?_ (Pl.few_two hxy) HM.out HCAP.out.1 HCAP.out.2 (by omega) (by omega) HLB.out) ?_
           ·exact KS.out
           ·exact KM.out
           ·exact KG.out
           rintro e w6 ⟨A7,A8,c7,c8,rfl,owS,owM,hb6⟩
           have OWS:=hide owS
           have OWM:=hide owM
           clear owS owM))
     have U7:=hide ((((U5.out.alloc (.cells #[.int .i64 (x:Int),.int .i64 (y:Int)] 3)).drew.below hb6)).below hb7)
     clear s0 s1 s2 s3 s4 s5 s6 s7 t0 t1 t2 t3 t4 t5 t6 t7 p0' p1' p2' q0' q1' q2' q3' q4'
     obtain ⟨vs6,r6,l6⟩:=U7.out.rd
     obtain ⟨us6,t6,k6⟩:=U7.out.rm
     go_wp2
     refine bodyPost_ret (v := .tuple #[.agg #[.slice A7 (Pl.left d.sg.length [x,y]).length c7,.slice A8 (4 * (Pl.left d.sg.length [x,y]).length) c8,.int .i64 ((d.lp:Int) + (ca:Int) + (cb:Int))],.agg #[.int .i64 3,.int .i64 XX,.int .i64 YY,.int .i64 SS,.bool bb],.int .i64 0]) ?_ rfl ?_
     ·obtain ⟨e0,e1,e2,e3,e4,e5,e6,e7⟩:=fin8 r6 t6 l6 k6 (by omega) (.slice A7 (Pl.left d.sg.length [x,y]).length c7) (.slice A8 (4 * (Pl.left d.sg.length [x,y]).length) c8) (.int .i64 ((d.lp:Int) + (ca:Int) + (cb:Int))) (.int .i64 3) (.int .i64 XX) (.int .i64 YY) (.int .i64 SS) (.bool bb)
      simp [results,Tryz.results50,go_sem,e0,e1,e2,e3,e4,e5,e6,e7]
     ·have hn7:(unpDl d ⟨p0,p1,p2,p3,q0,q1,q2,q3⟩ x y).n = (Pl.left d.sg.length [x,y]).length:=by unfold unpDl Pl.Dg.n; exact Pl.shrS_len _ _
      have hlp7:((unpDl d ⟨p0,p1,p2,p3,q0,q1,q2,q3⟩ x y).lp:Int) = (d.lp:Int) + (ca:Int) + (cb:Int):=by show ((unpL d _:Nat):Int) = _; rw [E7.out]; omega
      have hbs:w.heap.size + 1 + 1 + 1 < (w5.alloc (.cells #[.int .i64 (x:Int),.int .i64 (y:Int)] 3)).drew.heap.size + 2:=by simp; omega
      refine ⟨fun h => absurd E8.out h,fun _ => ⟨i,HL.out,?_⟩,below8 U7.out.bel _ _ _ _ _ _ _ _⟩
      rw [← HLL.out,HPUS.out]
      refine ⟨A7,A8,c7,c8,?_,?_,?_⟩
      ·rw [hn7,hlp7]
       rfl
      ·rw [hn7]
       exact own_intsT (c := c7) (own8 (own_keep OWS.out hb7 (Nat.le_refl _)) hbs _ _ _ _ _ _ _ _)
      ·rw [hn7]
       refine own_intsT (c := c8) (own8 (?_:w7.ownsRow _ _ _ _ _ _) hbs _ _ _ _ _ _ _ _)
       rw [map_nats]
       have:=own_keep OWM.out hb7 (Nat.le_refl _)
       rw [HLBE.out] at this
       exact this
end Go.Proofs.YtghdiolnonejaaaGreatDoor
end
section
namespace Go.Proofs.YtghdiolnonejaaaGreatDoor.Pl
variable {N:Nat} {S:Nat → Prop} {r a:Nat → Nat}
def cj (t f:Nat → Nat) (x:Nat):Nat := t (f (t x))
theorem it_cj {t f:Nat → Nat} (hS:∀ x,S x → S (f x)) (ht:∀ x,S x → t (t x) = x) {x:Nat} (hx:S x):∀ k,it (cj t f) k (t x) = t (it f k x) ∧ S (it f k x)
 | 0 => ⟨rfl,hx⟩
 | k + 1 => by
   obtain ⟨h1,h2⟩:=it_cj hS ht hx k
   refine ⟨?_,hS _ h2⟩
   show cj t f (it (cj t f) k (t x)) = t (f (it f k x))
   rw [h1]
   unfold cj
   rw [ht _ h2]
theorem orb_cj {t f:Nat → Nat} (hS:∀ x,S x → S (f x)) (ht:∀ x,S x → t (t x) = x) {x y:Nat} (hx:S x) (hy:S y):Orb f x y ↔ Orb (cj t f) (t x) (t y) := by
 constructor
 ·rintro ⟨k,rfl⟩
  exact ⟨k,(it_cj hS ht hx k).1⟩
 ·rintro ⟨k,hk⟩
  refine ⟨k,?_⟩
  obtain ⟨h1,h2⟩:=it_cj hS ht hx k
  rw [h1] at hk
  have:=congrArg t hk
  rwa [ht _ h2,ht _ hy] at this
theorem con_cj {t:Nat → Nat} (hr:∀ x,S x → S (r x)) (ha:∀ x,S x → S (a x)) (ht:∀ x,S x → t (t x) = x) {x y:Nat} (hx:S x) (e:Con r a x y):Con (cj t r) (cj t a) (t x) (t y) ∧ S y := by
 induction e with
 | refl => exact ⟨.refl,hx⟩
 | @left y e' ih =>
   refine ⟨?_,hr _ ih.2⟩
   have:=ih.1.left
   rwa [show cj t r (t y) = t (r y) from by unfold cj; rw [ht _ ih.2]] at this
 | @right y e' ih =>
   refine ⟨?_,ha _ ih.2⟩
   have:=ih.1.right
   rwa [show cj t a (t y) = t (a y) from by unfold cj; rw [ht _ ih.2]] at this
theorem cj_cj {t f:Nat → Nat} (hS:∀ x,S x → S (f x)) (ht:∀ x,S x → t (t x) = x) {x:Nat} (hx:S x):cj t (cj t f) x = f x := by
 unfold cj
 rw [ht x hx,ht _ (hS x hx)]
theorem Bij.cj {t f:Nat → Nat} (h:Bij N S f) (hm:∀ x,S x → S (t x)) (ht:∀ x,S x → t (t x) = x):Bij N S (Pl.cj t f) :=
 ⟨h.lt, fun x hx => hm _ (h.maps _ (hm x hx)), fun x y hx hy e => by
   have e1:=congrArg t e
   unfold Pl.cj at e1
   rw [ht _ (h.maps _ (hm x hx)),ht _ (h.maps _ (hm y hy))] at e1
   have e2:=h.inj _ _ (hm x hx) (hm y hy) e1
   have e3:=congrArg t e2
   rwa [ht x hx,ht y hy] at e3⟩
theorem Hm.cj {t:Nat → Nat} (h:Hm N S r a) (hm:∀ x,S x → S (t x)) (ht:∀ x,S x → t (t x) = x):Hm N S (Pl.cj t r) (Pl.cj t a) :=
 ⟨h.rb.cj hm ht, h.ab.cj hm ht, fun x hx => by
   unfold Pl.cj
   rw [ht _ (h.ab.maps _ (hm x hx)),h.inv _ (hm x hx),ht x hx]⟩
theorem Gen.cj {t:Nat → Nat} {z:Int} (h:Hm N S r a) (hm:∀ x,S x → S (t x)) (ht:∀ x,S x → t (t x) = x) (hz:Gen S r a z):Gen S (Pl.cj t r) (Pl.cj t a) z := by
 obtain ⟨v,d,k,f,c,h1,h2,h3,h4,h5,rfl⟩:=hz
 have hs:∀ y,S y → ∃ x,S x ∧ t x = y:=fun y hy => ⟨t y,hm y hy,ht y hy⟩
 refine ⟨v,d,k,f,c,h1.map t hm hs (fun x y hx hy => orb_cj h.rb.maps ht hx hy),h2,h3.map t hm hs (fun x y hx hy => orb_cj h.ab.maps ht hx hy),?_,?_,rfl⟩
 ·refine (h4.map t hm hs (fun x y hx hy => orb_cj (t := t) h.pb.maps ht hx hy)).congr (fun _ => Iff.rfl) (fun x y hx _ => ?_)
  refine Orb.congr (h.pb.cj hm ht).maps (fun z hz => ?_) hx
  show t (r (a (t z))) = t (r (t (t (a (t z)))))
  rw [ht _ (h.ab.maps _ (hm z hz))]
 ·refine h5.map t hm hs (fun x y hx hy => ⟨fun e => (con_cj h.rb.maps h.ab.maps ht hx e).1,fun e => ?_⟩)
  have e1:=(con_cj (S := S) (h.rb.cj hm ht).maps (h.ab.cj hm ht).maps ht (hm x hx) e).1
  rw [ht x hx,ht y hy] at e1
  exact (Con.congr (h.rb.cj hm ht |>.cj hm ht).maps (h.ab.cj hm ht |>.cj hm ht).maps (fun x hx => cj_cj h.rb.maps ht hx) (fun x hx => cj_cj h.ab.maps ht hx) hx).1 e1
theorem orb_ret {f g:Nat → Nat} {D:Nat → Prop} (hf:∀ x,D x → D (f x) ∧ Orb g x (f x) ∨ D (f (f x)) ∧ ¬ D (f x) ∧ Orb g x (f (f x))) {x y:Nat} (hx:D x) (hy:D y):Orb f x y → Orb g x y := by
 rintro ⟨k,hk⟩
 induction k using Nat.strongRecOn generalizing x with
 | ind k ih =>
   match k,hk with
   | 0,hk => exact hk ▸ Orb.refl g x
   | k + 1, hk =>
     rw [it_succ'] at hk
     rcases hf x hx with ⟨h1,h2⟩ | ⟨h1,h2,h3⟩
     ·exact h2.trans (ih k (by omega) h1 hk)
     ·match k,hk with
      | 0,hk => exact absurd (show D (f x) from (show f x = y from hk).symm ▸ hy) h2
      | k + 1, hk =>
        rw [it_succ'] at hk
        exact h3.trans (ih k (by omega) h1 hk)
structure Tri (S:Nat → Prop) (r a t:Nat → Nat) (h0 h1 h2 p0 p1 p2 u0 u1 u2 v0 v1 v2:Nat):Prop where
 mem:∀ x,x ∈ [h0,h1,h2,p0,p1,p2,u0,u1,u2,v0,v1,v2] → S x
 rv0:r v0 = u0
 rv1:r v1 = u1
 rv2:r v2 = u2
 ru0:r u0 = p0
 ru1:r u1 = p1
 ru2:r u2 = p2
 rp0:r p0 = h0
 rp1:r p1 = h1
 rp2:r p2 = h2
 rh0:r h0 = v0
 rh1:r h1 = v1
 rh2:r h2 = v2
 ah0:a h0 = p1
 ah1:a h1 = p2
 ah2:a h2 = p0
 ap1:a p1 = h0
 ap2:a p2 = h1
 ap0:a p0 = h2
 nd:[h0,h1,h2,p0,p1,p2,u0,u1,u2,v0,v1,v2].Nodup
 tu0:t u0 = p1
 tu1:t u1 = p2
 tu2:t u2 = p0
 tp1:t p1 = u0
 tp2:t p2 = u1
 tp0:t p0 = u2
 tv0:t v0 = h2
 tv1:t v1 = h0
 tv2:t v2 = h1
 th2:t h2 = v0
 th0:t h0 = v1
 th1:t h1 = v2
 tx:∀ x,x ∉ [h0,h1,h2,p0,p1,p2,u0,u1,u2,v0,v1,v2] → t x = x
section
variable {t:Nat → Nat} {h0 h1 h2 p0 p1 p2 u0 u1 u2 v0 v1 v2:Nat}
def Dout (S:Nat → Prop) (h0 h1 h2 p0 p1 p2 x:Nat):Prop := S x ∧ x ≠ h0 ∧ x ≠ h1 ∧ x ≠ h2 ∧ x ≠ p0 ∧ x ≠ p1 ∧ x ≠ p2
theorem Tri.tt (T:Tri S r a t h0 h1 h2 p0 p1 p2 u0 u1 u2 v0 v1 v2) (x:Nat):t (t x) = x := by
 by_cases hx:x ∈ [h0,h1,h2,p0,p1,p2,u0,u1,u2,v0,v1,v2]
 ·simp only [List.mem_cons,List.not_mem_nil,or_false] at hx
  rcases hx with rfl | rfl | rfl | rfl | rfl | rfl | rfl | rfl | rfl | rfl | rfl | rfl
  ·rw [T.th0,T.tv1]
  ·rw [T.th1,T.tv2]
  ·rw [T.th2,T.tv0]
  ·rw [T.tp0,T.tu2]
  ·rw [T.tp1,T.tu0]
  ·rw [T.tp2,T.tu1]
  ·rw [T.tu0,T.tp1]
  ·rw [T.tu1,T.tp2]
  ·rw [T.tu2,T.tp0]
  ·rw [T.tv0,T.th2]
  ·rw [T.tv1,T.th0]
  ·rw [T.tv2,T.th1]
 ·rw [T.tx x hx,T.tx x hx]
theorem Tri.tS (T:Tri S r a t h0 h1 h2 p0 p1 p2 u0 u1 u2 v0 v1 v2) (x:Nat) (hx:S x):S (t x) := by
 by_cases hm:x ∈ [h0,h1,h2,p0,p1,p2,u0,u1,u2,v0,v1,v2]
 ·refine T.mem _ ?_
  simp only [List.mem_cons,List.not_mem_nil,or_false] at hm
  rcases hm with rfl | rfl | rfl | rfl | rfl | rfl | rfl | rfl | rfl | rfl | rfl | rfl <;>
   simp [T.tu0,T.tu1,T.tu2,T.tp0,T.tp1,T.tp2,T.tv0,T.tv1,T.tv2,T.th0,T.th1,T.th2]
 ·rw [T.tx x hm]; exact hx
theorem Tri.ch0 (T:Tri S r a t h0 h1 h2 p0 p1 p2 u0 u1 u2 v0 v1 v2):cj t r h0 = p2 := by unfold cj; rw [T.th0,T.rv1,T.tu1]
theorem Tri.ch1 (T:Tri S r a t h0 h1 h2 p0 p1 p2 u0 u1 u2 v0 v1 v2):cj t r h1 = p0 := by unfold cj; rw [T.th1,T.rv2,T.tu2]
theorem Tri.ch2 (T:Tri S r a t h0 h1 h2 p0 p1 p2 u0 u1 u2 v0 v1 v2):cj t r h2 = p1 := by unfold cj; rw [T.th2,T.rv0,T.tu0]
theorem Tri.cp0 (T:Tri S r a t h0 h1 h2 p0 p1 p2 u0 u1 u2 v0 v1 v2):cj t r p0 = u1 := by unfold cj; rw [T.tp0,T.ru2,T.tp2]
theorem Tri.cp1 (T:Tri S r a t h0 h1 h2 p0 p1 p2 u0 u1 u2 v0 v1 v2):cj t r p1 = u2 := by unfold cj; rw [T.tp1,T.ru0,T.tp0]
theorem Tri.cp2 (T:Tri S r a t h0 h1 h2 p0 p1 p2 u0 u1 u2 v0 v1 v2):cj t r p2 = u0 := by unfold cj; rw [T.tp2,T.ru1,T.tp1]
theorem Tri.cu0 (T:Tri S r a t h0 h1 h2 p0 p1 p2 u0 u1 u2 v0 v1 v2):cj t r u0 = v2 := by unfold cj; rw [T.tu0,T.rp1,T.th1]
theorem Tri.cu1 (T:Tri S r a t h0 h1 h2 p0 p1 p2 u0 u1 u2 v0 v1 v2):cj t r u1 = v0 := by unfold cj; rw [T.tu1,T.rp2,T.th2]
theorem Tri.cu2 (T:Tri S r a t h0 h1 h2 p0 p1 p2 u0 u1 u2 v0 v1 v2):cj t r u2 = v1 := by unfold cj; rw [T.tu2,T.rp0,T.th0]
theorem Tri.cv0 (T:Tri S r a t h0 h1 h2 p0 p1 p2 u0 u1 u2 v0 v1 v2):cj t r v0 = h1 := by unfold cj; rw [T.tv0,T.rh2,T.tv2]
theorem Tri.cv1 (T:Tri S r a t h0 h1 h2 p0 p1 p2 u0 u1 u2 v0 v1 v2):cj t r v1 = h2 := by unfold cj; rw [T.tv1,T.rh0,T.tv0]
theorem Tri.cv2 (T:Tri S r a t h0 h1 h2 p0 p1 p2 u0 u1 u2 v0 v1 v2):cj t r v2 = h0 := by unfold cj; rw [T.tv2,T.rh1,T.tv1]
theorem Tri.cx (h:Hm N S r a) (T:Tri S r a t h0 h1 h2 p0 p1 p2 u0 u1 u2 v0 v1 v2) {x:Nat} (hS:S x) (hx:x ∉ [h0,h1,h2,p0,p1,p2,u0,u1,u2,v0,v1,v2]):r x ∉ [h0,h1,h2,p0,p1,p2,u0,u1,u2,v0,v1,v2] ∧ cj t r x = r x := by
 have key:r x ∉ [h0,h1,h2,p0,p1,p2,u0,u1,u2,v0,v1,v2]:=by
  intro hm
  apply hx
  simp only [List.mem_cons,List.not_mem_nil,or_false] at hm
  rcases hm with e | e | e | e | e | e | e | e | e | e | e | e
  ·rw [h.rb.inj x p0 hS (T.mem _ (by simp)) (e.trans T.rp0.symm)]; simp
  ·rw [h.rb.inj x p1 hS (T.mem _ (by simp)) (e.trans T.rp1.symm)]; simp
  ·rw [h.rb.inj x p2 hS (T.mem _ (by simp)) (e.trans T.rp2.symm)]; simp
  ·rw [h.rb.inj x u0 hS (T.mem _ (by simp)) (e.trans T.ru0.symm)]; simp
  ·rw [h.rb.inj x u1 hS (T.mem _ (by simp)) (e.trans T.ru1.symm)]; simp
  ·rw [h.rb.inj x u2 hS (T.mem _ (by simp)) (e.trans T.ru2.symm)]; simp
  ·rw [h.rb.inj x v0 hS (T.mem _ (by simp)) (e.trans T.rv0.symm)]; simp
  ·rw [h.rb.inj x v1 hS (T.mem _ (by simp)) (e.trans T.rv1.symm)]; simp
  ·rw [h.rb.inj x v2 hS (T.mem _ (by simp)) (e.trans T.rv2.symm)]; simp
  ·rw [h.rb.inj x h0 hS (T.mem _ (by simp)) (e.trans T.rh0.symm)]; simp
  ·rw [h.rb.inj x h1 hS (T.mem _ (by simp)) (e.trans T.rh1.symm)]; simp
  ·rw [h.rb.inj x h2 hS (T.mem _ (by simp)) (e.trans T.rh2.symm)]; simp
 refine ⟨key,?_⟩
 unfold cj
 rw [T.tx x hx,T.tx _ key]
theorem Tri.out (T:Tri S r a t h0 h1 h2 p0 p1 p2 u0 u1 u2 v0 v1 v2) {x:Nat} (hS:S x):Dout S h0 h1 h2 p0 p1 p2 x ↔ ¬ (x = h0 ∨ x = h1 ∨ x = h2 ∨ x = p0 ∨ x = p1 ∨ x = p2) := by
 unfold Dout
 simp only [not_or]
 exact ⟨fun h => h.2,fun h => ⟨hS,h⟩⟩
theorem Tri.du0 (T:Tri S r a t h0 h1 h2 p0 p1 p2 u0 u1 u2 v0 v1 v2):Dout S h0 h1 h2 p0 p1 p2 u0 := by
 have hn:=T.nd
 simp only [List.nodup_cons,List.mem_cons,List.not_mem_nil,or_false,not_or] at hn
 refine ⟨T.mem _ (by simp),?_,?_,?_,?_,?_,?_⟩ <;> (intro e; rw [e] at hn; simp at hn)
theorem Tri.du1 (T:Tri S r a t h0 h1 h2 p0 p1 p2 u0 u1 u2 v0 v1 v2):Dout S h0 h1 h2 p0 p1 p2 u1 := by
 have hn:=T.nd
 simp only [List.nodup_cons,List.mem_cons,List.not_mem_nil,or_false,not_or] at hn
 refine ⟨T.mem _ (by simp),?_,?_,?_,?_,?_,?_⟩ <;> (intro e; rw [e] at hn; simp at hn)
theorem Tri.du2 (T:Tri S r a t h0 h1 h2 p0 p1 p2 u0 u1 u2 v0 v1 v2):Dout S h0 h1 h2 p0 p1 p2 u2 := by
 have hn:=T.nd
 simp only [List.nodup_cons,List.mem_cons,List.not_mem_nil,or_false,not_or] at hn
 refine ⟨T.mem _ (by simp),?_,?_,?_,?_,?_,?_⟩ <;> (intro e; rw [e] at hn; simp at hn)
theorem Tri.dv0 (T:Tri S r a t h0 h1 h2 p0 p1 p2 u0 u1 u2 v0 v1 v2):Dout S h0 h1 h2 p0 p1 p2 v0 := by
 have hn:=T.nd
 simp only [List.nodup_cons,List.mem_cons,List.not_mem_nil,or_false,not_or] at hn
 refine ⟨T.mem _ (by simp),?_,?_,?_,?_,?_,?_⟩ <;> (intro e; rw [e] at hn; simp at hn)
theorem Tri.dv1 (T:Tri S r a t h0 h1 h2 p0 p1 p2 u0 u1 u2 v0 v1 v2):Dout S h0 h1 h2 p0 p1 p2 v1 := by
 have hn:=T.nd
 simp only [List.nodup_cons,List.mem_cons,List.not_mem_nil,or_false,not_or] at hn
 refine ⟨T.mem _ (by simp),?_,?_,?_,?_,?_,?_⟩ <;> (intro e; rw [e] at hn; simp at hn)
theorem Tri.dv2 (T:Tri S r a t h0 h1 h2 p0 p1 p2 u0 u1 u2 v0 v1 v2):Dout S h0 h1 h2 p0 p1 p2 v2 := by
 have hn:=T.nd
 simp only [List.nodup_cons,List.mem_cons,List.not_mem_nil,or_false,not_or] at hn
 refine ⟨T.mem _ (by simp),?_,?_,?_,?_,?_,?_⟩ <;> (intro e; rw [e] at hn; simp at hn)
theorem Tri.nh0 (T:Tri S r a t h0 h1 h2 p0 p1 p2 u0 u1 u2 v0 v1 v2):¬ Dout S h0 h1 h2 p0 p1 p2 h0 := fun h => by unfold Dout at h; simp at h
theorem Tri.nh1 (T:Tri S r a t h0 h1 h2 p0 p1 p2 u0 u1 u2 v0 v1 v2):¬ Dout S h0 h1 h2 p0 p1 p2 h1 := fun h => by unfold Dout at h; simp at h
theorem Tri.nh2 (T:Tri S r a t h0 h1 h2 p0 p1 p2 u0 u1 u2 v0 v1 v2):¬ Dout S h0 h1 h2 p0 p1 p2 h2 := fun h => by unfold Dout at h; simp at h
theorem Tri.np0 (T:Tri S r a t h0 h1 h2 p0 p1 p2 u0 u1 u2 v0 v1 v2):¬ Dout S h0 h1 h2 p0 p1 p2 p0 := fun h => by unfold Dout at h; simp at h
theorem Tri.np1 (T:Tri S r a t h0 h1 h2 p0 p1 p2 u0 u1 u2 v0 v1 v2):¬ Dout S h0 h1 h2 p0 p1 p2 p1 := fun h => by unfold Dout at h; simp at h
theorem Tri.np2 (T:Tri S r a t h0 h1 h2 p0 p1 p2 u0 u1 u2 v0 v1 v2):¬ Dout S h0 h1 h2 p0 p1 p2 p2 := fun h => by unfold Dout at h; simp at h
theorem Tri.da (h:Hm N S r a) (T:Tri S r a t h0 h1 h2 p0 p1 p2 u0 u1 u2 v0 v1 v2) {x:Nat} (hx:Dout S h0 h1 h2 p0 p1 p2 x):Dout S h0 h1 h2 p0 p1 p2 (a x) := by
 obtain ⟨hS,n0,n1,n2,m0,m1,m2⟩:=hx
 have hi:=h.inv x hS
 refine ⟨h.ab.maps x hS,?_,?_,?_,?_,?_,?_⟩ <;> intro e <;> rw [e] at hi
 ·rw [T.ah0] at hi; exact m1 hi.symm
 ·rw [T.ah1] at hi; exact m2 hi.symm
 ·rw [T.ah2] at hi; exact m0 hi.symm
 ·rw [T.ap0] at hi; exact n2 hi.symm
 ·rw [T.ap1] at hi; exact n0 hi.symm
 ·rw [T.ap2] at hi; exact n1 hi.symm
theorem Tri.next (h:Hm N S r a) (T:Tri S r a t h0 h1 h2 p0 p1 p2 u0 u1 u2 v0 v1 v2) {x:Nat} (hx:Dout S h0 h1 h2 p0 p1 p2 x) :
 (Dout S h0 h1 h2 p0 p1 p2 (phi r a x) ∧ ¬ Dout S h0 h1 h2 p0 p1 p2 (phi (cj t r) a x) ∧ phi (cj t r) a (phi (cj t r) a x) = phi r a x) ∨
 (¬ Dout S h0 h1 h2 p0 p1 p2 (phi r a x) ∧ Dout S h0 h1 h2 p0 p1 p2 (phi (cj t r) a x) ∧ phi r a (phi r a x) = phi (cj t r) a x) ∨
 (Dout S h0 h1 h2 p0 p1 p2 (phi r a x) ∧ phi (cj t r) a x = phi r a x) := by
 have hd:=T.da h hx
 obtain ⟨y,hy⟩:∃ y,y = a x := ⟨_,rfl⟩
 have e1:phi r a x = r y:=by rw [hy]; rfl
 have e2:phi (cj t r) a x = cj t r y:=by rw [hy]; rfl
 rw [← hy] at hd
 rw [e1,e2]
 have f1:∀ z,phi r a z = r (a z):=fun z => rfl
 have f2:∀ z,phi (cj t r) a z = cj t r (a z):=fun z => rfl
 simp only [f1,f2]
 by_cases hm:y ∈ [h0,h1,h2,p0,p1,p2,u0,u1,u2,v0,v1,v2]
 ·obtain ⟨_,n0,n1,n2,m0,m1,m2⟩:=hd
  simp only [List.mem_cons,List.not_mem_nil,or_false] at hm
  rcases hm with e | e | e | e | e | e | e | e | e | e | e | e
  ·exact absurd e n0
  ·exact absurd e n1
  ·exact absurd e n2
  ·exact absurd e m0
  ·exact absurd e m1
  ·exact absurd e m2
  ·rw [e,T.ru0,T.cu0,T.ap0,T.rh2]; exact .inr (.inl ⟨T.np0,T.dv2,rfl⟩)
  ·rw [e,T.ru1,T.cu1,T.ap1,T.rh0]; exact .inr (.inl ⟨T.np1,T.dv0,rfl⟩)
  ·rw [e,T.ru2,T.cu2,T.ap2,T.rh1]; exact .inr (.inl ⟨T.np2,T.dv1,rfl⟩)
  ·rw [e,T.rv0,T.cv0,T.ah1,T.cp2]; exact .inl ⟨T.du0,T.nh1,rfl⟩
  ·rw [e,T.rv1,T.cv1,T.ah2,T.cp0]; exact .inl ⟨T.du1,T.nh2,rfl⟩
  ·rw [e,T.rv2,T.cv2,T.ah0,T.cp1]; exact .inl ⟨T.du2,T.nh0,rfl⟩
 ·obtain ⟨k1,k2⟩:=T.cx h hd.1 hm
  rw [k2]
  refine .inr (.inr ⟨⟨h.rb.maps _ hd.1,?_⟩,rfl⟩)
  simp only [List.mem_cons,List.not_mem_nil,or_false,not_or] at k1
  exact ⟨k1.1,k1.2.1,k1.2.2.1,k1.2.2.2.1,k1.2.2.2.2.1,k1.2.2.2.2.2.1⟩
theorem Tri.orb (h:Hm N S r a) (T:Tri S r a t h0 h1 h2 p0 p1 p2 u0 u1 u2 v0 v1 v2) {x y:Nat} (hx:Dout S h0 h1 h2 p0 p1 p2 x) (hy:Dout S h0 h1 h2 p0 p1 p2 y):Orb (phi r a) x y ↔ Orb (phi (cj t r) a) x y := by
 constructor
 ·refine orb_ret (fun z hz => ?_) hx hy
  rcases T.next h hz with ⟨k1,k2,k3⟩ | ⟨k1,k2,k3⟩ | ⟨k1,k2⟩
  ·exact .inl ⟨k1,2,k3⟩
  ·exact .inr ⟨by rw [k3]; exact k2,k1,1,k3.symm⟩
  ·exact .inl ⟨k1,1,k2⟩
 ·refine orb_ret (fun z hz => ?_) hx hy
  rcases T.next h hz with ⟨k1,k2,k3⟩ | ⟨k1,k2,k3⟩ | ⟨k1,k2⟩
  ·exact .inr ⟨by rw [k3]; exact k1,k2,1,k3.symm⟩
  ·exact .inl ⟨k2,2,k3⟩
  ·exact .inl ⟨by rw [k2]; exact k1,1,k2.symm⟩
theorem con_r {r a:Nat → Nat} {x y z:Nat} (e:r x = y) (h:Con r a y z):Con r a x z := (Con.left (.refl (f := r) (g := a) (x := x))).trans (e.symm ▸ h)
theorem con_a {r a:Nat → Nat} {x y z:Nat} (e:a x = y) (h:Con r a y z):Con r a x z := (Con.right (.refl (f := r) (g := a) (x := x))).trans (e.symm ▸ h)
theorem Tri.con_o (T:Tri S r a t h0 h1 h2 p0 p1 p2 u0 u1 u2 v0 v1 v2) {x:Nat} (hx:x ∈ [h0,h1,h2,p0,p1,p2,u0,u1,u2,v0,v1,v2]):Con (r) a x h0 := by
 simp only [List.mem_cons,List.not_mem_nil,or_false] at hx
 rcases hx with rfl | rfl | rfl | rfl | rfl | rfl | rfl | rfl | rfl | rfl | rfl | rfl
 ·exact .refl
 ·exact con_r T.rh1 (con_r T.rv1 (con_r T.ru1 (con_a T.ap1 (.refl))))
 ·exact con_a T.ah2 (con_r T.rp0 (.refl))
 ·exact con_r T.rp0 (.refl)
 ·exact con_a T.ap1 (.refl)
 ·exact con_r T.rp2 (con_a T.ah2 (con_r T.rp0 (.refl)))
 ·exact con_r T.ru0 (con_r T.rp0 (.refl))
 ·exact con_r T.ru1 (con_a T.ap1 (.refl))
 ·exact con_r T.ru2 (con_r T.rp2 (con_a T.ah2 (con_r T.rp0 (.refl))))
 ·exact con_r T.rv0 (con_r T.ru0 (con_r T.rp0 (.refl)))
 ·exact con_r T.rv1 (con_r T.ru1 (con_a T.ap1 (.refl)))
 ·exact con_r T.rv2 (con_r T.ru2 (con_r T.rp2 (con_a T.ah2 (con_r T.rp0 (.refl)))))
theorem Tri.con_n (T:Tri S r a t h0 h1 h2 p0 p1 p2 u0 u1 u2 v0 v1 v2) {x:Nat} (hx:x ∈ [h0,h1,h2,p0,p1,p2,u0,u1,u2,v0,v1,v2]):Con (cj t r) a x h0 := by
 simp only [List.mem_cons,List.not_mem_nil,or_false] at hx
 rcases hx with rfl | rfl | rfl | rfl | rfl | rfl | rfl | rfl | rfl | rfl | rfl | rfl
 ·exact .refl
 ·exact con_r T.ch1 (con_a T.ap0 (con_r T.ch2 (con_a T.ap1 (.refl))))
 ·exact con_r T.ch2 (con_a T.ap1 (.refl))
 ·exact con_a T.ap0 (con_r T.ch2 (con_a T.ap1 (.refl)))
 ·exact con_a T.ap1 (.refl)
 ·exact con_r T.cp2 (con_r T.cu0 (con_r T.cv2 (.refl)))
 ·exact con_r T.cu0 (con_r T.cv2 (.refl))
 ·exact con_r T.cu1 (con_r T.cv0 (con_r T.ch1 (con_a T.ap0 (con_r T.ch2 (con_a T.ap1 (.refl))))))
 ·exact con_r T.cu2 (con_r T.cv1 (con_r T.ch2 (con_a T.ap1 (.refl))))
 ·exact con_r T.cv0 (con_r T.ch1 (con_a T.ap0 (con_r T.ch2 (con_a T.ap1 (.refl)))))
 ·exact con_r T.cv1 (con_r T.ch2 (con_a T.ap1 (.refl)))
 ·exact con_r T.cv2 (.refl)
theorem Tri.con (h:Hm N S r a) (T:Tri S r a t h0 h1 h2 p0 p1 p2 u0 u1 u2 v0 v1 v2) {x y:Nat} (hx:S x):Con r a x y ↔ Con (cj t r) a x y := by
 have h':Hm N S (cj t r) a:=⟨h.rb.cj (T.tS) (fun x _ => T.tt x),h.ab,h.inv⟩
 have s0:S h0:=T.mem _ (by simp)
 constructor
 ·refine con_sub h h'.ceqv (fun z hz => ?_) (fun z hz => .right .refl) hx
  by_cases hm:z ∈ [h0,h1,h2,p0,p1,p2,u0,u1,u2,v0,v1,v2]
  ·refine (T.con_n hm).trans (h'.con_symm (h.rb.maps _ hz) (T.con_n ?_))
   simp only [List.mem_cons,List.not_mem_nil,or_false] at hm
   rcases hm with rfl | rfl | rfl | rfl | rfl | rfl | rfl | rfl | rfl | rfl | rfl | rfl <;> simp [T.ru0,T.ru1,T.ru2,T.rv0,T.rv1,T.rv2,T.rp0,T.rp1,T.rp2,T.rh0,T.rh1,T.rh2]
  ·exact con_r (T.cx h hz hm).2 .refl
 ·refine con_sub h' h.ceqv (fun z hz => ?_) (fun z hz => .right .refl) hx
  by_cases hm:z ∈ [h0,h1,h2,p0,p1,p2,u0,u1,u2,v0,v1,v2]
  ·refine (T.con_o hm).trans (h.con_symm (h'.rb.maps _ hz) (T.con_o ?_))
   simp only [List.mem_cons,List.not_mem_nil,or_false] at hm
   rcases hm with rfl | rfl | rfl | rfl | rfl | rfl | rfl | rfl | rfl | rfl | rfl | rfl <;> simp [T.cu0,T.cu1,T.cu2,T.cv0,T.cv1,T.cv2,T.cp0,T.cp1,T.cp2,T.ch0,T.ch1,T.ch2]
  ·exact con_r (T.cx h hz hm).2.symm .refl
theorem Tri.faces (h:Hm N S r a) (T:Tri S r a t h0 h1 h2 p0 p1 p2 u0 u1 u2 v0 v1 v2) {f:Nat} (hf:Cls S (Orb (phi r a)) f):Cls S (Orb (phi (cj t r) a)) f := by
 have h':Hm N S (cj t r) a:=⟨h.rb.cj (T.tS) (fun x _ => T.tt x),h.ab,h.inv⟩
 have f1:∀ z,phi r a z = r (a z):=fun z => rfl
 have f2:∀ z,phi (cj t r) a z = cj t r (a z):=fun z => rfl
 have s0:S h0:=T.mem _ (by simp)
 have q0:S p0:=T.mem _ (by simp)
 -- the triangle's own face,old
 have o1:∀ x,(x = h0 ∨ x = h1 ∨ x = h2) → (phi r a x = h0 ∨ phi r a x = h1 ∨ phi r a x = h2):=by
  rintro x (rfl | rfl | rfl)
  ·rw [f1,T.ah0,T.rp1]; exact .inr (.inl rfl)
  ·rw [f1,T.ah1,T.rp2]; exact .inr (.inr rfl)
  ·rw [f1,T.ah2,T.rp0]; exact .inl rfl
 have o2:∀ x,(x = p0 ∨ x = p1 ∨ x = p2) → (phi (cj t r) a x = p0 ∨ phi (cj t r) a x = p1 ∨ phi (cj t r) a x = p2):=by
  rintro x (rfl | rfl | rfl)
  ·rw [f2,T.ap0,T.ch2]; exact .inr (.inl rfl)
  ·rw [f2,T.ap1,T.ch0]; exact .inr (.inr rfl)
  ·rw [f2,T.ap2,T.ch1]; exact .inl rfl
 have no1:∀ x,Dout S h0 h1 h2 p0 p1 p2 x → ¬ Orb (phi r a) h0 x:=fun x hx e => by
  have:=orb_closed o1 (.inl rfl) e
  rcases this with rfl | rfl | rfl
  ·exact T.nh0 hx
  ·exact T.nh1 hx
  ·exact T.nh2 hx
 have no2:∀ x,Dout S h0 h1 h2 p0 p1 p2 x → ¬ Orb (phi (cj t r) a) p0 x:=fun x hx e => by
  have:=orb_closed o2 (.inl rfl) e
  rcases this with rfl | rfl | rfl
  ·exact T.np0 hx
  ·exact T.np1 hx
  ·exact T.np2 hx
 have hs:∀ x,S x → (∃ y,(Dout S h0 h1 h2 p0 p1 p2 y ∨ y = h0) ∧ Orb (phi r a) x y):=by
  intro x hx
  by_cases hD:Dout S h0 h1 h2 p0 p1 p2 x
  ·exact ⟨x,.inl hD,Orb.refl _ _⟩
  ·rw [T.out hx,Classical.not_not] at hD
   rcases hD with rfl | rfl | rfl | rfl | rfl | rfl
   ·exact ⟨x,.inr rfl,Orb.refl _ _⟩
   ·exact ⟨h0,.inr rfl,2,by show phi r a (phi r a x) = h0; rw [f1,f1,T.ah1,T.rp2,T.ah2,T.rp0]⟩
   ·exact ⟨h0,.inr rfl,1,by show phi r a x = h0; rw [f1,T.ah2,T.rp0]⟩
   ·exact ⟨v2,.inl T.dv2,1,by show phi r a x = v2; rw [f1,T.ap0,T.rh2]⟩
   ·exact ⟨v0,.inl T.dv0,1,by show phi r a x = v0; rw [f1,T.ap1,T.rh0]⟩
   ·exact ⟨v1,.inl T.dv1,1,by show phi r a x = v1; rw [f1,T.ap2,T.rh1]⟩
 have hs2:∀ x,S x → (∃ y,(Dout S h0 h1 h2 p0 p1 p2 y ∨ y = p0) ∧ Orb (phi (cj t r) a) x y):=by
  intro x hx
  by_cases hD:Dout S h0 h1 h2 p0 p1 p2 x
  ·exact ⟨x,.inl hD,Orb.refl _ _⟩
  ·rw [T.out hx,Classical.not_not] at hD
   rcases hD with rfl | rfl | rfl | rfl | rfl | rfl
   ·exact ⟨u2,.inl T.du2,1,by show phi (cj t r) a x = u2; rw [f2,T.ah0,T.cp1]⟩
   ·exact ⟨u0,.inl T.du0,1,by show phi (cj t r) a x = u0; rw [f2,T.ah1,T.cp2]⟩
   ·exact ⟨u1,.inl T.du1,1,by show phi (cj t r) a x = u1; rw [f2,T.ah2,T.cp0]⟩
   ·exact ⟨x,.inr rfl,Orb.refl _ _⟩
   ·exact ⟨p0,.inr rfl,2,by show phi (cj t r) a (phi (cj t r) a x) = p0; rw [f2,f2,T.ap1,T.ch0,T.ap2,T.ch1]⟩
   ·exact ⟨p0,.inr rfl,1,by show phi (cj t r) a x = p0; rw [f2,T.ap2,T.ch1]⟩
 have c1:Cls (fun x => Dout S h0 h1 h2 p0 p1 p2 x ∨ x = h0) (Orb (phi r a)) f:=hf.sub (fun x hx => hx.elim (fun h => h.1) (fun e => e ▸ s0)) hs
 have c2:Cls (fun x => Dout S h0 h1 h2 p0 p1 p2 x ∨ x = p0) (Orb (phi (cj t r) a)) f:=by
  refine c1.map (fun x => if x = h0 then p0 else x) ?_ ?_ ?_
  ·rintro x (hx | rfl)
   ·show Dout _ _ _ _ _ _ _ (if x = h0 then p0 else x) ∨ (if x = h0 then p0 else x) = p0
    rw [if_neg hx.2.1]; exact .inl hx
   ·show Dout _ _ _ _ _ _ _ (if x = x then p0 else x) ∨ (if x = x then p0 else x) = p0
    rw [if_pos rfl]; exact .inr rfl
  ·rintro y (hy | rfl)
   ·exact ⟨y,.inl hy,if_neg hy.2.1⟩
   ·exact ⟨h0,.inr rfl,if_pos rfl⟩
  ·rintro x y (hx | rfl) (hy | rfl)
   ·show _ ↔ Orb _ (if x = h0 then p0 else x) (if y = h0 then p0 else y)
    rw [if_neg hx.2.1,if_neg hy.2.1]
    exact T.orb h hx hy
   ·show _ ↔ Orb _ (if x = y then p0 else x) (if y = y then p0 else y)
    rw [if_neg hx.2.1,if_pos rfl]
    exact ⟨fun e => absurd (h.pb.symm hx.1 e) (no1 x hx),fun e => absurd (h'.pb.symm hx.1 e) (no2 x hx)⟩
   ·show _ ↔ Orb _ (if x = x then p0 else x) (if y = x then p0 else y)
    rw [if_neg hy.2.1,if_pos rfl]
    exact ⟨fun e => absurd e (no1 y hy),fun e => absurd e (no2 y hy)⟩
   ·show Orb _ y y ↔ Orb _ (if y = y then p0 else y) (if y = y then p0 else y)
    rw [if_pos rfl]
    exact ⟨fun _ => Orb.refl _ _,fun _ => Orb.refl _ _⟩
 exact c2.sup h'.pb.eqv (fun x hx => hx.elim (fun h => h.1) (fun e => e ▸ q0)) hs2
theorem Tri.gen (h:Hm N S r a) (T:Tri S r a t h0 h1 h2 p0 p1 p2 u0 u1 u2 v0 v1 v2) {z:Int} (hz:Gen S r a z):Gen S r (cj t a) z := by
 have h':Hm N S (cj t r) a:=⟨h.rb.cj (T.tS) (fun x _ => T.tt x),h.ab,h.inv⟩
 obtain ⟨v,d,k,f,c,k1,k2,k3,k4,k5,rfl⟩:=hz
 have hs:∀ y,S y → ∃ x,S x ∧ t x = y:=fun y hy => ⟨t y,T.tS y hy,T.tt y⟩
 have g:Gen S (cj t r) a (2 * (c:Int) - v + d - k - f):=⟨v,d,k,f,c,k1.map t T.tS hs (fun x y hx hy => orb_cj h.rb.maps (fun x _ => T.tt x) hx hy),k2,k3,T.faces h k4,k5.congr (fun _ => Iff.rfl) (fun x y hx _ => T.con h hx),rfl⟩
 exact Gen.congr (h'.cj T.tS (fun x _ => T.tt x)) (fun x hx => cj_cj h.rb.maps (fun x _ => T.tt x) hx) (fun _ _ => rfl) (g.cj h' T.tS (fun x _ => T.tt x))
end
end Go.Proofs.YtghdiolnonejaaaGreatDoor.Pl
end
section
namespace Go.Proofs.YtghdiolnonejaaaGreatDoor.Pl
def tau (h0 h1 h2 p0 p1 p2 u0 u1 u2 v0 v1 v2 x:Nat):Nat :=
 if x = h0 then v1 else if x = h1 then v2 else if x = h2 then v0 else if x = p0 then u2 else if x = p1 then u0 else if x = p2 then u1 else if x = u0 then p1 else if x = u1 then p2 else if x = u2 then p0 else if x = v0 then h2 else if x = v1 then h0 else if x = v2 then h1 else x
theorem nd12 {h0 h1 h2 p0 p1 p2 u0 u1 u2 v0 v1 v2:Nat} (h:[h0,h1,h2,p0,p1,p2,u0,u1,u2,v0,v1,v2].Nodup):h0 ≠ h1 ∧ h0 ≠ h2 ∧ h0 ≠ p0 ∧ h0 ≠ p1 ∧ h0 ≠ p2 ∧ h0 ≠ u0 ∧ h0 ≠ u1 ∧ h0 ≠ u2 ∧ h0 ≠ v0 ∧ h0 ≠ v1 ∧ h0 ≠ v2 ∧ h1 ≠ h2 ∧ h1 ≠ p0 ∧ h1 ≠ p1 ∧ h1 ≠ p2 ∧ h1 ≠ u0 ∧ h1 ≠ u1 ∧ h1 ≠ u2 ∧ h1 ≠ v0 ∧ h1 ≠ v1 ∧ h1 ≠ v2 ∧ h2 ≠ p0 ∧ h2 ≠ p1 ∧ h2 ≠ p2 ∧ h2 ≠ u0 ∧ h2 ≠ u1 ∧ h2 ≠ u2 ∧ h2 ≠ v0 ∧ h2 ≠ v1 ∧ h2 ≠ v2 ∧ p0 ≠ p1 ∧ p0 ≠ p2 ∧ p0 ≠ u0 ∧ p0 ≠ u1 ∧ p0 ≠ u2 ∧ p0 ≠ v0 ∧ p0 ≠ v1 ∧ p0 ≠ v2 ∧ p1 ≠ p2 ∧ p1 ≠ u0 ∧ p1 ≠ u1 ∧ p1 ≠ u2 ∧ p1 ≠ v0 ∧ p1 ≠ v1 ∧ p1 ≠ v2 ∧ p2 ≠ u0 ∧ p2 ≠ u1 ∧ p2 ≠ u2 ∧ p2 ≠ v0 ∧ p2 ≠ v1 ∧ p2 ≠ v2 ∧ u0 ≠ u1 ∧ u0 ≠ u2 ∧ u0 ≠ v0 ∧ u0 ≠ v1 ∧ u0 ≠ v2 ∧ u1 ≠ u2 ∧ u1 ≠ v0 ∧ u1 ≠ v1 ∧ u1 ≠ v2 ∧ u2 ≠ v0 ∧ u2 ≠ v1 ∧ u2 ≠ v2 ∧ v0 ≠ v1 ∧ v0 ≠ v2 ∧ v1 ≠ v2 := by
 simp only [List.nodup_cons,List.mem_cons,List.not_mem_nil,or_false,not_or,not_false_eq_true,List.nodup_nil,and_true] at h
 obtain ⟨⟨a0_1,a0_2,a0_3,a0_4,a0_5,a0_6,a0_7,a0_8,a0_9,a0_10,a0_11⟩,⟨a1_2,a1_3,a1_4,a1_5,a1_6,a1_7,a1_8,a1_9,a1_10,a1_11⟩,⟨a2_3,a2_4,a2_5,a2_6,a2_7,a2_8,a2_9,a2_10,a2_11⟩,⟨a3_4,a3_5,a3_6,a3_7,a3_8,a3_9,a3_10,a3_11⟩,⟨a4_5,a4_6,a4_7,a4_8,a4_9,a4_10,a4_11⟩,⟨a5_6,a5_7,a5_8,a5_9,a5_10,a5_11⟩,⟨a6_7,a6_8,a6_9,a6_10,a6_11⟩,⟨a7_8,a7_9,a7_10,a7_11⟩,⟨a8_9,a8_10,a8_11⟩,⟨a9_10,a9_11⟩,a10_11⟩:=h
 refine ⟨?_,?_,?_,?_,?_,?_,?_,?_,?_,?_,?_,?_,?_,?_,?_,?_,?_,?_,?_,?_,?_,?_,?_,?_,?_,?_,?_,?_,?_,?_,?_,?_,?_,?_,?_,?_,?_,?_,?_,?_,?_,?_,?_,?_,?_,?_,?_,?_,?_,?_,?_,?_,?_,?_,?_,?_,?_,?_,?_,?_,?_,?_,?_,?_,?_,?_⟩ <;> assumption
theorem tau_h0 {h0 h1 h2 p0 p1 p2 u0 u1 u2 v0 v1 v2:Nat} (h:[h0,h1,h2,p0,p1,p2,u0,u1,u2,v0,v1,v2].Nodup):tau h0 h1 h2 p0 p1 p2 u0 u1 u2 v0 v1 v2 h0 = v1 := by
 obtain ⟨a0_1,a0_2,a0_3,a0_4,a0_5,a0_6,a0_7,a0_8,a0_9,a0_10,a0_11,a1_2,a1_3,a1_4,a1_5,a1_6,a1_7,a1_8,a1_9,a1_10,a1_11,a2_3,a2_4,a2_5,a2_6,a2_7,a2_8,a2_9,a2_10,a2_11,a3_4,a3_5,a3_6,a3_7,a3_8,a3_9,a3_10,a3_11,a4_5,a4_6,a4_7,a4_8,a4_9,a4_10,a4_11,a5_6,a5_7,a5_8,a5_9,a5_10,a5_11,a6_7,a6_8,a6_9,a6_10,a6_11,a7_8,a7_9,a7_10,a7_11,a8_9,a8_10,a8_11,a9_10,a9_11,a10_11⟩:=nd12 h
 unfold tau
 rw [if_pos rfl]
theorem tau_h1 {h0 h1 h2 p0 p1 p2 u0 u1 u2 v0 v1 v2:Nat} (h:[h0,h1,h2,p0,p1,p2,u0,u1,u2,v0,v1,v2].Nodup):tau h0 h1 h2 p0 p1 p2 u0 u1 u2 v0 v1 v2 h1 = v2 := by
 obtain ⟨a0_1,a0_2,a0_3,a0_4,a0_5,a0_6,a0_7,a0_8,a0_9,a0_10,a0_11,a1_2,a1_3,a1_4,a1_5,a1_6,a1_7,a1_8,a1_9,a1_10,a1_11,a2_3,a2_4,a2_5,a2_6,a2_7,a2_8,a2_9,a2_10,a2_11,a3_4,a3_5,a3_6,a3_7,a3_8,a3_9,a3_10,a3_11,a4_5,a4_6,a4_7,a4_8,a4_9,a4_10,a4_11,a5_6,a5_7,a5_8,a5_9,a5_10,a5_11,a6_7,a6_8,a6_9,a6_10,a6_11,a7_8,a7_9,a7_10,a7_11,a8_9,a8_10,a8_11,a9_10,a9_11,a10_11⟩:=nd12 h
 unfold tau
 rw [if_neg (Ne.symm a0_1),if_pos rfl]
theorem tau_h2 {h0 h1 h2 p0 p1 p2 u0 u1 u2 v0 v1 v2:Nat} (h:[h0,h1,h2,p0,p1,p2,u0,u1,u2,v0,v1,v2].Nodup):tau h0 h1 h2 p0 p1 p2 u0 u1 u2 v0 v1 v2 h2 = v0 := by
 obtain ⟨a0_1,a0_2,a0_3,a0_4,a0_5,a0_6,a0_7,a0_8,a0_9,a0_10,a0_11,a1_2,a1_3,a1_4,a1_5,a1_6,a1_7,a1_8,a1_9,a1_10,a1_11,a2_3,a2_4,a2_5,a2_6,a2_7,a2_8,a2_9,a2_10,a2_11,a3_4,a3_5,a3_6,a3_7,a3_8,a3_9,a3_10,a3_11,a4_5,a4_6,a4_7,a4_8,a4_9,a4_10,a4_11,a5_6,a5_7,a5_8,a5_9,a5_10,a5_11,a6_7,a6_8,a6_9,a6_10,a6_11,a7_8,a7_9,a7_10,a7_11,a8_9,a8_10,a8_11,a9_10,a9_11,a10_11⟩:=nd12 h
 unfold tau
 rw [if_neg (Ne.symm a0_2),if_neg (Ne.symm a1_2),if_pos rfl]
theorem tau_p0 {h0 h1 h2 p0 p1 p2 u0 u1 u2 v0 v1 v2:Nat} (h:[h0,h1,h2,p0,p1,p2,u0,u1,u2,v0,v1,v2].Nodup):tau h0 h1 h2 p0 p1 p2 u0 u1 u2 v0 v1 v2 p0 = u2 := by
 obtain ⟨a0_1,a0_2,a0_3,a0_4,a0_5,a0_6,a0_7,a0_8,a0_9,a0_10,a0_11,a1_2,a1_3,a1_4,a1_5,a1_6,a1_7,a1_8,a1_9,a1_10,a1_11,a2_3,a2_4,a2_5,a2_6,a2_7,a2_8,a2_9,a2_10,a2_11,a3_4,a3_5,a3_6,a3_7,a3_8,a3_9,a3_10,a3_11,a4_5,a4_6,a4_7,a4_8,a4_9,a4_10,a4_11,a5_6,a5_7,a5_8,a5_9,a5_10,a5_11,a6_7,a6_8,a6_9,a6_10,a6_11,a7_8,a7_9,a7_10,a7_11,a8_9,a8_10,a8_11,a9_10,a9_11,a10_11⟩:=nd12 h
 unfold tau
 rw [if_neg (Ne.symm a0_3),if_neg (Ne.symm a1_3),if_neg (Ne.symm a2_3),if_pos rfl]
theorem tau_p1 {h0 h1 h2 p0 p1 p2 u0 u1 u2 v0 v1 v2:Nat} (h:[h0,h1,h2,p0,p1,p2,u0,u1,u2,v0,v1,v2].Nodup):tau h0 h1 h2 p0 p1 p2 u0 u1 u2 v0 v1 v2 p1 = u0 := by
 obtain ⟨a0_1,a0_2,a0_3,a0_4,a0_5,a0_6,a0_7,a0_8,a0_9,a0_10,a0_11,a1_2,a1_3,a1_4,a1_5,a1_6,a1_7,a1_8,a1_9,a1_10,a1_11,a2_3,a2_4,a2_5,a2_6,a2_7,a2_8,a2_9,a2_10,a2_11,a3_4,a3_5,a3_6,a3_7,a3_8,a3_9,a3_10,a3_11,a4_5,a4_6,a4_7,a4_8,a4_9,a4_10,a4_11,a5_6,a5_7,a5_8,a5_9,a5_10,a5_11,a6_7,a6_8,a6_9,a6_10,a6_11,a7_8,a7_9,a7_10,a7_11,a8_9,a8_10,a8_11,a9_10,a9_11,a10_11⟩:=nd12 h
 unfold tau
 rw [if_neg (Ne.symm a0_4),if_neg (Ne.symm a1_4),if_neg (Ne.symm a2_4),if_neg (Ne.symm a3_4),if_pos rfl]
theorem tau_p2 {h0 h1 h2 p0 p1 p2 u0 u1 u2 v0 v1 v2:Nat} (h:[h0,h1,h2,p0,p1,p2,u0,u1,u2,v0,v1,v2].Nodup):tau h0 h1 h2 p0 p1 p2 u0 u1 u2 v0 v1 v2 p2 = u1 := by
 obtain ⟨a0_1,a0_2,a0_3,a0_4,a0_5,a0_6,a0_7,a0_8,a0_9,a0_10,a0_11,a1_2,a1_3,a1_4,a1_5,a1_6,a1_7,a1_8,a1_9,a1_10,a1_11,a2_3,a2_4,a2_5,a2_6,a2_7,a2_8,a2_9,a2_10,a2_11,a3_4,a3_5,a3_6,a3_7,a3_8,a3_9,a3_10,a3_11,a4_5,a4_6,a4_7,a4_8,a4_9,a4_10,a4_11,a5_6,a5_7,a5_8,a5_9,a5_10,a5_11,a6_7,a6_8,a6_9,a6_10,a6_11,a7_8,a7_9,a7_10,a7_11,a8_9,a8_10,a8_11,a9_10,a9_11,a10_11⟩:=nd12 h
 unfold tau
 rw [if_neg (Ne.symm a0_5),if_neg (Ne.symm a1_5),if_neg (Ne.symm a2_5),if_neg (Ne.symm a3_5),if_neg (Ne.symm a4_5),if_pos rfl]
theorem tau_u0 {h0 h1 h2 p0 p1 p2 u0 u1 u2 v0 v1 v2:Nat} (h:[h0,h1,h2,p0,p1,p2,u0,u1,u2,v0,v1,v2].Nodup):tau h0 h1 h2 p0 p1 p2 u0 u1 u2 v0 v1 v2 u0 = p1 := by
 obtain ⟨a0_1,a0_2,a0_3,a0_4,a0_5,a0_6,a0_7,a0_8,a0_9,a0_10,a0_11,a1_2,a1_3,a1_4,a1_5,a1_6,a1_7,a1_8,a1_9,a1_10,a1_11,a2_3,a2_4,a2_5,a2_6,a2_7,a2_8,a2_9,a2_10,a2_11,a3_4,a3_5,a3_6,a3_7,a3_8,a3_9,a3_10,a3_11,a4_5,a4_6,a4_7,a4_8,a4_9,a4_10,a4_11,a5_6,a5_7,a5_8,a5_9,a5_10,a5_11,a6_7,a6_8,a6_9,a6_10,a6_11,a7_8,a7_9,a7_10,a7_11,a8_9,a8_10,a8_11,a9_10,a9_11,a10_11⟩:=nd12 h
 unfold tau
 rw [if_neg (Ne.symm a0_6),if_neg (Ne.symm a1_6),if_neg (Ne.symm a2_6),if_neg (Ne.symm a3_6),if_neg (Ne.symm a4_6),if_neg (Ne.symm a5_6),if_pos rfl]
theorem tau_u1 {h0 h1 h2 p0 p1 p2 u0 u1 u2 v0 v1 v2:Nat} (h:[h0,h1,h2,p0,p1,p2,u0,u1,u2,v0,v1,v2].Nodup):tau h0 h1 h2 p0 p1 p2 u0 u1 u2 v0 v1 v2 u1 = p2 := by
 obtain ⟨a0_1,a0_2,a0_3,a0_4,a0_5,a0_6,a0_7,a0_8,a0_9,a0_10,a0_11,a1_2,a1_3,a1_4,a1_5,a1_6,a1_7,a1_8,a1_9,a1_10,a1_11,a2_3,a2_4,a2_5,a2_6,a2_7,a2_8,a2_9,a2_10,a2_11,a3_4,a3_5,a3_6,a3_7,a3_8,a3_9,a3_10,a3_11,a4_5,a4_6,a4_7,a4_8,a4_9,a4_10,a4_11,a5_6,a5_7,a5_8,a5_9,a5_10,a5_11,a6_7,a6_8,a6_9,a6_10,a6_11,a7_8,a7_9,a7_10,a7_11,a8_9,a8_10,a8_11,a9_10,a9_11,a10_11⟩:=nd12 h
 unfold tau
 rw [if_neg (Ne.symm a0_7),if_neg (Ne.symm a1_7),if_neg (Ne.symm a2_7),if_neg (Ne.symm a3_7),if_neg (Ne.symm a4_7),if_neg (Ne.symm a5_7),if_neg (Ne.symm a6_7),if_pos rfl]
theorem tau_u2 {h0 h1 h2 p0 p1 p2 u0 u1 u2 v0 v1 v2:Nat} (h:[h0,h1,h2,p0,p1,p2,u0,u1,u2,v0,v1,v2].Nodup):tau h0 h1 h2 p0 p1 p2 u0 u1 u2 v0 v1 v2 u2 = p0 := by
 obtain ⟨a0_1,a0_2,a0_3,a0_4,a0_5,a0_6,a0_7,a0_8,a0_9,a0_10,a0_11,a1_2,a1_3,a1_4,a1_5,a1_6,a1_7,a1_8,a1_9,a1_10,a1_11,a2_3,a2_4,a2_5,a2_6,a2_7,a2_8,a2_9,a2_10,a2_11,a3_4,a3_5,a3_6,a3_7,a3_8,a3_9,a3_10,a3_11,a4_5,a4_6,a4_7,a4_8,a4_9,a4_10,a4_11,a5_6,a5_7,a5_8,a5_9,a5_10,a5_11,a6_7,a6_8,a6_9,a6_10,a6_11,a7_8,a7_9,a7_10,a7_11,a8_9,a8_10,a8_11,a9_10,a9_11,a10_11⟩:=nd12 h
 unfold tau
 rw [if_neg (Ne.symm a0_8),if_neg (Ne.symm a1_8),if_neg (Ne.symm a2_8),if_neg (Ne.symm a3_8),if_neg (Ne.symm a4_8),if_neg (Ne.symm a5_8),if_neg (Ne.symm a6_8),if_neg (Ne.symm a7_8),if_pos rfl]
theorem tau_v0 {h0 h1 h2 p0 p1 p2 u0 u1 u2 v0 v1 v2:Nat} (h:[h0,h1,h2,p0,p1,p2,u0,u1,u2,v0,v1,v2].Nodup):tau h0 h1 h2 p0 p1 p2 u0 u1 u2 v0 v1 v2 v0 = h2 := by
 obtain ⟨a0_1,a0_2,a0_3,a0_4,a0_5,a0_6,a0_7,a0_8,a0_9,a0_10,a0_11,a1_2,a1_3,a1_4,a1_5,a1_6,a1_7,a1_8,a1_9,a1_10,a1_11,a2_3,a2_4,a2_5,a2_6,a2_7,a2_8,a2_9,a2_10,a2_11,a3_4,a3_5,a3_6,a3_7,a3_8,a3_9,a3_10,a3_11,a4_5,a4_6,a4_7,a4_8,a4_9,a4_10,a4_11,a5_6,a5_7,a5_8,a5_9,a5_10,a5_11,a6_7,a6_8,a6_9,a6_10,a6_11,a7_8,a7_9,a7_10,a7_11,a8_9,a8_10,a8_11,a9_10,a9_11,a10_11⟩:=nd12 h
 unfold tau
 rw [if_neg (Ne.symm a0_9),if_neg (Ne.symm a1_9),if_neg (Ne.symm a2_9),if_neg (Ne.symm a3_9),if_neg (Ne.symm a4_9),if_neg (Ne.symm a5_9),if_neg (Ne.symm a6_9),if_neg (Ne.symm a7_9),if_neg (Ne.symm a8_9),if_pos rfl]
theorem tau_v1 {h0 h1 h2 p0 p1 p2 u0 u1 u2 v0 v1 v2:Nat} (h:[h0,h1,h2,p0,p1,p2,u0,u1,u2,v0,v1,v2].Nodup):tau h0 h1 h2 p0 p1 p2 u0 u1 u2 v0 v1 v2 v1 = h0 := by
 obtain ⟨a0_1,a0_2,a0_3,a0_4,a0_5,a0_6,a0_7,a0_8,a0_9,a0_10,a0_11,a1_2,a1_3,a1_4,a1_5,a1_6,a1_7,a1_8,a1_9,a1_10,a1_11,a2_3,a2_4,a2_5,a2_6,a2_7,a2_8,a2_9,a2_10,a2_11,a3_4,a3_5,a3_6,a3_7,a3_8,a3_9,a3_10,a3_11,a4_5,a4_6,a4_7,a4_8,a4_9,a4_10,a4_11,a5_6,a5_7,a5_8,a5_9,a5_10,a5_11,a6_7,a6_8,a6_9,a6_10,a6_11,a7_8,a7_9,a7_10,a7_11,a8_9,a8_10,a8_11,a9_10,a9_11,a10_11⟩:=nd12 h
 unfold tau
 rw [if_neg (Ne.symm a0_10),if_neg (Ne.symm a1_10),if_neg (Ne.symm a2_10),if_neg (Ne.symm a3_10),if_neg (Ne.symm a4_10),if_neg (Ne.symm a5_10),if_neg (Ne.symm a6_10),if_neg (Ne.symm a7_10),if_neg (Ne.symm a8_10),if_neg (Ne.symm a9_10),if_pos rfl]
theorem tau_v2 {h0 h1 h2 p0 p1 p2 u0 u1 u2 v0 v1 v2:Nat} (h:[h0,h1,h2,p0,p1,p2,u0,u1,u2,v0,v1,v2].Nodup):tau h0 h1 h2 p0 p1 p2 u0 u1 u2 v0 v1 v2 v2 = h1 := by
 obtain ⟨a0_1,a0_2,a0_3,a0_4,a0_5,a0_6,a0_7,a0_8,a0_9,a0_10,a0_11,a1_2,a1_3,a1_4,a1_5,a1_6,a1_7,a1_8,a1_9,a1_10,a1_11,a2_3,a2_4,a2_5,a2_6,a2_7,a2_8,a2_9,a2_10,a2_11,a3_4,a3_5,a3_6,a3_7,a3_8,a3_9,a3_10,a3_11,a4_5,a4_6,a4_7,a4_8,a4_9,a4_10,a4_11,a5_6,a5_7,a5_8,a5_9,a5_10,a5_11,a6_7,a6_8,a6_9,a6_10,a6_11,a7_8,a7_9,a7_10,a7_11,a8_9,a8_10,a8_11,a9_10,a9_11,a10_11⟩:=nd12 h
 unfold tau
 rw [if_neg (Ne.symm a0_11),if_neg (Ne.symm a1_11),if_neg (Ne.symm a2_11),if_neg (Ne.symm a3_11),if_neg (Ne.symm a4_11),if_neg (Ne.symm a5_11),if_neg (Ne.symm a6_11),if_neg (Ne.symm a7_11),if_neg (Ne.symm a8_11),if_neg (Ne.symm a9_11),if_neg (Ne.symm a10_11),if_pos rfl]
theorem tau_x {h0 h1 h2 p0 p1 p2 u0 u1 u2 v0 v1 v2 x:Nat} (h:x ∉ [h0,h1,h2,p0,p1,p2,u0,u1,u2,v0,v1,v2]):tau h0 h1 h2 p0 p1 p2 u0 u1 u2 v0 v1 v2 x = x := by
 simp only [List.mem_cons,List.not_mem_nil,or_false,not_or] at h
 obtain ⟨a0,a1,a2,a3,a4,a5,a6,a7,a8,a9,a10,a11⟩:=h
 unfold tau
 rw [if_neg a0,if_neg a1,if_neg a2,if_neg a3,if_neg a4,if_neg a5,if_neg a6,if_neg a7,if_neg a8,if_neg a9,if_neg a10,if_neg a11]
theorem tri_of {d:Dg} (hd:Wf d) {h0 h1 h2:Nat} (l0:h0 < 4 * d.n) (e0:nx d h0 = h1) (e1:nx d h1 = h2) (e2:nx d h2 = h0) (c01:h0 / 4 ≠ h1 / 4) (c12:h1 / 4 ≠ h2 / 4) (c02:h0 / 4 ≠ h2 / 4) :
 Tri (dart d) rot d.m (tau h0 h1 h2 (tn h0 1) (tn h1 1) (tn h2 1) (tn h0 2) (tn h1 2) (tn h2 2) (tn h0 3) (tn h1 3) (tn h2 3)) h0 h1 h2 (tn h0 1) (tn h1 1) (tn h2 1) (tn h0 2) (tn h1 2) (tn h2 2) (tn h0 3) (tn h1 3) (tn h2 3) := by
 have l1:h1 < 4 * d.n:=by rw [← e0]; exact tn_lt (hd.lt _ l0)
 have l2:h2 < 4 * d.n:=by rw [← e1]; exact tn_lt (hd.lt _ l1)
 have nd:[h0,h1,h2,tn h0 1,tn h1 1,tn h2 1,tn h0 2,tn h1 2,tn h2 2,tn h0 3,tn h1 3,tn h2 3].Nodup:=by
  simp only [List.nodup_cons,List.mem_cons,List.not_mem_nil,or_false,not_or,not_false_eq_true,List.nodup_nil,and_true]
  unfold tn
  omega
 have am:∀ {x y},nx d x = y → d.m x = tn y 1:=fun {x y} e => by rw [← e]; unfold nx; rw [tn_tn,tn_four]
 have r1:∀ x j,j < 4 → rot (tn x (j + 1)) = tn x j:=fun x j hj => by unfold rot; rw [tn_tn]; unfold tn; omega
 have back:∀ {x y},x < 4 * d.n → nx d x = y → d.m (tn y 1) = x:=fun {x y} hx e => by rw [← am e,hd.inv x hx]
 refine ⟨fun x hx => ?_,r1 h0 2 (by omega),r1 h1 2 (by omega),r1 h2 2 (by omega),r1 h0 1 (by omega),r1 h1 1 (by omega),r1 h2 1 (by omega),?_,?_,?_,rfl,rfl,rfl,am e0,am e1,am e2,back l0 e0,back l1 e1,back l2 e2,nd,
  tau_u0 nd,tau_u1 nd,tau_u2 nd,tau_p1 nd,tau_p2 nd,tau_p0 nd,tau_v0 nd,tau_v1 nd,tau_v2 nd,tau_h2 nd,tau_h0 nd,tau_h1 nd,fun x hx => tau_x hx⟩
 ·unfold dart
  simp only [List.mem_cons,List.not_mem_nil,or_false] at hx
  rcases hx with rfl | rfl | rfl | rfl | rfl | rfl | rfl | rfl | rfl | rfl | rfl | rfl <;> first | assumption | (exact tn_lt l0) | (exact tn_lt l1) | (exact tn_lt l2)
 ·have:=r1 h0 0 (by omega); rwa [tn_zero] at this
 ·have:=r1 h1 0 (by omega); rwa [tn_zero] at this
 ·have:=r1 h2 0 (by omega); rwa [tn_zero] at this
theorem set_getD (l:List Nat) (a b x:Nat) (ha:a < l.length):(l.set a b).getD x 0 = if x = a then b else l.getD x 0 := by
 rw [List.getD_eq_getElem?_getD,List.getElem?_set,List.getD_eq_getElem?_getD]
 by_cases h:a = x
 ·subst h; simp [ha]
 ·rw [if_neg h,if_neg (Ne.symm h)]
theorem jn_getD (l:List Nat) (a b x:Nat) (ha:a < l.length) (hb:b < l.length):((l.set a b).set b a).getD x 0 = if x = b then a else if x = a then b else l.getD x 0 := by
 rw [set_getD _ _ _ _ (by simpa using hb),set_getD _ _ _ _ ha]
def Half (N:Nat) (m g:Nat → Nat) (W:Nat → Prop) (l:List Nat):Prop := l.length = N ∧ ∀ x,x < N → l.getD x 0 = g x ∨ (l.getD x 0 = m x ∧ ¬ W x)
theorem Half.join {N:Nat} {m g:Nat → Nat} {W:Nat → Prop} {l:List Nat} (h:Half N m g W l) {a b:Nat} (ha:a < N) (hb:b < N) (e1:g a = b) (e2:g b = a):Half N m g (fun x => W x ∨ x = a ∨ x = b) ((l.set a b).set b a) := by
 refine ⟨by simp [h.1],fun x hx => ?_⟩
 rw [jn_getD l a b x (by rw [h.1]; exact ha) (by rw [h.1]; exact hb)]
 by_cases h1:x = b
 ·rw [if_pos h1]; exact .inl (by rw [h1,e2])
 ·rw [if_neg h1]
  by_cases h2:x = a
  ·rw [if_pos h2]; exact .inl (by rw [h2,e1])
  ·rw [if_neg h2]
   rcases h.2 x hx with h3 | ⟨h3,h4⟩
   ·exact .inl h3
   ·exact .inr ⟨h3,fun h => h.elim h4 (fun h => h.elim h2 h1)⟩
theorem Half.mono {N:Nat} {m g:Nat → Nat} {W W':Nat → Prop} {l:List Nat} (h:Half N m g W l) (hw:∀ x,W' x → W x):Half N m g W' l :=
 ⟨h.1,fun x hx => (h.2 x hx).imp id (fun h => ⟨h.1,fun hh => h.2 (hw x hh)⟩)⟩
theorem Half.all {N:Nat} {m g:Nat → Nat} {W:Nat → Prop} {l:List Nat} (h:Half N m g W l) (ha:∀ x,x < N → W x ∨ m x = g x):∀ x,x < N → l.getD x 0 = g x := fun x hx => by
 rcases h.2 x hx with h1 | ⟨h1,h2⟩
 ·exact h1
 ·rcases ha x hx with h3 | h3
  ·exact absurd h3 h2
  ·rw [h1,h3]
end Go.Proofs.YtghdiolnonejaaaGreatDoor.Pl
end
section
namespace Go.Proofs.YtghdiolnonejaaaGreatDoor.Pl
theorem out_opp {d:Dg} (hd:Wf d) {h:Nat} (hh:h < 4 * d.n):out d (tn h 2) = !out d h := by
 have s:=hd.sign (h / 4) (by omega)
 unfold out
 rw [tn_div,tn_mod]
 generalize d.s (h / 4) = s at *
 have ha:h % 4 = 0 ∨ h % 4 = 1 ∨ h % 4 = 2 ∨ h % 4 = 3:=by omega
 rcases ha with a | a | a | a <;> rw [a] <;> rcases s with rfl | rfl <;> rfl
structure Tr (d:Dg) (h0 h1 h2:Nat):Prop where
 l0:h0 < 4 * d.n
 e0:nx d h0 = h1
 e1:nx d h1 = h2
 e2:nx d h2 = h0
 c01:h0 / 4 ≠ h1 / 4
 c12:h1 / 4 ≠ h2 / 4
 c02:h0 / 4 ≠ h2 / 4
def tu (h0 h1 h2 x:Nat):Nat := tau h0 h1 h2 (tn h0 1) (tn h1 1) (tn h2 1) (tn h0 2) (tn h1 2) (tn h2 2) (tn h0 3) (tn h1 3) (tn h2 3) x
theorem Tr.tri {d:Dg} (hd:Wf d) {h0 h1 h2:Nat} (t:Tr d h0 h1 h2):Tri (dart d) rot d.m (tu h0 h1 h2) h0 h1 h2 (tn h0 1) (tn h1 1) (tn h2 1) (tn h0 2) (tn h1 2) (tn h2 2) (tn h0 3) (tn h1 3) (tn h2 3) := tri_of hd t.l0 t.e0 t.e1 t.e2 t.c01 t.c12 t.c02
theorem Tr.out {d:Dg} (hd:Wf d) {h0 h1 h2:Nat} (t:Tr d h0 h1 h2) {x:Nat} (hx:x < 4 * d.n):Pl.out d (tu h0 h1 h2 x) = Pl.out d x := by
 have T:=t.tri hd
 have l1:h1 < 4 * d.n:=T.mem h1 (by simp)
 have l2:h2 < 4 * d.n:=T.mem h2 (by simp)
 -- a half-edge and the one across the crossing of its mate
 have key:∀ {h h':Nat},h < 4 * d.n → d.m h = tn h' 1 → h' < 4 * d.n → Pl.out d (tn h 2) = Pl.out d (tn h' 1) ∧ Pl.out d (tn h' 3) = Pl.out d h:=by
  intro h h' hh e hh'
  have w:=hd.way h hh
  rw [e] at w
  have o1:=out_opp hd hh
  have o2:=out_opp hd (show tn h' 1 < 4 * d.n from tn_lt hh')
  rw [tn_tn] at o2
  constructor
  ·rw [o1]; cases q:Pl.out d h <;> cases q':Pl.out d (tn h' 1) <;> rw [q,q'] at w <;> first | rfl | exact absurd rfl w
  ·rw [o2]; cases q:Pl.out d h <;> cases q':Pl.out d (tn h' 1) <;> rw [q,q'] at w <;> first | rfl | exact absurd rfl w
 obtain ⟨a0,b0⟩:=key t.l0 T.ah0 l1
 obtain ⟨a1,b1⟩:=key l1 T.ah1 l2
 obtain ⟨a2,b2⟩:=key l2 T.ah2 t.l0
 by_cases hm:x ∈ [h0,h1,h2,tn h0 1,tn h1 1,tn h2 1,tn h0 2,tn h1 2,tn h2 2,tn h0 3,tn h1 3,tn h2 3]
 ·simp only [List.mem_cons,List.not_mem_nil,or_false] at hm
  rcases hm with e | e | e | e | e | e | e | e | e | e | e | e <;> rw [e]
  ·rw [T.th0,b0]
  ·rw [T.th1,b1]
  ·rw [T.th2,b2]
  ·rw [T.tp0,a2]
  ·rw [T.tp1,a0]
  ·rw [T.tp2,a1]
  ·rw [T.tu0,a0]
  ·rw [T.tu1,a1]
  ·rw [T.tu2,a2]
  ·rw [T.tv0,b2]
  ·rw [T.tv1,b0]
  ·rw [T.tv2,b1]
 ·rw [T.tx x hm]
theorem Tr.valid {d d':Dg} (hd:Valid d) {h0 h1 h2:Nat} (t:Tr d h0 h1 h2) (sg:d'.sg = d.sg) (lp:d'.lp = d.lp) (len:d'.mt.length = 4 * d.n) (hm:∀ x,x < 4 * d.n → d'.m x = cj (tu h0 h1 h2) d.m x):Valid d' := by
 have hv:=Valid.iff.1 hd
 have T:=t.tri hv.1
 have hn:d'.n = d.n:=by unfold Dg.n; rw [sg]
 have hs:∀ c,d'.s c = d.s c:=fun c => by unfold Dg.s; rw [sg]
 have ho:∀ x,Pl.out d' x = Pl.out d x:=fun x => out_old (hs _)
 have hj:=hv.1.hm.cj (t := tu h0 h1 h2) T.tS (fun x _ => T.tt x)
 have tl:∀ x,x < 4 * d.n → tu h0 h1 h2 x < 4 * d.n:=fun x hx => T.tS x hx
 refine Valid.iff.2 ⟨wf_by (by rw [hn]; exact hv.1.few) (by rw [hn]; exact len) (by rw [lp]; exact hv.1.lp) (fun c hc => by rw [hs]; exact hv.1.sign c (by rw [← hn]; exact hc)) (fun z hz => ?_),?_⟩
 ·rw [hn] at hz ⊢
  have hz2:cj (tu h0 h1 h2) d.m z < 4 * d.n:=hj.ab.maps z hz
  rw [hm z hz,hm _ hz2,ho,ho]
  refine ⟨hz2,hj.inv z hz,?_⟩
  unfold cj
  have h1:=tl z hz
  rw [t.out hv.1 (hv.1.lt _ h1),← t.out hv.1 hz]
  exact hv.1.way _ h1
 ·have hg:=T.gen hv.1.hm hv.2
  have e:dart d' = dart d:=by funext x; unfold dart; rw [hn]
  rw [e]
  exact Gen.congr (hj.congr (fun _ _ => rfl) (fun _ _ => rfl) |> fun _ => (⟨hv.1.hm.rb,hj.ab,hj.inv⟩:Hm (4 * d.n) (dart d) rot (cj (tu h0 h1 h2) d.m))) (fun _ _ => rfl) (fun x hx => (hm x hx).symm) hg
end Go.Proofs.YtghdiolnonejaaaGreatDoor.Pl
end
section
namespace Go.Proofs.YtghdiolnonejaaaGreatDoor.Pl
section
variable {S:Nat → Prop} {r a t:Nat → Nat} {h0 h1 h2 p0 p1 p2 u0 u1 u2 v0 v1 v2:Nat}
theorem perm_flip:[u0,u1,u2,v0,v1,v2,h0,h1,h2,p0,p1,p2].Perm [h0,h1,h2,p0,p1,p2,u0,u1,u2,v0,v1,v2] :=
 List.perm_append_comm (l₁ := [u0,u1,u2,v0,v1,v2]) (l₂ := [h0,h1,h2,p0,p1,p2])
theorem Tri.flip (T:Tri S r a t h0 h1 h2 p0 p1 p2 u0 u1 u2 v0 v1 v2):Tri S r (cj t a) t u0 u1 u2 v0 v1 v2 h0 h1 h2 p0 p1 p2 := by
 refine ⟨fun x hx => T.mem x (perm_flip.mem_iff.1 hx),T.rp0,T.rp1,T.rp2,T.rh0,T.rh1,T.rh2,T.rv0,T.rv1,T.rv2,T.ru0,T.ru1,T.ru2,?_,?_,?_,?_,?_,?_,?_,T.th0,T.th1,T.th2,T.tv1,T.tv2,T.tv0,T.tp0,T.tp1,T.tp2,T.tu2,T.tu0,T.tu1,fun x hx => T.tx x (fun h => hx (perm_flip.mem_iff.2 h))⟩
 ·unfold cj; rw [T.tu0,T.ap1,T.th0]
 ·unfold cj; rw [T.tu1,T.ap2,T.th1]
 ·unfold cj; rw [T.tu2,T.ap0,T.th2]
 ·unfold cj; rw [T.tv1,T.ah0,T.tp1]
 ·unfold cj; rw [T.tv2,T.ah1,T.tp2]
 ·unfold cj; rw [T.tv0,T.ah2,T.tp0]
 ·exact perm_flip.nodup_iff.2 T.nd
end
structure Sj (N:Nat) (m f:Nat → Nat) (Ou In:Nat → Prop):Prop where
 lt:∀ x,x < N → m x < N
 inv:∀ x,x < N → m (m x) = x
 fl:∀ x,x < N → f x < N
 ff:∀ x,f (f x) = x
 fO:∀ x,Ou x → In (f x)
 fx:∀ x,¬ Ou x → ¬ In x → f x = x
 fI:∀ x,In x → Ou (f x)
 mI:∀ x,In x → In (m x)
 no:∀ x,Ou x → ¬ In x
variable {N:Nat} {m f:Nat → Nat} {Ou In:Nat → Prop}
theorem Sj.far (h:Sj N m f Ou In) {u:Nat} (hu:u < N) (ho:Ou u) (hm:¬ Ou (m u)):f (m u) = m u :=
 h.fx _ hm (fun hi => h.no u ho (by have := h.mI _ hi; rwa [h.inv u hu] at this))
theorem Sj.step (h:Sj N m f Ou In) {l:List Nat} {k:Nat} (hl:Half N m (cj f m) (fun x => ∃ u,u < k ∧ Ou u ∧ (x = f u ∨ x = f (m u))) l) (hk:k < N) (ho:Ou k) :
 Half N m (cj f m) (fun x => ∃ u,u < k + 1 ∧ Ou u ∧ (x = f u ∨ x = f (m u))) ((l.set (f k) (f (m k))).set (f (m k)) (f k)) := by
 refine (hl.join (h.fl _ hk) (h.fl _ (h.lt _ hk)) (by unfold cj; rw [h.ff]) (by unfold cj; rw [h.ff,h.inv k hk])).mono ?_
 rintro x ⟨u,hu,hou,hx⟩
 by_cases e:u = k
 ·subst e
  exact hx.elim (fun h => .inr (.inl h)) (fun h => .inr (.inr h))
 ·exact .inl ⟨u,by omega,hou,hx⟩
theorem Sj.skip {l:List Nat} {k:Nat} (hl:Half N m (cj f m) (fun x => ∃ u,u < k ∧ Ou u ∧ (x = f u ∨ x = f (m u))) l) (ho:¬ Ou k) :
 Half N m (cj f m) (fun x => ∃ u,u < k + 1 ∧ Ou u ∧ (x = f u ∨ x = f (m u))) l := by
 refine hl.mono ?_
 rintro x ⟨u,hu,hou,hx⟩
 by_cases e:u = k
 ·subst e; exact absurd hou ho
 ·exact ⟨u,by omega,hou,hx⟩
theorem Sj.all (h:Sj N m f Ou In) {l:List Nat} {W:Nat → Prop} (hl:Half N m (cj f m) W l) (hw:∀ u,u < N → Ou u → W (f u) ∧ W (f (m u)) ∧ W u):∀ x,x < N → l.getD x 0 = cj f m x := by
 refine hl.all (fun x hx => ?_)
 by_cases h1:Ou x
 ·exact .inl (hw x hx h1).2.2
 ·by_cases h2:In x
  ·have:=(hw (f x) (h.fl x hx) (h.fI x h2)).1
   rw [h.ff] at this
   exact .inl this
  ·have e:=h.fx x h1 h2
   by_cases h3:Ou (m x)
   ·have:=(hw (m x) (h.lt x hx) h3).2.1
    rw [h.inv x hx,e] at this
    exact .inl this
   ·have h4:¬ In (m x):=fun hi => h2 (by have := h.mI _ hi; rwa [h.inv x hx] at this)
    refine .inr ?_
    unfold cj
    rw [e,h.fx _ h3 h4]
end Go.Proofs.YtghdiolnonejaaaGreatDoor.Pl
end
section
namespace Go.Proofs.YtghdiolnonejaaaGreatDoor.Pl
def sm (f:Nat → Int):Nat → Int
 | 0 => 0
 | k + 1 => sm f k + f k
theorem sum_append' (l r:List Int):(l ++ r).sum = l.sum + r.sum := by simp
theorem sum_one (x:Int):[x].sum = x := by simp
theorem left_sum_one (f:Nat → Int) (c:Nat):∀ k,((left k [c]).map f).sum = sm f k - if c < k then f c else 0
 | 0 => by simp [left_zero,sm]
 | k + 1 => by
   rw [left_succ,List.map_append,sum_append',left_sum_one f c k]
   show _ = sm f k + f k - _
   by_cases h:k = c
   ·subst h; simp; try omega
   ·have:([c].contains k) = false:=by simp [h]
    rw [this]
    simp only [Bool.false_eq_true,if_false,List.map_cons,List.map_nil,sum_one]
    by_cases h2:c < k
    ·rw [if_pos h2,if_pos (by omega)]; omega
    ·rw [if_neg h2,if_neg (by omega)]; omega
theorem left_sum_two (f:Nat → Int) {x y:Nat} (hxy:x < y):∀ k,((left k [x,y]).map f).sum = sm f k - (if x < k then f x else 0) - if y < k then f y else 0
 | 0 => by simp [left_zero,sm]
 | k + 1 => by
   rw [left_succ,List.map_append,sum_append',left_sum_two f hxy k]
   show _ = sm f k + f k - _ - _
   by_cases h:k = x
   ·subst h
    have:([k,y].contains k) = true:=by simp
    rw [this]
    simp only [if_true,List.map_nil,List.sum_nil]
    rw [if_neg (Nat.lt_irrefl _),if_pos (Nat.lt_succ_self _),if_neg (by omega),if_neg (by omega)]
    omega
   ·by_cases h3:k = y
    ·subst h3
     have:([x,k].contains k) = true:=by simp
     rw [this]
     simp only [if_true,List.map_nil,List.sum_nil]
     rw [if_pos hxy,if_neg (Nat.lt_irrefl k),if_pos (show x < k + 1 by omega),if_pos (Nat.lt_succ_self k)]
     omega
    ·have:([x,y].contains k) = false:=by simp [h,h3]
     rw [this]
     simp only [Bool.false_eq_true,if_false,List.map_cons,List.map_nil,sum_one]
     by_cases h2:x < k <;> by_cases h4:y < k
     ·rw [if_pos h2,if_pos (show x < k + 1 by omega),if_pos h4,if_pos (show y < k + 1 by omega)]; omega
     ·rw [if_pos h2,if_pos (show x < k + 1 by omega),if_neg h4,if_neg (show ¬ y < k + 1 by omega)]; omega
     ·omega
     ·rw [if_neg h2,if_neg (show ¬ x < k + 1 by omega),if_neg h4,if_neg (show ¬ y < k + 1 by omega)]; omega
theorem sm_list (l:List Int):sm (fun c => l.getD c 0) l.length = l.sum := by
 have key:∀ (l:List Int) (k:Nat),k ≤ l.length → sm (fun c => l.getD c 0) k = (l.take k).sum:=by
  intro l k
  induction k with
  | zero => intro _; rfl
  | succ k ih =>
    intro h
    show sm _ k + l.getD k 0 = _
    rw [ih (by omega),List.take_add_one,List.getElem?_eq_getElem (by omega),sum_append',List.getD_eq_getElem?_getD,List.getElem?_eq_getElem (by omega)]
    simp
 rw [key l l.length (Nat.le_refl _),List.take_length]
theorem shrS_one (sg:List Int) {c:Nat} (h:c < sg.length):(shrS [c] sg).sum = sg.sum - sg.getD c 0 := by
 unfold shrS
 rw [left_sum_one,if_pos h,sm_list]
theorem shrS_two (sg:List Int) {x y:Nat} (hxy:x < y) (h:y < sg.length):(shrS [x,y] sg).sum = sg.sum - sg.getD x 0 - sg.getD y 0 := by
 unfold shrS
 rw [left_sum_two _ hxy,if_pos (by omega),if_pos h,sm_list]
theorem lens_signs {d:Dg} (hd:Wf d) {h:Nat} (hh:h < 4 * d.n) (hg:nx d (nx d h) = h) (hp:h % 2 = d.m h % 2):d.s (h / 4) + d.s (nx d h / 4) = 0 := by
 have hm:=hd.lt h hh
 have w1:=hd.way h hh
 have hgl:nx d h < 4 * d.n:=tn_lt hm
 have w2:=hd.way (nx d h) hgl
 have s1:=hd.sign (h / 4) (by omega)
 have s2:=hd.sign (d.m h / 4) (by omega)
 have e1:d.m (nx d h) / 4 = h / 4:=by
  have:=congrArg (· / 4) hg
  simp only [nx,tn_div] at this
  exact this
 have e2:d.m (nx d h) % 4 = (h % 4 + 1) % 4:=by
  have:=congrArg (· % 4) hg
  unfold nx at this
  simp only [tn_mod] at this
  rw [← this]
  unfold nx
  omega
 have e3:nx d h / 4 = d.m h / 4:=by unfold nx; rw [tn_div]
 have e4:nx d h % 4 = (d.m h % 4 + 3) % 4:=by unfold nx; rw [tn_mod]
 rw [e3]
 unfold out at w1 w2
 rw [e1,e2,e3,e4] at w2
 generalize d.s (h / 4) = s at *
 generalize d.s (d.m h / 4) = t at *
 have ha:h % 4 = 0 ∨ h % 4 = 1 ∨ h % 4 = 2 ∨ h % 4 = 3:=by omega
 have hb:d.m h % 4 = 0 ∨ d.m h % 4 = 1 ∨ d.m h % 4 = 2 ∨ d.m h % 4 = 3:=by omega
 rcases ha with a | a | a | a <;> rcases hb with b | b | b | b <;> (first | (exfalso; omega) | skip) <;> rw [a,b] at w1 w2 <;> rcases s1 with rfl | rfl <;> rcases s2 with rfl | rfl <;> simp at w1 w2 ⊢
end Go.Proofs.YtghdiolnonejaaaGreatDoor.Pl
end
section
namespace Go.Proofs.YtghdiolnonejaaaGreatDoor.Pl
variable {N:Nat} {S:Nat → Prop} {r a:Nat → Nat}
theorem Flat.bypass (h:Hm N S r a) {x y u v:Nat} (hx:S x) (hy:S y) (hu:S u) (hv:S v) (hxy:x ≠ y) (huv:u ≠ v) (xu:x ≠ u) (xv:x ≠ v) (yu:y ≠ u) (yv:y ≠ v)
 (fx:a x = x) (fy:a y = y) (fu:a u = u) (fv:a v = v) (ho:Orb (phi r a) u v) (hf:Flat S r (tr (tr a u x) v y)):Flat S r (tr a x y) := by
 have h1:=h.tr hu hx fu fx
 have fv1:tr a u x v = v:=by rw [tr_ne (Ne.symm huv) (Ne.symm xv),fv]
 have fy1:tr a u x y = y:=by rw [tr_ne yu (Ne.symm hxy),fy]
 obtain ⟨f1,k1⟩:=Flat.del h1 hv hy (Ne.symm yv) fv1 fy1 hf
 obtain ⟨f0,k0⟩:=Flat.del h hu hx (Ne.symm xu) fu fx f1
 have cuv:=orb_phi_con ho
 have ovu:=h.pb.symm hu ho
 have cvu:=orb_phi_con ovu
 refine Flat.add h hx hy hxy fx fy (fun hc => ?_) f0
 have c2:Con r (tr a u x) v y:=(h.con_tr hu hx fu fx hv).2 (.inr (.inl ⟨cvu,hc⟩))
 have o2:=k1 c2
 by_cases oux:Orb (phi r a) u x
 ·have sub : Orb (phi r a) v y := by
   rw [phi_tr] at o2
   refine orb_sub (h.pb.tr hu hx) h.pb.eqv (fun z hz => ?_) hv o2
   by_cases z1:z = u
   ·subst z1; rw [tr_a]; exact oux.trans (Orb.step _ _)
   ·by_cases z2:z = x
    ·subst z2; rw [tr_b]; exact (h.pb.symm hu oux).trans (Orb.step _ _)
    ·rw [tr_ne z1 z2]; exact Orb.step _ _
  exact (h.pb.symm hu oux).trans (ho.trans sub)
 ·rw [phi_tr,h.pb.merge hu hx oux hv] at o2
  rcases o2 with e | ⟨_,e⟩ | ⟨e,_⟩
  ·exact absurd (k0 ((orb_phi_con (ho.trans e)).trans (h.con_symm hx hc))) oux
  ·exact e
  ·exact absurd (ho.trans e) oux
def cut2 (a:Nat → Nat) (u v:Nat):Nat → Nat := tr (tr a u (a u)) v (a v)
def byp (a:Nat → Nat) (u v:Nat):Nat → Nat := tr (cut2 a u v) (a u) (a v)
theorem cut2_hm (h:Hm N S r a) {u v:Nat} (hu:S u) (hv:S v) (huv:u ≠ v) (nu:a u ≠ u) (nv:a v ≠ v) (nuv:a u ≠ v) :
 Hm N S r (cut2 a u v) ∧ cut2 a u v u = u ∧ cut2 a u v v = v ∧ cut2 a u v (a u) = a u ∧ cut2 a u v (a v) = a v ∧ a = tr (tr (cut2 a u v) u (a u)) v (a v) ∧ a u ≠ a v ∧ a v ≠ u := by
 have n1:a u ≠ a v:=fun e => huv (h.ab.inj _ _ hu hv e)
 have n2:a v ≠ u:=fun e => nuv (by rw [← e,h.inv v hv])
 obtain ⟨c1,c2,c3⟩:=Hm.cut h hu nu
 have e1:tr a u (a u) v = a v:=tr_ne (Ne.symm huv) (Ne.symm nuv)
 have e2:tr a u (a u) v ≠ v:=by rw [e1]; exact nv
 obtain ⟨d1,d2,d3⟩:=Hm.cut c1 hv e2
 rw [e1] at d1 d2 d3
 refine ⟨d1,?_,d2,?_,d3,?_,n1,n2⟩
 ·unfold cut2; rw [tr_ne huv (Ne.symm n2),c2]
 ·unfold cut2; rw [tr_ne nuv n1,c3]
 ·unfold cut2
  funext z
  by_cases z1:z = v
  ·subst z1
   rw [tr_a]
   rw [tr_ne n2 (Ne.symm n1),tr_b,tr_ne (Ne.symm huv) (Ne.symm nuv)]
  ·by_cases z2:z = a v
   ·subst z2
    rw [tr_b,tr_ne (Ne.symm huv) (Ne.symm nuv),tr_a,tr_ne n2 (Ne.symm n1)]
   ·rw [tr_ne z1 z2]
    by_cases z3:z = u
    ·subst z3
     rw [tr_a,tr_ne nuv n1,tr_b]
    ·by_cases z4:z = a u
     ·subst z4
      rw [tr_b,tr_ne huv (Ne.symm n2),tr_a]
     ·rw [tr_ne z3 z4,tr_ne z1 z2,tr_ne z3 z4]
theorem byp_flat (h:Hm N S r a) {u v:Nat} (hu:S u) (hv:S v) (huv:u ≠ v) (nu:a u ≠ u) (nv:a v ≠ v) (nuv:a u ≠ v) (ho:Orb (phi r (cut2 a u v)) u v) (hf:Flat S r a) :
 Hm N S r (byp a u v) ∧ Flat S r (byp a u v) := by
 obtain ⟨c0,c1,c2,c3,c4,c5,c6,c7⟩:=cut2_hm h hu hv huv nu nv nuv
 have hx:=h.ab.maps u hu
 have hy:=h.ab.maps v hv
 exact ⟨c0.tr hx hy c3 c4,Flat.bypass c0 hx hy hu hv c6 huv nu nuv c7 nv c3 c4 c1 c2 ho (by rw [← c5]; exact hf)⟩
theorem byp_at (h:Hm N S r a) {u v:Nat} (hu:S u) (hv:S v) (huv:u ≠ v) (nu:a u ≠ u) (nv:a v ≠ v) (nuv:a u ≠ v) :
 byp a u v u = u ∧ byp a u v v = v ∧ byp a u v (a u) = a v ∧ byp a u v (a v) = a u ∧ ∀ z,z ≠ u → z ≠ v → z ≠ a u → z ≠ a v → byp a u v z = a z := by
 obtain ⟨c0,c1,c2,c3,c4,c5,c6,c7⟩:=cut2_hm h hu hv huv nu nv nuv
 unfold byp
 refine ⟨by rw [tr_ne (Ne.symm nu) (Ne.symm c7),c1],by rw [tr_ne (Ne.symm nuv) (Ne.symm nv),c2],by rw [tr_a,c4],by rw [tr_b,c3],fun z z1 z2 z3 z4 => ?_⟩
 rw [tr_ne z3 z4]
 unfold cut2
 rw [tr_ne z2 z4,tr_ne z1 z3]
theorem cut2_at (u v:Nat) {z:Nat} (z1:z ≠ u) (z2:z ≠ v) (z3:z ≠ a u) (z4:z ≠ a v):cut2 a u v z = a z := by
 unfold cut2
 rw [tr_ne z2 z4,tr_ne z1 z3]
end Go.Proofs.YtghdiolnonejaaaGreatDoor.Pl
end
section
namespace Go.Proofs.YtghdiolnonejaaaGreatDoor.Pl
section
variable {N M:Nat} {S T:Nat → Prop} {r a r' a' t:Nat → Nat}
theorem it_map {f f':Nat → Nat} (hS:∀ x,S x → S (f x)) (e:∀ x,S x → f' (t x) = t (f x)) {x:Nat} (hx:S x):∀ k,it f' k (t x) = t (it f k x) ∧ S (it f k x)
 | 0 => ⟨rfl,hx⟩
 | k + 1 => by
   obtain ⟨h1,h2⟩:=it_map hS e hx k
   exact ⟨by show f' (it f' k (t x)) = t (f (it f k x)); rw [h1,e _ h2],hS _ h2⟩
theorem orb_map {f f':Nat → Nat} (hS:∀ x,S x → S (f x)) (e:∀ x,S x → f' (t x) = t (f x)) (inj:∀ x y,S x → S y → t x = t y → x = y) {x y:Nat} (hx:S x) (hy:S y):Orb f x y ↔ Orb f' (t x) (t y) := by
 constructor
 ·rintro ⟨k,rfl⟩; exact ⟨k,(it_map hS e hx k).1⟩
 ·rintro ⟨k,h⟩
  obtain ⟨h1,h2⟩:=it_map hS e hx k
  exact ⟨k,inj _ _ h2 hy (by rw [← h1,h])⟩
theorem con_map {x y:Nat} (hS:∀ x,S x → S (r x)) (hA:∀ x,S x → S (a x)) (er:∀ x,S x → r' (t x) = t (r x)) (ea:∀ x,S x → a' (t x) = t (a x)) (inj:∀ x y,S x → S y → t x = t y → x = y) (hx:S x) (hy:S y):Con r a x y ↔ Con r' a' (t x) (t y) := by
 have fw:∀ {y},Con r a x y → Con r' a' (t x) (t y) ∧ S y:=by
  intro y e
  induction e with
  | refl => exact ⟨.refl,hx⟩
  | left _ ih => exact ⟨er _ ih.2 ▸ ih.1.left,hS _ ih.2⟩
  | right _ ih => exact ⟨ea _ ih.2 ▸ ih.1.right,hA _ ih.2⟩
 have bw:∀ {v},Con r' a' (t x) v → ∃ y,S y ∧ t y = v ∧ Con r a x y:=by
  intro v e
  induction e with
  | refl => exact ⟨x,hx,rfl,.refl⟩
  | left _ ih => obtain ⟨y,h1,rfl,h3⟩:=ih; exact ⟨r y,hS _ h1,(er _ h1).symm,h3.left⟩
  | right _ ih => obtain ⟨y,h1,rfl,h3⟩:=ih; exact ⟨a y,hA _ h1,(ea _ h1).symm,h3.right⟩
 constructor
 ·intro e; exact (fw e).1
 ·intro e
  obtain ⟨y',h1,h2,h3⟩:=bw e
  rw [← inj _ _ h1 hy h2]; exact h3
theorem Gen.map (hS:∀ x,S x → S (r x)) (hA:∀ x,S x → S (a x)) (er:∀ x,S x → r' (t x) = t (r x)) (ea:∀ x,S x → a' (t x) = t (a x)) (inj:∀ x y,S x → S y → t x = t y → x = y)
 (hto:∀ x,S x → T (t x)) (onto:∀ y,T y → ∃ x,S x ∧ t x = y) {z:Int} (h:Gen S r a z):Gen T r' a' z := by
 obtain ⟨v,d,k,f,c,h1,h2,h3,h4,h5,rfl⟩:=h
 refine ⟨v,d,k,f,c,h1.map t hto onto fun x y hx hy => orb_map hS er inj hx hy,h2.map t hto onto fun x y hx hy => ⟨fun e => by rw [e],fun e => inj x y hx hy e⟩,h3.map t hto onto fun x y hx hy => orb_map hA ea inj hx hy,
  h4.map t hto onto fun x y hx hy => orb_map (fun x hx => hS _ (hA x hx)) (fun x hx => ?_) inj hx hy,h5.map t hto onto fun x y hx hy => con_map hS hA er ea inj hx hy,rfl⟩
 unfold phi
 rw [ea x hx,er _ (hA x hx)]
theorem Flat.sub {U:Nat → Prop} (h:Hm N S r a) (h':Hm N T r a) (hd:∀ x,S x → ¬ T x) (hu:∀ x,(S x ∨ T x) ↔ U x) (hf:Flat U r a):Flat S r a := by
 obtain ⟨z,hz⟩:=h.gen
 obtain ⟨z',hz'⟩:=h'.gen
 have n1:=Gen.nonneg h hz
 have n2:=Gen.nonneg h' hz'
 have e:(fun x => S x ∨ T x) = U:=funext fun x => propext (hu x)
 have hs:=Gen.add h h' hd hz hz'
 rw [e] at hs
 have:=hf.unique hs
 have:z = 0:=by omega
 rw [this] at hz
 exact hz
end
def idx (gs:List Nat) (c:Nat):Nat := c - (gs.filter (fun g => decide (g < c))).length
variable {gs:List Nat}
theorem shf_idx (hf:Few gs) (h:Nat):shf gs h = 4 * idx gs (h / 4) + h % 4 := by
 have:=hf (h / 4)
 unfold shf idx
 omega
theorem flt_succ (c:Nat):∀ gs:List Nat,gs.Nodup → (gs.filter (fun g => decide (g < c + 1))).length = (gs.filter (fun g => decide (g < c))).length + if c ∈ gs then 1 else 0
 | [],_ => by simp
 | g :: gs, hn => by
   obtain ⟨h1,h2⟩:=List.nodup_cons.1 hn
   have ih:=flt_succ c gs h2
   rw [List.filter_cons,List.filter_cons]
   by_cases e:c = g
   ·subst e
    rw [if_neg h1] at ih
    simp [ih]
   ·by_cases e2:g < c
    ·simp [e2,show g < c + 1 by omega,e,ih]; omega
    ·simp [e2,show ¬ g < c + 1 by omega,e,ih]
theorem left_idx (hn:gs.Nodup) (c:Nat):(gs.filter (fun g => decide (g < c))).length + (left c gs).length = c := by
 induction c with
 | zero => simp [left]
 | succ c ih =>
   rw [flt_succ c gs hn,left_succ,List.length_append]
   by_cases e:c ∈ gs <;> simp [e] <;> omega
theorem idx_left (hn:gs.Nodup) (c:Nat):idx gs c = (left c gs).length := by
 have:=left_idx hn c
 unfold idx; omega
theorem left_get (hn:gs.Nodup) {n c:Nat} (hc:c < n) (hg:c ∉ gs):(left n gs)[idx gs c]? = some c := by
 induction n with
 | zero => omega
 | succ n ih =>
   rw [left_succ]
   by_cases e:c = n
   ·subst e
    rw [idx_left hn,List.getElem?_append_right (Nat.le_refl _)]
    simp [hg]
   ·have h:=ih (by omega)
    have hl:idx gs c < (left n gs).length:=by
     rcases Nat.lt_or_ge (idx gs c) (left n gs).length with h1 | h1
     ·exact h1
     ·rw [List.getElem?_eq_none h1] at h; exact absurd h (by simp)
    rw [List.getElem?_append_left hl,h]
theorem idx_lt (hn:gs.Nodup) {n c:Nat} (hc:c < n) (hg:c ∉ gs):idx gs c < (left n gs).length := by
 have h:=left_get hn hc hg
 rcases Nat.lt_or_ge (idx gs c) (left n gs).length with h1 | h1
 ·exact h1
 ·rw [List.getElem?_eq_none h1] at h; exact absurd h (by simp)
theorem idx_onto (hn:gs.Nodup) {n i:Nat} (hi:i < (left n gs).length):∃ c,c < n ∧ c ∉ gs ∧ idx gs c = i := by
 induction n with
 | zero => simp [left] at hi
 | succ n ih =>
   rcases Nat.lt_or_ge i (left n gs).length with h | h
   ·obtain ⟨c,h1,h2,h3⟩:=ih h
    exact ⟨c,by omega,h2,h3⟩
   ·rw [left_succ,List.length_append] at hi
    by_cases e:n ∈ gs
    ·simp [e] at hi; omega
    ·simp [e] at hi
     exact ⟨n,by omega,e,by rw [idx_left hn]; omega⟩
theorem idx_inj (hn:gs.Nodup) {c c':Nat} (hg:c ∉ gs) (hg':c' ∉ gs) (e:idx gs c = idx gs c'):c = c' := by
 have h1:=left_get hn (n := c + c' + 1) (by omega) hg
 have h2:=left_get hn (n := c + c' + 1) (c := c') (by omega) hg'
 rw [e,h2] at h1
 injection h1 with h1
 exact h1.symm
theorem four_get (f:Nat → Nat) {s:Nat} (hs:s < 4):∀ (l:List Nat) (i:Nat),(l.flatMap (four f))[4 * i + s]? = l[i]?.map (fun c => f (4 * c + s))
 | [],i => by simp
 | c :: l, 0 => by
   rw [List.flatMap_cons]
   have:s = 0 ∨ s = 1 ∨ s = 2 ∨ s = 3:=by omega
   rcases this with rfl | rfl | rfl | rfl <;> simp [four]
 | c :: l, i + 1 => by
   have ih:=four_get f hs l i
   rw [List.flatMap_cons,List.getElem?_append_right (by simp [four]; omega)]
   have:4 * (i + 1) + s - (four f c).length = 4 * i + s:=by simp [four]; omega
   rw [this,ih]
   simp
def rsD (d:Dg) (gs mt:List Nat) (lp:Nat):Dg := ⟨shrS gs d.sg,shrM gs d.n mt,lp⟩
theorem rs_n (d:Dg) (gs mt:List Nat) (lp:Nat):(rsD d gs mt lp).n = (left d.n gs).length := shrS_len gs d.sg
theorem rs_s (hn:gs.Nodup) (d:Dg) (mt:List Nat) (lp:Nat) {c:Nat} (hc:c < d.n) (hg:c ∉ gs):(rsD d gs mt lp).s (idx gs c) = d.s c := by
 unfold rsD Dg.s shrS
 have e:=left_get hn hc hg
 unfold Dg.n at e
 rw [List.getD_eq_getElem?_getD,List.getElem?_map,e]
 rfl
theorem rs_m (hn:gs.Nodup) (hf:Few gs) (d:Dg) (mt:List Nat) (lp:Nat) {h:Nat} (hh:h < 4 * d.n) (hg:h / 4 ∉ gs):(rsD d gs mt lp).m (shf gs h) = shf gs (mt.getD h 0) := by
 unfold rsD Dg.m shrM
 rw [List.getD_eq_getElem?_getD,shf_idx hf h,four_get _ (Nat.mod_lt _ (by omega)),left_get hn (by omega) hg]
 simp only [Option.map_some,Option.getD_some]
 rw [show 4 * (h / 4) + h % 4 = h by omega]
def stay (d:Dg) (gs:List Nat) (h:Nat):Prop := h < 4 * d.n ∧ h / 4 ∉ gs
def gone (d:Dg) (gs:List Nat) (h:Nat):Prop := h < 4 * d.n ∧ h / 4 ∈ gs
theorem shf_lt (hn:gs.Nodup) (hf:Few gs) {d:Dg} (mt:List Nat) (lp:Nat) {h:Nat} (hh:stay d gs h):shf gs h < 4 * (rsD d gs mt lp).n := by
 rw [rs_n,shf_idx hf]
 have:=idx_lt hn (n := d.n) (c := h / 4) (by have := hh.1; omega) hh.2
 omega
theorem shf_inj (hn:gs.Nodup) (hf:Few gs) {g h:Nat} (h1:g / 4 ∉ gs) (h2:h / 4 ∉ gs) (e:shf gs g = shf gs h):g = h := by
 rw [shf_idx hf,shf_idx hf] at e
 have:=idx_inj hn h1 h2 (by omega)
 omega
theorem shf_onto (hn:gs.Nodup) (hf:Few gs) {d:Dg} (mt:List Nat) (lp:Nat) {y:Nat} (hy:y < 4 * (rsD d gs mt lp).n):∃ h,stay d gs h ∧ shf gs h = y := by
 rw [rs_n] at hy
 obtain ⟨c,h1,h2,h3⟩:=idx_onto hn (n := d.n) (i := y / 4) (by omega)
 refine ⟨4 * c + y % 4,⟨by omega,by rw [show (4 * c + y % 4) / 4 = c by omega]; exact h2⟩,?_⟩
 rw [shf_idx hf,show (4 * c + y % 4) / 4 = c by omega,h3]
 omega
theorem shf_tn (hf:Few gs) (h k:Nat):tn (shf gs h) k = shf gs (tn h k) := by
 rw [shf_idx hf,shf_idx hf,tn_div]
 unfold tn
 omega
theorem shf_div (hf:Few gs) (h:Nat):shf gs h / 4 = idx gs (h / 4) := by rw [shf_idx hf]; omega
theorem rs_out (hn:gs.Nodup) (hf:Few gs) (d:Dg) (mt:List Nat) (lp:Nat) {h:Nat} (hh:stay d gs h):out (rsD d gs mt lp) (shf gs h) = out d h := by
 have e:=rs_s hn d mt lp (c := h / 4) (by have := hh.1; omega) hh.2
 have e2:shf gs h % 4 = h % 4:=by rw [shf_idx hf]; omega
 unfold out
 rw [shf_div hf,e,e2]
structure Rs (d:Dg) (gs mt:List Nat) (lp:Nat) (b:Nat → Nat):Prop where
 nd:gs.Nodup
 few:Few gs
 hm:Hm (4 * d.n) (dart d) rot b
 cl:∀ h,gone d gs h → b h / 4 ∈ gs
 at_:∀ h,stay d gs h → mt.getD h 0 = b h
 way:∀ h,stay d gs h → out d h ≠ out d (b h)
 lp:lp ≤ 64
variable {d:Dg} {mt:List Nat} {lp:Nat} {b:Nat → Nat}
theorem Rs.stay (R:Rs d gs mt lp b) {h:Nat} (hh:stay d gs h):stay d gs (b h) := by
 have hl:=R.hm.ab.maps h hh.1
 refine ⟨hl,fun e => hh.2 ?_⟩
 have:=R.cl (b h) ⟨hl,e⟩
 rwa [R.hm.inv h hh.1] at this
theorem Rs.m (R:Rs d gs mt lp b) {h:Nat} (hh:Pl.stay d gs h):(rsD d gs mt lp).m (shf gs h) = shf gs (b h) := by
 rw [rs_m R.nd R.few d mt lp hh.1 hh.2,R.at_ h hh]
theorem rot_stay {h:Nat} (hh:stay d gs h):stay d gs (rot h) := ⟨tn_lt hh.1,by show tn h 3 / 4 ∉ gs; rw [tn_div]; exact hh.2⟩
theorem tn_stay {h k:Nat} (hh:stay d gs h):stay d gs (tn h k) := ⟨tn_lt hh.1,by rw [tn_div]; exact hh.2⟩
theorem rot_gone {h:Nat} (hh:gone d gs h):gone d gs (rot h) := ⟨tn_lt hh.1,by show tn h 3 / 4 ∈ gs; rw [tn_div]; exact hh.2⟩
theorem Rs.wf (hd:Wf d) (R:Rs d gs mt lp b):Wf (rsD d gs mt lp) := by
 have hle:=left_le d.n gs
 refine wf_by (by rw [rs_n]; have := hd.few; omega) (by rw [rs_n]; exact shrM_len gs d.n mt) R.lp (fun c hc => ?_) (fun z hz => ?_)
 ·rw [rs_n] at hc
  obtain ⟨c,h1,h2,rfl⟩:=idx_onto R.nd hc
  rw [rs_s R.nd d mt lp h1 h2]
  exact hd.sign c h1
 ·obtain ⟨h,hs,rfl⟩:=shf_onto R.nd R.few mt lp hz
  have hb:=R.stay hs
  rw [R.m hs,R.m hb,R.hm.inv h hs.1,rs_out R.nd R.few d mt lp hs,rs_out R.nd R.few d mt lp hb]
  exact ⟨shf_lt R.nd R.few mt lp hb,rfl,R.way h hs⟩
theorem Rs.valid (hd:Wf d) (R:Rs d gs mt lp b) (hf:Flat (dart d) rot b):Valid (rsD d gs mt lp) := by
 refine Valid.iff.2 ⟨R.wf hd,?_⟩
 have h1:Hm (4 * d.n) (Pl.stay d gs) rot b:=⟨⟨fun _ h => h.1,fun _ h => rot_stay h,fun x y hx hy e => R.hm.rb.inj x y hx.1 hy.1 e⟩,⟨fun _ h => h.1,fun _ h => R.stay h,fun x y hx hy e => R.hm.ab.inj x y hx.1 hy.1 e⟩,fun x hx => R.hm.inv x hx.1⟩
 have h2:Hm (4 * d.n) (gone d gs) rot b:=⟨⟨fun _ h => h.1,fun _ h => rot_gone h,fun x y hx hy e => R.hm.rb.inj x y hx.1 hy.1 e⟩,⟨fun _ h => h.1,fun x h => ⟨R.hm.ab.maps x h.1,R.cl x h⟩,fun x y hx hy e => R.hm.ab.inj x y hx.1 hy.1 e⟩,fun x hx => R.hm.inv x hx.1⟩
 have fs:Flat (Pl.stay d gs) rot b:=Flat.sub h1 h2 (fun x hx hy => hx.2 hy.2) (fun x => ⟨fun h => h.elim (·.1) (·.1),fun h => (Classical.em (x / 4 ∈ gs)).elim (fun e => .inr ⟨h,e⟩) (fun e => .inl ⟨h,e⟩)⟩) hf
 exact Gen.map (S := Pl.stay d gs) (t := shf gs) (fun x hx => rot_stay hx) (fun x hx => R.stay hx) (fun x hx => shf_tn R.few x 3) (fun x hx => R.m hx) (fun x y hx hy e => shf_inj R.nd R.few hx.2 hy.2 e) (fun x hx => shf_lt R.nd R.few mt lp hx) (fun y hy => shf_onto R.nd R.few mt lp hy) fs
end Go.Proofs.YtghdiolnonejaaaGreatDoor.Pl
end
section
namespace Go.Proofs.YtghdiolnonejaaaGreatDoor.Pl
variable {d:Dg}
theorem rot_rot (h:Nat):rot (rot h) = tn h 2 := by unfold rot; rw [tn_tn]; unfold tn; omega
theorem st_bij (hd:Wf d):Bij (4 * d.n) (dart d) (st d) :=
 ⟨fun _ h => h,fun x hx => tn_lt (hd.lt x hx),fun x y hx hy e => hd.bij.inj x y hx hy (tn_inj e)⟩
theorem out_st (hd:Wf d) {h:Nat} (hh:h < 4 * d.n):out d (st d h) = out d h := by
 unfold st
 rw [out_opp hd (hd.lt h hh),out_way hd hh,Bool.not_not]
theorem out_it (hd:Wf d) {h:Nat} (hh:h < 4 * d.n):∀ k,out d (it (st d) k h) = out d h
 | 0 => rfl
 | k + 1 => by
   show out d (st d (it (st d) k h)) = _
   rw [out_st hd ((st_bij hd).it k h hh),out_it hd hh k]
theorem least_back {N:Nat} {S:Nat → Prop} {f:Nat → Nat} (h:Bij N S f) {x:Nat} (hx:S x):∃ p,0 < p ∧ it f p x = x ∧ ∀ j,0 < j → j < p → it f j x ≠ x := by
 obtain ⟨p,p0,_,e⟩:=h.back hx
 obtain ⟨q,⟨q0,hq⟩,hmin⟩:=least_of (p := fun k => 0 < k ∧ it f k x = x) p ⟨p0,e⟩
 exact ⟨q,q0,hq,fun j j0 jq e2 => by have := hmin j ⟨j0,e2⟩; omega⟩
theorem no_opp (hd:Valid d) {o:Nat} (ho:o < 4 * d.n):d.m o ≠ tn o 2 := by
 intro he
 have hv:=Valid.iff.1 hd
 have hw:=hv.1
 have hm:=hw.hm
 have ho2:tn o 2 < 4 * d.n:=tn_lt ho
 have hne:o ≠ tn o 2:=fun e => hw.ne o ho (by rw [he]; exact e.symm)
 -- the half-edge q of the other strand that comes in,p that goes out
 obtain ⟨p,q,hpq,hqp,hcase,hop,hoq⟩:∃ p q,q = tn p 2 ∧ p = tn q 2 ∧ (q = tn o 1 ∨ q = tn o 3) ∧ out d p = true ∧ out d q = false := by
  have h1:out d (tn (tn o 1) 2) = !out d (tn o 1):=out_opp hw (tn_lt ho)
  rw [tn_tn] at h1
  cases e:out d (tn o 1) with
  | true => exact ⟨tn o 1,tn o 3,by rw [tn_tn],by rw [tn_tn]; unfold tn; omega,.inr rfl,e,by rw [h1,e]; rfl⟩
  | false => exact ⟨tn o 3,tn o 1,by rw [tn_tn]; unfold tn; omega,by rw [tn_tn],.inl rfl,by rw [h1,e]; rfl,e⟩
 have hq:q < 4 * d.n:=by rcases hcase with rfl | rfl <;> exact tn_lt ho
 have hp:p < 4 * d.n:=by rw [hqp]; exact tn_lt hq
 have qo:q ≠ o:=by rcases hcase with rfl | rfl <;> (unfold tn; omega)
 have qo2:q ≠ tn o 2:=by rcases hcase with rfl | rfl <;> (unfold tn; omega)
 have po:p ≠ o:=by rw [hqp]; rcases hcase with rfl | rfl <;> (unfold tn; omega)
 have po2:p ≠ tn o 2:=by rw [hqp]; rcases hcase with rfl | rfl <;> (unfold tn; omega)
 obtain ⟨y,hy⟩:∃ y,y = d.m q := ⟨_,rfl⟩
 have hyl:y < 4 * d.n:=by rw [hy]; exact hw.lt q hq
 have hyq:d.m y = q:=by rw [hy,hw.inv q hq]
 have yo:y ≠ o:=fun e => by rw [e,he] at hyq; exact qo2 hyq.symm
 have hmo2:d.m (tn o 2) = o:=by rw [← he,hw.inv o ho]
 have yo2:y ≠ tn o 2:=fun e => by rw [e,hmo2] at hyq; exact qo hyq.symm
 have qy:q ≠ y:=fun e => hw.ne q hq (by rw [← hy]; exact e.symm)
 -- without the edge o
 obtain ⟨c1,c2,c3⟩:=Hm.cut hm ho (hw.ne o ho)
 rw [he] at c1 c2 c3
 obtain ⟨a0,ha0⟩:∃ a0,a0 = tr d.m o (tn o 2) := ⟨_,rfl⟩
 rw [← ha0] at c1 c2 c3
 have a0e:tr a0 o (tn o 2) = d.m:=by rw [ha0,tr_tr]
 obtain ⟨f0,k0⟩:=Flat.del c1 ho ho2 hne c2 c3 (by rw [a0e]; exact hv.2)
 have a0q:a0 q = y:=by rw [ha0,tr_ne qo qo2,hy]
 have a0y:a0 y = q:=by rw [ha0,tr_ne yo yo2,hyq]
 -- and without the edge q
 obtain ⟨d1,d2,d3⟩:=Hm.cut c1 hq (by rw [a0q]; exact Ne.symm qy)
 rw [a0q] at d1 d2 d3
 obtain ⟨a1,ha1⟩:∃ a1,a1 = tr a0 q y := ⟨_,rfl⟩
 rw [← ha1] at d1 d2 d3
 have a1e:tr a1 q y = a0:=by rw [ha1,tr_tr]
 obtain ⟨f1,k1⟩:=Flat.del d1 hq hyl qy d2 d3 (by rw [a1e]; exact f0)
 have a1z:∀ z,z ≠ o → z ≠ tn o 2 → z ≠ q → z ≠ y → a1 z = d.m z:=fun z z1 z2 z3 z4 => by rw [ha1,tr_ne z3 z4,ha0,tr_ne z1 z2]
 have rr:∀ z,Con rot a1 z (tn z 2):=fun z => by rw [← rot_rot]; exact (Con.refl.left).left
 -- the strand of p comes back along q's edge
 have hsb:=st_bij hw
 have fo:st d o = o:=by unfold st; rw [he,tn_tn]; exact tn_four o
 have fo2:st d (tn o 2) = tn o 2:=by unfold st; rw [hmo2]
 obtain ⟨k,kp,ke,kl⟩:=least_back hsb (x := p) hp
 have run:∀ j,j < k → Con rot a1 p (it (st d) j p):=by
  intro j
  induction j with
  | zero => intro _; exact .refl
  | succ j ih =>
    intro hj
    have h1:=ih (by omega)
    have hz:=hsb.it j p hp
    obtain ⟨z,ez⟩:∃ z,z = it (st d) j p := ⟨_,rfl⟩
    show Con rot a1 p (st d (it (st d) j p))
    rw [← ez] at h1 hz ⊢
    have hfix:∀ w,dart d w → st d w = w → z ≠ w → True:=fun _ _ _ _ => trivial
    have zo:z ≠ o:=fun e => by
     have e2:it (st d) j p = it (st d) j o:=by
      rw [← ez,e]
      have:∀ i,it (st d) i o = o:=fun i => by
       induction i with
       | zero => rfl
       | succ i ih => show st d (it (st d) i o) = o; rw [ih,fo]
      exact (this j).symm
     exact po (hsb.it_inj j p o hp ho e2)
    have zo2:z ≠ tn o 2:=fun e => by
     have e2:it (st d) j p = it (st d) j (tn o 2):=by
      rw [← ez,e]
      have:∀ i,it (st d) i (tn o 2) = tn o 2:=fun i => by
       induction i with
       | zero => rfl
       | succ i ih => show st d (it (st d) i (tn o 2)) = tn o 2; rw [ih,fo2]
      exact (this j).symm
     exact po2 (hsb.it_inj j p _ hp ho2 e2)
    have zq:z ≠ q:=fun e => by
     have:=out_it hw hp j
     rw [← ez,e,hop,hoq] at this
     exact absurd this (by decide)
    have zy:z ≠ y:=fun e => by
     apply kl (j + 1) (by omega) hj
     show st d (it (st d) j p) = p
     rw [← ez,e]
     unfold st
     rw [hyq,← hqp]
    have e3:a1 z = d.m z:=a1z z zo zo2 zq zy
    have h2:Con rot a1 p (d.m z):=by rw [← e3]; exact h1.right
    exact h2.trans (rr (d.m z))
 have hlast:it (st d) (k - 1) p = y:=by
  have e:st d (it (st d) (k - 1) p) = p:=by
   have:it (st d) (k - 1 + 1) p = p:=by rw [show k - 1 + 1 = k by omega]; exact ke
   exact this
  have hz:=hsb.it (k - 1) p hp
  have e2:st d y = p:=by unfold st; rw [hyq,← hqp]
  exact hsb.inj _ _ hz hyl (e.trans e2.symm)
 have cpy:Con rot a1 p y:=by have := run (k - 1) (by omega); rwa [hlast] at this
 have cqy:Con rot a1 q y:=by
  have:=rr q
  rw [← hqp] at this
  exact this.trans cpy
 have hn:¬ Orb (phi rot a0) q y:=by
  rw [← a1e,phi_tr]
  exact d1.pb.part hq hyl qy (k1 cqy)
 have coo:Con rot a0 o (tn o 2):=by rw [← rot_rot]; exact (Con.refl.left).left
 have ooo:=k0 coo
 have py:phi rot a0 y = rot q:=by unfold phi; rw [a0y]
 have po':phi rot a0 o = rot o:=by unfold phi; rw [c2]
 have po2':phi rot a0 (tn o 2) = rot (tn o 2):=by unfold phi; rw [c3]
 have sym:=fun {x y} (hx:dart d x) (e:Orb (phi rot a0) x y) => c1.pb.symm hx e
 rcases hcase with e | e
 ·-- q = tn o 1: o2 goes to q,y goes to o
  have s1:Orb (phi rot a0) (tn o 2) q:=by
   have:=Orb.step (phi rot a0) (tn o 2)
   rw [po2',show rot (tn o 2) = q by rw [e]; unfold rot; rw [tn_tn]; unfold tn; omega] at this
   exact this
  have s2:Orb (phi rot a0) y o:=by
   have:=Orb.step (phi rot a0) y
   rw [py,show rot q = o by rw [e]; unfold rot; rw [tn_tn]; exact tn_four o] at this
   exact this
  exact hn (sym hyl (s2.trans (ooo.trans s1)))
 ·have s1 : Orb (phi rot a0) o q := by
   have:=Orb.step (phi rot a0) o
   rw [po',show rot o = q by rw [e]; rfl] at this
   exact this
  have s2:Orb (phi rot a0) y (tn o 2):=by
   have:=Orb.step (phi rot a0) y
   rw [py,show rot q = tn o 2 by rw [e]; unfold rot; rw [tn_tn]; unfold tn; omega] at this
   exact this
  exact hn (sym hyl (s2.trans ((sym ho ooo).trans s1)))
end Go.Proofs.YtghdiolnonejaaaGreatDoor.Pl
end
section
namespace Go.Proofs.YtghdiolnonejaaaGreatDoor.Pl
variable {d:Dg}
theorem tn_ne {h j k:Nat} (e:j % 4 ≠ k % 4):tn h j ≠ tn h k := by unfold tn; omega
theorem dg_m {d:Dg} (hd:Wf d) {h:Nat} (hh:h < 4 * d.n):d.mt.getD h 0 = d.m h := by
 unfold Dg.m
 have:=hd.len
 rw [List.getD_eq_getElem?_getD,List.getD_eq_getElem?_getD,List.getElem?_eq_getElem (by omega)]
 rfl
theorem kink_four (hd:Valid d) {o:Nat} (ho:o < 4 * d.n) (hk:d.m o / 4 = o / 4):d.m o = tn o 1 ∨ d.m o = tn o 3 := by
 have h1:=no_opp hd ho
 have h2:=(Valid.iff.1 hd).1.ne o ho
 unfold tn at h1 ⊢
 omega
theorem kink_byp (hd:Valid d) {o:Nat} (ho:o < 4 * d.n) (hk:d.m o / 4 = o / 4) (hn:d.m (tn o 2) ≠ tn (d.m o) 2) :
 Hm (4 * d.n) (dart d) rot (byp d.m (tn (d.m o) 2) (tn o 2)) ∧ Flat (dart d) rot (byp d.m (tn (d.m o) 2) (tn o 2)) := by
 have hv:=Valid.iff.1 hd
 have hw:=hv.1
 have hi:=hw.lt o ho
 have hA:tn o 2 < 4 * d.n:=tn_lt ho
 have hB:tn (d.m o) 2 < 4 * d.n:=tn_lt hi
 have hBA:tn (d.m o) 2 ≠ tn o 2:=fun e => hw.ne o ho (tn_inj e)
 have hmBA:d.m (tn (d.m o) 2) ≠ tn o 2:=fun e => hn (by rw [← e,hw.inv _ hB])
 obtain ⟨c0,c1,c2,c3,c4,c5,c6,c7⟩:=cut2_hm hw.hm hB hA hBA (hw.ne _ hB) (hw.ne _ hA) hmBA
 refine byp_flat hw.hm hB hA hBA (hw.ne _ hB) (hw.ne _ hA) hmBA ?_ hv.2
 rcases kink_four hd ho hk with e | e
 ·-- B's next is A
  have s1:=Orb.step (phi rot (cut2 d.m (tn (d.m o) 2) (tn o 2))) (tn (d.m o) 2)
  rw [show phi rot (cut2 d.m (tn (d.m o) 2) (tn o 2)) (tn (d.m o) 2) = tn o 2 by
   unfold phi; rw [c1,e]; unfold rot; rw [tn_tn,tn_tn]; unfold tn; omega] at s1
  exact s1
 ·have s1:=Orb.step (phi rot (cut2 d.m (tn (d.m o) 2) (tn o 2))) (tn (d.m o) 2)
  rw [show phi rot (cut2 d.m (tn (d.m o) 2) (tn o 2)) (tn (d.m o) 2) = o by
   unfold phi; rw [c1,e]; unfold rot; rw [tn_tn,tn_tn]; unfold tn; omega] at s1
  have n1:o ≠ tn (d.m o) 2:=by rw [e,tn_tn]; unfold tn; omega
  have n2:o ≠ tn o 2:=by unfold tn; omega
  have n3:o ≠ d.m (tn (d.m o) 2):=fun e2 => by
   have:d.m o = tn (d.m o) 2:=by have h := hw.inv _ hB; rw [← e2] at h; exact h
   unfold tn at this; omega
  have n4:o ≠ d.m (tn o 2):=fun e2 => by
   have:d.m o = tn o 2:=by have h := hw.inv _ hA; rw [← e2] at h; exact h
   exact no_opp hd ho this
  have s2:=Orb.step (phi rot (cut2 d.m (tn (d.m o) 2) (tn o 2))) o
  rw [show phi rot (cut2 d.m (tn (d.m o) 2) (tn o 2)) o = tn o 2 by
   unfold phi; rw [cut2_at _ _ n1 n2 n3 n4,e]; unfold rot; rw [tn_tn]; unfold tn; omega] at s2
  exact s1.trans s2
theorem kink_rs (hd:Valid d) {o:Nat} (ho:o < 4 * d.n) (hk:d.m o / 4 = o / 4) (hn:d.m (tn o 2) ≠ tn (d.m o) 2) {mt:List Nat} {lp:Nat} (hl:lp ≤ 64)
 (hmt:∀ h,h < 4 * d.n → mt.getD h 0 = if h = d.m (tn o 2) then d.m (tn (d.m o) 2) else if h = d.m (tn (d.m o) 2) then d.m (tn o 2) else d.m h) :
 Rs d [o / 4] mt lp (byp d.m (tn (d.m o) 2) (tn o 2)) := by
 have hw:=(Valid.iff.1 hd).1
 have hi:=hw.lt o ho
 have hA:tn o 2 < 4 * d.n:=tn_lt ho
 have hB:tn (d.m o) 2 < 4 * d.n:=tn_lt hi
 have hBA:tn (d.m o) 2 ≠ tn o 2:=fun e => hw.ne o ho (tn_inj e)
 have hmBA:d.m (tn (d.m o) 2) ≠ tn o 2:=fun e => hn (by rw [← e,hw.inv _ hB])
 obtain ⟨b1,b2,b3,b4,b5⟩:=byp_at hw.hm hB hA hBA (hw.ne _ hB) (hw.ne _ hA) hmBA
 have q1:tn o 2 / 4 = o / 4:=tn_div o 2
 have q2:tn (d.m o) 2 / 4 = o / 4:=by rw [tn_div,hk]
 have four:=kink_four hd ho hk
 have inv:=hw.inv o ho
 -- the mates of A and B lie elsewhere
 have uA:d.m (tn o 2) / 4 ≠ o / 4:=fun e => by
  have h1:d.m (tn o 2) = o ∨ d.m (tn o 2) = d.m o ∨ d.m (tn o 2) = tn o 2 ∨ d.m (tn o 2) = tn (d.m o) 2:=by rcases four with h | h <;> rw [h] <;> unfold tn at * <;> omega
  rcases h1 with h | h | h | h
  ·have:tn o 2 = d.m o:=by have h2 := hw.inv _ hA; rw [h] at h2; exact h2.symm
   exact no_opp hd ho this.symm
  ·have:=hw.bij.inj _ _ hA ho h; unfold tn at this; omega
  ·exact hw.ne _ hA h
  ·exact hn h
 have uB:d.m (tn (d.m o) 2) / 4 ≠ o / 4:=fun e => by
  have h1:d.m (tn (d.m o) 2) = o ∨ d.m (tn (d.m o) 2) = d.m o ∨ d.m (tn (d.m o) 2) = tn o 2 ∨ d.m (tn (d.m o) 2) = tn (d.m o) 2:=by rcases four with h | h <;> rw [h] at e ⊢ <;> unfold tn at * <;> omega
  rcases h1 with h | h | h | h
  ·have:tn (d.m o) 2 = d.m o:=by have h2 := hw.inv _ hB; rw [h] at h2; exact h2.symm
   unfold tn at this; omega
  ·have:=hw.bij.inj _ _ hB ho h
   exact no_opp hd hi (by rw [inv]; exact this.symm)
  ·exact hmBA h
  ·exact hw.ne _ hB h
 refine ⟨by simp,few_one _,(kink_byp hd ho hk hn).1,fun h hg => ?_,fun h hs => ?_,fun h hs => ?_,hl⟩
 ·have hc:h / 4 = o / 4:=by simpa using hg.2
  have h1:h = o ∨ h = d.m o ∨ h = tn o 2 ∨ h = tn (d.m o) 2:=by rcases four with h | h <;> rw [h] <;> unfold tn at * <;> omega
  have t1:o ≠ tn (d.m o) 2:=by rcases four with h | h <;> rw [h,tn_tn] <;> (unfold tn; omega)
  have t2:o ≠ tn o 2:=by unfold tn; omega
  have t3:d.m o ≠ tn (d.m o) 2:=by unfold tn; omega
  have t4:d.m o ≠ tn o 2:=no_opp hd ho
  rcases h1 with rfl | rfl | rfl | rfl
  ·rw [b5 h t1 t2 (fun e => uB (by rw [← e])) (fun e => uA (by rw [← e]))]; simpa using hk
  ·rw [b5 _ t3 t4 (fun e => uB (by rw [← e,hk])) (fun e => uA (by rw [← e,hk])),inv]; simp
  ·rw [b2]; simpa using q1
  ·rw [b1]; simpa using q2
 ·have hc:h / 4 ≠ o / 4:=by simpa using hs.2
  rw [hmt h hs.1]
  by_cases e1:h = d.m (tn o 2)
  ·rw [if_pos e1,e1,b4]
  ·rw [if_neg e1]
   by_cases e2:h = d.m (tn (d.m o) 2)
   ·rw [if_pos e2,e2,b3]
   ·rw [if_neg e2,b5 h (fun e => hc (by rw [e,q2])) (fun e => hc (by rw [e,q1])) e2 e1]
 ·have hc:h / 4 ≠ o / 4:=by simpa using hs.2
  have oA:out d (d.m (tn o 2)) = out d o:=by rw [out_way hw hA,out_opp hw ho,Bool.not_not]
  have oB:out d (d.m (tn (d.m o) 2)) = !out d o:=by rw [out_way hw hB,out_opp hw hi,out_way hw ho,Bool.not_not]
  by_cases e1:h = d.m (tn o 2)
  ·rw [e1,b4,oA,oB]; cases out d o <;> decide
  ·by_cases e2:h = d.m (tn (d.m o) 2)
   ·rw [e2,b3,oA,oB]; cases out d o <;> decide
   ·rw [b5 h (fun e => hc (by rw [e,q2])) (fun e => hc (by rw [e,q1])) e2 e1]
    exact hw.way h hs.1
theorem kink_rs0 (hd:Valid d) {o:Nat} (ho:o < 4 * d.n) (hk:d.m o / 4 = o / 4) (hn:d.m (tn o 2) = tn (d.m o) 2) {lp:Nat} (hl:lp ≤ 64):Rs d [o / 4] d.mt lp d.m := by
 have hw:=(Valid.iff.1 hd).1
 have hi:=hw.lt o ho
 have hA:tn o 2 < 4 * d.n:=tn_lt ho
 have four:=kink_four hd ho hk
 refine ⟨by simp,few_one _,hw.hm,fun h hg => ?_,fun h hs => dg_m hw hs.1,fun h hs => hw.way h hs.1,hl⟩
 have hc:h / 4 = o / 4:=by simpa using hg.2
 have h1:h = o ∨ h = d.m o ∨ h = tn o 2 ∨ h = tn (d.m o) 2:=by rcases four with h | h <;> rw [h] <;> unfold tn at * <;> omega
 rcases h1 with rfl | rfl | rfl | rfl
 ·simpa using hk
 ·rw [hw.inv o ho]; simp
 ·rw [hn,tn_div,hk]; simp
 ·rw [← hn,hw.inv _ hA,tn_div]; simp
theorem kink_valid (hd:Valid d) {o:Nat} (ho:o < 4 * d.n) (hk:d.m o / 4 = o / 4) (hn:d.m (tn o 2) ≠ tn (d.m o) 2) {mt:List Nat} {lp:Nat} (hl:lp ≤ 64)
 (hmt:∀ h,h < 4 * d.n → mt.getD h 0 = if h = d.m (tn o 2) then d.m (tn (d.m o) 2) else if h = d.m (tn (d.m o) 2) then d.m (tn o 2) else d.m h):Valid (rsD d [o / 4] mt lp) :=
 (kink_rs hd ho hk hn hl hmt).valid (Valid.iff.1 hd).1 (kink_byp hd ho hk hn).2
theorem kink_valid0 (hd:Valid d) {o:Nat} (ho:o < 4 * d.n) (hk:d.m o / 4 = o / 4) (hn:d.m (tn o 2) = tn (d.m o) 2) {lp:Nat} (hl:lp ≤ 64):Valid (rsD d [o / 4] d.mt lp) :=
 (kink_rs0 hd ho hk hn hl).valid (Valid.iff.1 hd).1 (Valid.iff.1 hd).2
end Go.Proofs.YtghdiolnonejaaaGreatDoor.Pl
end
section
namespace Go.Proofs.YtghdiolnonejaaaGreatDoor.Pl
variable {d:Dg}
def Wy (d:Dg) (b:Nat → Nat):Prop := ∀ z,z < 4 * d.n → b z ≠ z → out d (b z) = !out d z
theorem wy_m (hd:Wf d):Wy d d.m := fun z hz _ => out_way hd hz
theorem byp_wy {b:Nat → Nat} (h:Hm (4 * d.n) (dart d) rot b) (hw:Wy d b) {u v:Nat} (hu:u < 4 * d.n) (hv:v < 4 * d.n) (huv:u ≠ v) (nu:b u ≠ u) (nv:b v ≠ v) (nuv:b u ≠ v) (ho:out d v = !out d u):Wy d (byp b u v) := by
 obtain ⟨b1,b2,b3,b4,b5⟩:=byp_at h hu hv huv nu nv nuv
 intro z hz hne
 by_cases z1:z = u
 ·subst z1; exact absurd b1 hne
 ·by_cases z2:z = v
  ·subst z2; exact absurd b2 hne
  ·by_cases z3:z = b u
   ·rw [z3,b3,hw u hu nu,hw v hv nv,ho]
   ·by_cases z4:z = b v
    ·rw [z4,b4,hw u hu nu,hw v hv nv,ho,Bool.not_not]
    ·rw [b5 z z1 z2 z3 z4] at hne ⊢
     exact hw z hz hne
structure Lens (d:Dg) (h u:Nat):Prop where
 hh:h < 4 * d.n
 m0:d.m h = u
 m1:d.m (tn h 1) = tn u 3
 ne:h / 4 ≠ u / 4
def cls (b:Nat → Nat) (u v:Nat):Nat → Nat := if b u = v then b else byp b u v
section
variable {h u:Nat}
theorem Lens.hu (hd:Wf d) (L:Lens d h u):u < 4 * d.n := by rw [← L.m0]; exact hd.lt h L.hh
theorem Lens.m2 (hd:Wf d) (L:Lens d h u):d.m u = h := by rw [← L.m0]; exact hd.inv h L.hh
theorem Lens.m3 (hd:Wf d) (L:Lens d h u):d.m (tn u 3) = tn h 1 := by rw [← L.m1]; exact hd.inv _ (tn_lt L.hh)
def lA (d:Dg) (h u:Nat):Nat → Nat := cls d.m (tn h 2) (tn u 2)
def lB (d:Dg) (h u:Nat):Nat → Nat := cls (lA d h u) (tn h 3) (tn u 1)
theorem ap {x y:Nat} (e:x / 4 ≠ y / 4):x ≠ y := fun h => e (by rw [h])
theorem pm {j k h u:Nat} (e:h / 4 ≠ u / 4):tn h j ≠ tn u k := ap (by rw [tn_div,tn_div]; exact e)
theorem pm0 {j h u:Nat} (e:h / 4 ≠ u / 4):tn h j ≠ u := ap (by rw [tn_div]; exact e)
theorem pm1 {k h u:Nat} (e:h / 4 ≠ u / 4):h ≠ tn u k := ap (by rw [tn_div]; exact e)
theorem pmz {h k:Nat} (e:k % 4 ≠ 0):h ≠ tn h k := by unfold tn; omega
structure LA (d:Dg) (h u:Nat) (b:Nat → Nat):Prop where
 hm:Hm (4 * d.n) (dart d) rot b
 fl:Flat (dart d) rot b
 wy:Wy d b
 e0:b h = u
 e1:b (tn h 1) = tn u 3
 e2:b u = h
 e3:b (tn u 3) = tn h 1
 c:(b (tn h 2) = tn u 2 ∧ b (tn u 2) = tn h 2) ∨ (b (tn h 2) = tn h 2 ∧ b (tn u 2) = tn u 2)
 nf:∀ z,z < 4 * d.n → z ≠ tn h 2 → z ≠ tn u 2 → b z ≠ z
theorem Lens.la (hd:Valid d) (L:Lens d h u):LA d h u (lA d h u) := by
 have hv:=Valid.iff.1 hd
 have hw:=hv.1
 have hu:=L.hu hw
 have hh:=L.hh
 have E:=L.ne
 have hA:tn h 2 < 4 * d.n:=tn_lt hh
 have hB:tn u 2 < 4 * d.n:=tn_lt hu
 have m0:=L.m0
 have m1:=L.m1
 have m2:=L.m2 hw
 have m3:=L.m3 hw
 unfold lA cls
 by_cases hc:d.m (tn h 2) = tn u 2
 ·rw [if_pos hc]
  exact ⟨hw.hm,hv.2,wy_m hw,m0,m1,m2,m3,.inl ⟨hc,by rw [← hc,hw.inv _ hA]⟩,fun z hz _ _ => hw.ne z hz⟩
 ·rw [if_neg hc]
  have hAB:tn h 2 ≠ tn u 2:=pm E
  have nA:=hw.ne _ hA
  have nB:=hw.ne _ hB
  obtain ⟨b1,b2,b3,b4,b5⟩:=byp_at hw.hm hA hB hAB nA nB hc
  obtain ⟨c0,c1,c2,c3,c4,c5,c6,c7⟩:=cut2_hm hw.hm hA hB hAB nA nB hc
  -- the four inner half-edges are none of the outer ones' mates
  have ni:∀ z,z < 4 * d.n → d.m z ≠ tn h 2 → d.m z ≠ tn u 2 → z ≠ d.m (tn h 2) ∧ z ≠ d.m (tn u 2):=fun z hz n1 n2 =>
   ⟨fun e => n1 (by rw [e,hw.inv _ hA]),fun e => n2 (by rw [e,hw.inv _ hB])⟩
  have n0:=ni h hh (by rw [m0]; exact Ne.symm (pm0 E)) (by rw [m0]; exact pmz (by omega))
  have n1:=ni (tn h 1) (tn_lt hh) (by rw [m1]; exact Ne.symm (pm E)) (by rw [m1]; exact tn_ne (by omega))
  have n2:=ni u hu (by rw [m2]; exact pmz (by omega)) (by rw [m2]; exact pm1 E)
  have n3:=ni (tn u 3) (tn_lt hu) (by rw [m3]; exact tn_ne (by omega)) (by rw [m3]; exact pm E)
  have ho:Orb (phi rot (cut2 d.m (tn h 2) (tn u 2))) (tn h 2) (tn u 2):=by
   refine ⟨2,?_⟩
   show phi rot _ (phi rot _ (tn h 2)) = tn u 2
   have s1:phi rot (cut2 d.m (tn h 2) (tn u 2)) (tn h 2) = tn h 1:=by unfold phi; rw [c1]; unfold rot; rw [tn_tn]; unfold tn; omega
   have s2:phi rot (cut2 d.m (tn h 2) (tn u 2)) (tn h 1) = tn u 2:=by
    unfold phi; rw [cut2_at _ _ (tn_ne (by omega)) (pm E) n1.1 n1.2,m1]; unfold rot; rw [tn_tn]; unfold tn; omega
   rw [s1,s2]
  obtain ⟨g1,g2⟩:=byp_flat hw.hm hA hB hAB nA nB hc ho hv.2
  refine ⟨g1,g2,byp_wy hw.hm (wy_m hw) hA hB hAB nA nB hc ?_,?_,?_,?_,?_,.inr ⟨b1,b2⟩,?_⟩
  ·rw [out_opp hw hu,out_opp hw hh,← m0,out_way hw hh]
  ·rw [b5 h (pmz (by omega)) (pm1 E) n0.1 n0.2,m0]
  ·rw [b5 _ (tn_ne (by omega)) (pm E) n1.1 n1.2,m1]
  ·rw [b5 u (Ne.symm (pm0 E)) (pmz (by omega)) n2.1 n2.2,m2]
  ·rw [b5 _ (Ne.symm (pm E)) (tn_ne (by omega)) n3.1 n3.2,m3]
  ·intro z hz z1 z2
   by_cases z3:z = d.m (tn h 2)
   ·rw [z3,b3]; exact Ne.symm c6
   ·by_cases z4:z = d.m (tn u 2)
    ·rw [z4,b4]; exact c6
    ·rw [b5 z z1 z2 z3 z4]; exact hw.ne z hz
structure LB2 (d:Dg) (h u:Nat) (b:Nat → Nat):Prop where
 hm:Hm (4 * d.n) (dart d) rot b
 fl:Flat (dart d) rot b
 wy:Wy d b
 e0:b h = u
 e1:b (tn h 1) = tn u 3
 e2:b u = h
 e3:b (tn u 3) = tn h 1
 c:(b (tn h 2) = tn u 2 ∧ b (tn u 2) = tn h 2) ∨ (b (tn h 2) = tn h 2 ∧ b (tn u 2) = tn u 2)
 c':(b (tn h 3) = tn u 1 ∧ b (tn u 1) = tn h 3) ∨ (b (tn h 3) = tn h 3 ∧ b (tn u 1) = tn u 1)
 nf:∀ z,z < 4 * d.n → z ≠ tn h 2 → z ≠ tn u 2 → z ≠ tn h 3 → z ≠ tn u 1 → b z ≠ z
theorem LA.lb (hw:Wf d) (L:Lens d h u) {a:Nat → Nat} (A:LA d h u a):LB2 d h u (cls a (tn h 3) (tn u 1)) := by
 have hu:=L.hu hw
 have hh:=L.hh
 have E:=L.ne
 have h3:tn h 3 < 4 * d.n:=tn_lt hh
 have u1:tn u 1 < 4 * d.n:=tn_lt hu
 have n3:=A.nf _ h3 (tn_ne (by omega)) (pm E)
 have n1:=A.nf _ u1 (Ne.symm (pm E)) (tn_ne (by omega))
 unfold cls
 by_cases hc:a (tn h 3) = tn u 1
 ·rw [if_pos hc]
  exact ⟨A.hm,A.fl,A.wy,A.e0,A.e1,A.e2,A.e3,A.c,.inl ⟨hc,by rw [← hc,A.hm.inv _ h3]⟩,fun z hz z1 z2 _ _ => A.nf z hz z1 z2⟩
 ·rw [if_neg hc]
  have hAB:tn h 3 ≠ tn u 1:=pm E
  obtain ⟨b1,b2,b3,b4,b5⟩:=byp_at A.hm h3 u1 hAB n3 n1 hc
  obtain ⟨c0,c1,c2,c3,c4,c5,c6,c7⟩:=cut2_hm A.hm h3 u1 hAB n3 n1 hc
  have ni:∀ z,z < 4 * d.n → a z ≠ tn h 3 → a z ≠ tn u 1 → z ≠ a (tn h 3) ∧ z ≠ a (tn u 1):=fun z hz n1 n2 =>
   ⟨fun e => n1 (by rw [e,A.hm.inv _ h3]),fun e => n2 (by rw [e,A.hm.inv _ u1])⟩
  have k0:=ni h hh (by rw [A.e0]; exact Ne.symm (pm0 E)) (by rw [A.e0]; exact pmz (by omega))
  have k1:=ni (tn h 1) (tn_lt hh) (by rw [A.e1]; exact Ne.symm (pm E)) (by rw [A.e1]; exact tn_ne (by omega))
  have k2:=ni u hu (by rw [A.e2]; exact pmz (by omega)) (by rw [A.e2]; exact pm1 E)
  have k3:=ni (tn u 3) (tn_lt hu) (by rw [A.e3]; exact tn_ne (by omega)) (by rw [A.e3]; exact pm E)
  have k4:tn h 2 ≠ a (tn h 3) ∧ tn h 2 ≠ a (tn u 1):=ni (tn h 2) (tn_lt hh) (by rcases A.c with ⟨e,_⟩ | ⟨e,_⟩ <;> rw [e]; exact Ne.symm (pm E); exact tn_ne (by omega)) (by rcases A.c with ⟨e,_⟩ | ⟨e,_⟩ <;> rw [e]; exact tn_ne (by omega); exact pm E)
  have k5:tn u 2 ≠ a (tn h 3) ∧ tn u 2 ≠ a (tn u 1):=ni (tn u 2) (tn_lt hu) (by rcases A.c with ⟨_,e⟩ | ⟨_,e⟩ <;> rw [e]; exact tn_ne (by omega); exact Ne.symm (pm E)) (by rcases A.c with ⟨_,e⟩ | ⟨_,e⟩ <;> rw [e]; exact pm E; exact tn_ne (by omega))
  have r2:cut2 a (tn h 3) (tn u 1) (tn h 2) = a (tn h 2):=cut2_at _ _ (tn_ne (by omega)) (pm E) k4.1 k4.2
  have r5:cut2 a (tn h 3) (tn u 1) (tn u 2) = a (tn u 2):=cut2_at _ _ (Ne.symm (pm E)) (tn_ne (by omega)) k5.1 k5.2
  have r1:cut2 a (tn h 3) (tn u 1) (tn h 1) = tn u 3:=by rw [cut2_at _ _ (tn_ne (by omega)) (pm E) k1.1 k1.2,A.e1]
  have s1:phi rot (cut2 a (tn h 3) (tn u 1)) (tn h 3) = tn h 2:=by unfold phi; rw [c1]; unfold rot; rw [tn_tn]; unfold tn; omega
  have ho:Orb (phi rot (cut2 a (tn h 3) (tn u 1))) (tn h 3) (tn u 1):=by
   rcases A.c with ⟨e,_⟩ | ⟨e,e'⟩
   ·have s2:phi rot (cut2 a (tn h 3) (tn u 1)) (tn h 2) = tn u 1:=by unfold phi; rw [r2,e]; unfold rot; rw [tn_tn]; unfold tn; omega
    refine ⟨2,?_⟩
    show phi rot _ (phi rot _ (tn h 3)) = tn u 1
    rw [s1,s2]
   ·have s2:phi rot (cut2 a (tn h 3) (tn u 1)) (tn h 2) = tn h 1:=by unfold phi; rw [r2,e]; unfold rot; rw [tn_tn]; unfold tn; omega
    have s3:phi rot (cut2 a (tn h 3) (tn u 1)) (tn h 1) = tn u 2:=by unfold phi; rw [r1]; unfold rot; rw [tn_tn]; unfold tn; omega
    have s4:phi rot (cut2 a (tn h 3) (tn u 1)) (tn u 2) = tn u 1:=by unfold phi; rw [r5,e']; unfold rot; rw [tn_tn]; unfold tn; omega
    refine ⟨4,?_⟩
    show phi rot _ (phi rot _ (phi rot _ (phi rot _ (tn h 3)))) = tn u 1
    rw [s1,s2,s3,s4]
  obtain ⟨g1,g2⟩:=byp_flat A.hm h3 u1 hAB n3 n1 hc ho A.fl
  have w1:out d (tn u 1) = !out d (tn h 3):=by
   have a1:out d (tn (tn h 1) 2) = !out d (tn h 1):=out_opp hw (tn_lt hh)
   have a2:out d (tn (tn u 3) 2) = !out d (tn u 3):=out_opp hw (tn_lt hu)
   rw [tn_tn] at a1 a2
   rw [show tn u (3 + 2) = tn u 1 by unfold tn; omega] at a2
   have a3:=out_way hw (tn_lt (k := 1) hh)
   rw [L.m1] at a3
   rw [a2,a3,← a1]
  refine ⟨g1,g2,byp_wy A.hm A.wy h3 u1 hAB n3 n1 hc w1,?_,?_,?_,?_,?_,.inr ⟨b1,b2⟩,?_⟩
  ·rw [b5 h (pmz (by omega)) (pm1 E) k0.1 k0.2,A.e0]
  ·rw [b5 _ (tn_ne (by omega)) (pm E) k1.1 k1.2,A.e1]
  ·rw [b5 u (Ne.symm (pm0 E)) (pmz (by omega)) k2.1 k2.2,A.e2]
  ·rw [b5 _ (Ne.symm (pm E)) (tn_ne (by omega)) k3.1 k3.2,A.e3]
  ·rw [b5 _ (tn_ne (by omega)) (pm E) k4.1 k4.2,b5 _ (Ne.symm (pm E)) (tn_ne (by omega)) k5.1 k5.2]; exact A.c
  ·intro z hz z1 z2 z5 z6
   by_cases z3:z = a (tn h 3)
   ·rw [z3,b3]; exact Ne.symm c6
   ·by_cases z4:z = a (tn u 1)
    ·rw [z4,b4]; exact c6
    ·rw [b5 z z5 z6 z3 z4]; exact A.nf z hz z1 z2
theorem Lens.lb (hd:Valid d) (L:Lens d h u):LB2 d h u (lB d h u) := (L.la hd).lb (Valid.iff.1 hd).1 L
theorem LB2.rs (hw:Wf d) (L:Lens d h u) {b:Nat → Nat} (B:LB2 d h u b) {x y:Nat} (hxy:x < y) (hx:(x = h / 4 ∧ y = u / 4) ∨ (x = u / 4 ∧ y = h / 4)) {mt:List Nat} {lp:Nat} (hl:lp ≤ 64)
 (hmt:∀ z,stay d [x,y] z → mt.getD z 0 = b z):Rs d [x,y] mt lp b := by
 have hin:∀ z,z / 4 ∈ [x,y] ↔ z / 4 = h / 4 ∨ z / 4 = u / 4:=fun z => by
  rw [List.mem_cons,List.mem_singleton]
  rcases hx with ⟨rfl,rfl⟩ | ⟨rfl,rfl⟩
  ·exact Iff.rfl
  ·exact Or.comm
 have s0:∀ k,tn h k / 4 = h / 4 ∨ tn h k / 4 = u / 4:=fun k => .inl (tn_div h k)
 have s1:∀ k,tn u k / 4 = h / 4 ∨ tn u k / 4 = u / 4:=fun k => .inr (tn_div u k)
 refine ⟨by simp; omega,few_two hxy,B.hm,fun z hz => ?_,hmt,fun z hz e => ?_,hl⟩
 ·rw [hin]
  rcases (hin z).1 hz.2 with hz2 | hz2
  ·have:z = h ∨ z = tn h 1 ∨ z = tn h 2 ∨ z = tn h 3:=by unfold tn; omega
   rcases this with rfl | rfl | rfl | rfl
   ·rw [B.e0]; exact .inr rfl
   ·rw [B.e1]; exact s1 _
   ·rcases B.c with ⟨e,_⟩ | ⟨e,_⟩ <;> rw [e]; exact s1 _; exact s0 _
   ·rcases B.c' with ⟨e,_⟩ | ⟨e,_⟩ <;> rw [e]; exact s1 _; exact s0 _
  ·have:z = u ∨ z = tn u 1 ∨ z = tn u 2 ∨ z = tn u 3:=by unfold tn; omega
   rcases this with rfl | rfl | rfl | rfl
   ·rw [B.e2]; exact .inl rfl
   ·rcases B.c' with ⟨_,e⟩ | ⟨_,e⟩ <;> rw [e]; exact s0 _; exact s1 _
   ·rcases B.c with ⟨_,e⟩ | ⟨_,e⟩ <;> rw [e]; exact s0 _; exact s1 _
   ·rw [B.e3]; exact s0 _
 ·have hno:¬ (z / 4 = h / 4 ∨ z / 4 = u / 4):=fun e => hz.2 ((hin z).2 e)
  have hq:∀ k,z ≠ tn h k ∧ z ≠ tn u k:=fun k => ⟨fun e => hno (by rw [e]; exact s0 k),fun e => hno (by rw [e]; exact s1 k)⟩
  have:=B.wy z hz.1 (B.nf z hz.1 (hq 2).1 (hq 2).2 (hq 3).1 (hq 1).2)
  rw [this] at e
  cases h:out d z <;> rw [h] at e <;> exact absurd e (by decide)
theorem Lens.valid (hd:Valid d) (L:Lens d h u) {x y:Nat} (hxy:x < y) (hx:(x = h / 4 ∧ y = u / 4) ∨ (x = u / 4 ∧ y = h / 4)) {mt:List Nat} {lp:Nat} (hl:lp ≤ 64)
 (hmt:∀ z,stay d [x,y] z → mt.getD z 0 = lB d h u z):Valid (rsD d [x,y] mt lp) :=
 ((L.lb hd).rs (Valid.iff.1 hd).1 L hxy hx hl hmt).valid (Valid.iff.1 hd).1 (L.lb hd).fl
end
end Go.Proofs.YtghdiolnonejaaaGreatDoor.Pl
end
section
namespace Go.Proofs.YtghdiolnonejaaaGreatDoor.Pl
def op (h:Nat):Nat := tn h 2
theorem op_op (h:Nat):op (op h) = h := by unfold op; rw [tn_tn]; exact tn_four h
theorem op_bij (k:Nat):Bij (4 * k) (fun h => h < 4 * k) op := ⟨fun _ h => h,fun _ h => tn_lt h,fun _ _ _ _ e => tn_inj e⟩
theorem Hm.op {n:Nat} {b:Nat → Nat} (h:Hm (4 * n) (fun h => h < 4 * n) rot b):Hm (4 * n) (fun h => h < 4 * n) Pl.op b := ⟨op_bij n,h.ab,h.inv⟩
theorem Cls.one {S:Nat → Prop} {R:Nat → Nat → Prop} {a:Nat} (hE:Eqv S R) (ha:S a) (h:∀ x,S x → R a x):Cls S R 1 :=
 ⟨fun _ => 0,fun _ _ => Nat.zero_lt_one,fun x y hx hy => ⟨fun _ => hE.trans _ _ _ hx ha hy (hE.symm _ _ ha hx (h x hx)) (h y hy),fun _ => rfl⟩,fun i hi => ⟨a,ha,(by omega:(0:Nat) = i)⟩⟩
def grp (h u z:Nat):Prop := z = h ∨ z = u ∨ z = tn h 2 ∨ z = tn u 2
structure Gp (n:Nat) (b:Nat → Nat) (h u:Nat):Prop where
 hm:Hm (4 * n) (fun h => h < 4 * n) rot b
 hh:h < 4 * n
 hu:u < 4 * n
 e0:b h = u
 n1:h ≠ u
 n2:h ≠ tn u 2
 n3:u ≠ tn h 2
section
variable {n:Nat} {b:Nat → Nat} {h u:Nat}
theorem Gp.e2 (G:Gp n b h u):b u = h := by rw [← G.e0,G.hm.inv _ G.hh]
theorem Gp.mem (G:Gp n b h u) {z:Nat} (hz:grp h u z):z < 4 * n := by
 rcases hz with rfl | rfl | rfl | rfl
 ·exact G.hh
 ·exact G.hu
 ·exact tn_lt G.hh
 ·exact tn_lt G.hu
theorem Gp.nAB (G:Gp n b h u):tn h 2 ≠ tn u 2 := fun e => G.n1 (tn_inj e)
theorem tt2 (h:Nat):tn (tn h 2) 2 = h := op_op h
theorem Gp.free (G:Gp n b h u) (fA:b (tn h 2) = tn h 2) (fB:b (tn u 2) = tn u 2) :
 Cls (grp h u) (Orb (phi op b)) 1 ∧ (∀ z,grp h u z → grp h u (phi op b z)) ∧ Orb (phi op b) (tn h 2) (tn u 2) := by
 have p1:phi op b h = tn u 2:=by show tn (b h) 2 = _; rw [G.e0]
 have p2:phi op b u = tn h 2:=by show tn (b u) 2 = _; rw [G.e2]
 have p3:phi op b (tn h 2) = h:=by show tn (b (tn h 2)) 2 = _; rw [fA,tt2]
 have p4:phi op b (tn u 2) = u:=by show tn (b (tn u 2)) 2 = _; rw [fB,tt2]
 have cl:∀ z,grp h u z → grp h u (phi op b z):=by
  rintro z (rfl | rfl | rfl | rfl)
  ·rw [p1]; exact .inr (.inr (.inr rfl))
  ·rw [p2]; exact .inr (.inr (.inl rfl))
  ·rw [p3]; exact .inl rfl
  ·rw [p4]; exact .inr (.inl rfl)
 have hE:=(G.hm.op).pb.eqv
 have s1:Orb (phi op b) h (tn u 2):=⟨1,p1⟩
 have s2:Orb (phi op b) h u:=s1.trans ⟨1,p4⟩
 have s3:Orb (phi op b) h (tn h 2):=s2.trans ⟨1,p2⟩
 refine ⟨Cls.one ⟨fun x hx => hE.refl x (G.mem hx),fun x y hx hy => hE.symm x y (G.mem hx) (G.mem hy),fun x y z hx hy hz => hE.trans x y z (G.mem hx) (G.mem hy) (G.mem hz)⟩ (a := h) (.inl rfl) ?_,cl,(show Orb (phi op b) (tn h 2) h from ⟨1,p3⟩).trans s1⟩
 rintro x (rfl | rfl | rfl | rfl)
 ·exact Orb.refl _ _
 ·exact s2
 ·exact s3
 ·exact s1
theorem Gp.closed (G:Gp n b h u) (fA:b (tn h 2) = tn u 2):Cls (grp h u) (Orb (phi op b)) 2 ∧ ∀ z,grp h u z → grp h u (phi op b z) := by
 have fB:b (tn u 2) = tn h 2:=by rw [← fA,G.hm.inv _ (tn_lt G.hh)]
 have p1:phi op b h = tn u 2:=by show tn (b h) 2 = _; rw [G.e0]
 have p2:phi op b u = tn h 2:=by show tn (b u) 2 = _; rw [G.e2]
 have p3:phi op b (tn h 2) = u:=by show tn (b (tn h 2)) 2 = _; rw [fA,tt2]
 have p4:phi op b (tn u 2) = h:=by show tn (b (tn u 2)) 2 = _; rw [fB,tt2]
 have hE:=(G.hm.op).pb.eqv
 have cl:∀ z,grp h u z → grp h u (phi op b z):=by
  rintro z (rfl | rfl | rfl | rfl)
  ·rw [p1]; exact .inr (.inr (.inr rfl))
  ·rw [p2]; exact .inr (.inr (.inl rfl))
  ·rw [p3]; exact .inr (.inl rfl)
  ·rw [p4]; exact .inl rfl
 refine ⟨?_,cl⟩
 have c1:Cls (fun z => z = h ∨ z = tn u 2) (Orb (phi op b)) 1:=by
  refine Cls.one ⟨fun x hx => Orb.refl _ _,fun x y hx hy e => hE.symm x y ?_ ?_ e,fun x y z _ _ _ e e' => e.trans e'⟩ (a := h) (.inl rfl) ?_
  ·rcases hx with rfl | rfl; exact G.hh; exact tn_lt G.hu
  ·rcases hy with rfl | rfl; exact G.hh; exact tn_lt G.hu
  ·rintro x (rfl | rfl); exact Orb.refl _ _; exact ⟨1,p1⟩
 have c2:Cls (fun z => z = u ∨ z = tn h 2) (Orb (phi op b)) 1:=by
  refine Cls.one ⟨fun x hx => Orb.refl _ _,fun x y hx hy e => hE.symm x y ?_ ?_ e,fun x y z _ _ _ e e' => e.trans e'⟩ (a := u) (.inl rfl) ?_
  ·rcases hx with rfl | rfl; exact G.hu; exact tn_lt G.hh
  ·rcases hy with rfl | rfl; exact G.hu; exact tn_lt G.hh
  ·rintro x (rfl | rfl); exact Orb.refl _ _; exact ⟨1,p2⟩
 have k1:∀ z,(z = h ∨ z = tn u 2) → (phi op b z = h ∨ phi op b z = tn u 2):=by rintro z (rfl | rfl); exact .inr p1; exact .inl p4
 have k2:∀ z,(z = u ∨ z = tn h 2) → (phi op b z = u ∨ phi op b z = tn h 2):=by rintro z (rfl | rfl); exact .inr p2; exact .inl p3
 have dis:∀ x,(x = h ∨ x = tn u 2) → ¬ (x = u ∨ x = tn h 2):=by
  rintro x (rfl | rfl) (e | e)
  ·exact G.n1 e
  ·unfold tn at e; omega
  ·unfold tn at e; omega
  ·exact G.nAB e.symm
 have:=Cls.add c1 c2 (fun x y hx hy e => dis _ (orb_closed (P := fun z => z = h ∨ z = tn u 2) k1 hx e) hy) (fun x y hx hy e => dis _ hx (orb_closed (P := fun z => z = u ∨ z = tn h 2) k2 hy e)) dis
 refine Cls.congr this (fun x => ?_) (fun _ _ _ _ => Iff.rfl)
 unfold grp
 constructor
 ·rintro ((e | e) | (e | e))
  ·exact .inl e
  ·exact .inr (.inr (.inr e))
  ·exact .inr (.inl e)
  ·exact .inr (.inr (.inl e))
 ·rintro (e | e | e | e)
  ·exact .inl (.inl e)
  ·exact .inr (.inl e)
  ·exact .inr (.inr e)
  ·exact .inl (.inr e)
end
section
variable {N:Nat} {S:Nat → Prop} {r a:Nat → Nat}
theorem byp_cls (h:Hm N S r a) {u v:Nat} (hu:S u) (hv:S v) (huv:u ≠ v) (nu:a u ≠ u) (nv:a v ≠ v) (nuv:a u ≠ v) (ho:Orb (phi r (cut2 a u v)) u v) (nx:¬ Orb (phi r (cut2 a u v)) u (a u)) (ny:¬ Orb (phi r (cut2 a u v)) u (a v)) {k:Nat} (hk:Cls S (Orb (phi r a)) k) :
 Cls S (Orb (phi r (byp a u v))) (k + 1) := by
 obtain ⟨c0,c1,c2,c3,c4,c5,c6,c7⟩:=cut2_hm h hu hv huv nu nv nuv
 have hx:=h.ab.maps u hu
 have hy:=h.ab.maps v hv
 obtain ⟨c,hc⟩:∃ c,c = cut2 a u v := ⟨_,rfl⟩
 unfold byp
 rw [← hc] at ho nx ny c0 c1 c2 c3 c4 c5
 rw [← hc]
 obtain ⟨k0,hk0⟩:=Cls.exists_ N S _ c0.pb.lt c0.pb.eqv
 have hpos:=hk0.pos hu
 obtain ⟨k1,rfl⟩:∃ k1,k0 = k1 + 1 := ⟨k0 - 1,by omega⟩
 have e1:=Cls.merge c0.pb hu hx nx hk0
 have hb1:=c0.pb.tr hu hx
 have sym:=fun {x y} (hx:S x) (e:Orb (phi r c) x y) => c0.pb.symm hx e
 have mg:=fun {x y} (hx':S x) => c0.pb.merge hu hx nx (x := x) (y := y) hx'
 have nvu:=sym hu ho
 rw [phi_tr]
 have hphi:phi r a = tr (tr (phi r c) u (a u)) v (a v):=by
  have:phi r a = phi r (tr (tr c u (a u)) v (a v)):=by rw [← c5]
  rw [this,phi_tr,phi_tr]
 rw [hphi] at hk
 by_cases hxy:Orb (phi r c) (a u) (a v)
 ·-- parted,twice
  have hvy:Orb (tr (phi r c) u (a u)) v (a v):=(mg hv).2 (.inr (.inl ⟨nvu,hxy⟩))
  have e2:=Cls.part hb1 hv hy (Ne.symm nv) hvy e1
  have e3:=Cls.part c0.pb hx hy c6 hxy hk0
  rw [hk.unique e2]
  exact e3
 ·have nvy : ¬ Orb (tr (phi r c) u (a u)) v (a v) := fun e => by
   rcases (mg hv).1 e with e | ⟨_,e⟩ | ⟨e,_⟩
   ·exact ny (ho.trans e)
   ·exact hxy e
   ·exact nx (ho.trans e)
  have hp1:=e1.pos hv
  obtain ⟨k2,rfl⟩:∃ k2,k1 = k2 + 1 := ⟨k1 - 1,by omega⟩
  have e2:=Cls.merge hb1 hv hy nvy e1
  have e3:=Cls.merge c0.pb hx hy hxy hk0
  rw [hk.unique e2]
  exact e3
end
section
variable {n:Nat} {b:Nat → Nat} {h u:Nat}
theorem Gp.cls (G:Gp n b h u) (nA:b (tn h 2) ≠ tn h 2) (nB:b (tn u 2) ≠ tn u 2) {k:Nat} (hk:Cls (fun h => h < 4 * n) (Orb (phi op b)) k) :
 Cls (fun h => h < 4 * n) (Orb (phi op (Pl.cls b (tn h 2) (tn u 2)))) (k + if b (tn h 2) = tn u 2 then 0 else 1) := by
 unfold Pl.cls
 by_cases hc:b (tn h 2) = tn u 2
 ·rw [if_pos hc,if_pos hc]; exact hk
 rw [if_neg hc,if_neg hc]
 have hA:tn h 2 < 4 * n:=tn_lt G.hh
 have hB:tn u 2 < 4 * n:=tn_lt G.hu
 have m:=G.hm.op
 have e2:=G.e2
 have c0:Hm (4 * n) (fun h => h < 4 * n) rot (cut2 b (tn h 2) (tn u 2)) ∧ _:=cut2_hm G.hm hA hB G.nAB nA nB hc
 obtain ⟨c0,c1,c2,c3,c4,c5,c6,c7⟩:=c0
 have hhA:h ≠ b (tn h 2):=fun e => by have := G.hm.inv _ hA; rw [← e,G.e0] at this; exact G.n3 this
 have hhB:h ≠ b (tn u 2):=fun e => by have := G.hm.inv _ hB; rw [← e,G.e0] at this; unfold tn at this; omega
 have huA:u ≠ b (tn h 2):=fun e => by have := G.hm.inv _ hA; rw [← e,e2] at this; unfold tn at this; omega
 have huB:u ≠ b (tn u 2):=fun e => by have := G.hm.inv _ hB; rw [← e,e2] at this; exact G.n2 this
 have hA0:h ≠ tn h 2:=by unfold tn; omega
 have hu0:u ≠ tn u 2:=by unfold tn; omega
 have G':Gp n (cut2 b (tn h 2) (tn u 2)) h u:=⟨c0,G.hh,G.hu,by rw [cut2_at _ _ hA0 G.n2 hhA hhB,G.e0],G.n1,G.n2,G.n3⟩
 obtain ⟨g1,g2,g3⟩:=G'.free c1 c2
 have no:∀ z,Orb (phi op (cut2 b (tn h 2) (tn u 2))) (tn h 2) z → grp h u z:=fun z e => orb_closed (P := grp h u) g2 (.inr (.inr (.inl rfl))) e
 refine byp_cls m hA hB G.nAB nA nB hc g3 (fun e => ?_) (fun e => ?_) hk
 ·rcases no _ e with e | e | e | e
  ·exact hhA e.symm
  ·exact huA e.symm
  ·exact nA e
  ·exact hc e
 ·rcases no _ e with e | e | e | e
  ·exact hhB e.symm
  ·exact huB e.symm
  ·exact c7 e
  ·exact nB e
end
def Str (d:Dg) (s:Nat):Prop := Cls (fun h => h < 4 * d.n ∧ out d h = true) (Orb (st d)) s
section
variable {d:Dg}
theorem st_phi (d:Dg):st d = phi op d.m := rfl
theorem out_orb (hd:Wf d) {x y:Nat} (hx:x < 4 * d.n) (e:Orb (st d) x y):out d y = out d x := by
 obtain ⟨k,rfl⟩:=e
 exact out_it hd hx k
theorem st_back (hd:Wf d) {x y:Nat} (hx:x < 4 * d.n) (e:Orb (st d) x y):Orb (st d) (d.m y) (d.m x) := by
 obtain ⟨k,rfl⟩:=e
 induction k with
 | zero => exact Orb.refl _ _
 | succ k ih =>
   have hz:=(st_bij hd).it k x hx
   refine Orb.trans ⟨1,?_⟩ ih
   show st d (d.m (st d (it (st d) k x))) = d.m (it (st d) k x)
   unfold st at hz ⊢
   rw [hd.inv _ (tn_lt (hd.lt _ hz)),tt2]
theorem Str.all (hd:Wf d) {s:Nat} (h:Str d s):Cls (dart d) (Orb (st d)) (2 * s) := by
 have h2:Cls (fun h => h < 4 * d.n ∧ out d h = false) (Orb (st d)) s:=by
  refine Cls.map h d.m (fun x hx => ⟨hd.lt x hx.1,by rw [out_way hd hx.1,hx.2]; rfl⟩) (fun y hy => ⟨d.m y,⟨hd.lt y hy.1,by rw [out_way hd hy.1,hy.2]; rfl⟩,hd.inv y hy.1⟩) (fun x y hx hy => ⟨fun e => (st_bij hd).symm (hd.lt _ hy.1) (st_back hd hx.1 e),fun e => ?_⟩)
  have:=st_back hd (hd.lt _ hx.1) e
  rw [hd.inv _ hx.1,hd.inv _ hy.1] at this
  exact (st_bij hd).symm hy.1 this
 have:=Cls.add h h2 (fun x y hx hy e => by have := out_orb hd hx.1 e; rw [hx.2,hy.2] at this; exact absurd this (by decide)) (fun x y hx hy e => by have := out_orb hd hy.1 e; rw [hx.2,hy.2] at this; exact absurd this (by decide)) (fun x hx hy => by rw [hx.2] at hy; exact absurd hy.2 (by decide))
 rw [show 2 * s = s + s by omega]
 refine Cls.congr this (fun x => ?_) (fun _ _ _ _ => Iff.rfl)
 unfold dart
 constructor
 ·rintro (e | e) <;> exact e.1
 ·intro e
  cases ho:out d x with
  | true => exact .inl ⟨e,rfl⟩
  | false => exact .inr ⟨e,rfl⟩
theorem Str.iff (hd:Wf d) {s k:Nat} (h:Str d s) (hk:Cls (dart d) (Orb (st d)) k):k = 2 * s := hk.unique (h.all hd)
theorem Rs.cls {gs:List Nat} {mt:List Nat} {lp:Nat} {b:Nat → Nat} (R:Rs d gs mt lp b) {k g:Nat} (hk:Cls (dart d) (Orb (phi op b)) k) (hg:Cls (gone d gs) (Orb (phi op b)) g) :
 ∃ ks,k = ks + g ∧ Cls (Pl.stay d gs) (Orb (phi op b)) ks ∧ Cls (dart (rsD d gs mt lp)) (Orb (st (rsD d gs mt lp))) ks := by
 have hE:=R.hm.op.pb.eqv
 have s1:∀ x,Pl.stay d gs x → Pl.stay d gs (phi op b x):=fun x hx => tn_stay (R.stay hx)
 have g1:∀ x,gone d gs x → gone d gs (phi op b x):=fun x hx => ⟨tn_lt (R.hm.ab.maps x hx.1),by show tn (b x) 2 / 4 ∈ gs; rw [tn_div]; exact R.cl x hx⟩
 obtain ⟨ks,hks⟩:=Cls.exists_ (4 * d.n) (Pl.stay d gs) (Orb (phi op b)) (fun x hx => hx.1) ⟨fun x hx => Orb.refl _ _,fun x y hx hy e => hE.symm x y hx.1 hy.1 e,fun x y z _ _ _ e e' => e.trans e'⟩
 have ha:=Cls.add hks hg (fun x y hx hy e => (orb_closed (P := Pl.stay d gs) s1 hx e).2 hy.2) (fun x y hx hy e => hx.2 (orb_closed (P := gone d gs) g1 hy e).2) (fun x hx hy => hx.2 hy.2)
 have ha2:Cls (dart d) (Orb (phi op b)) (ks + g):=Cls.congr ha (fun x => ⟨fun h => h.elim (·.1) (·.1),fun h => (Classical.em (x / 4 ∈ gs)).elim (fun e => .inr ⟨h,e⟩) (fun e => .inl ⟨h,e⟩)⟩) (fun _ _ _ _ => Iff.rfl)
 refine ⟨ks,hk.unique ha2,hks,?_⟩
 refine Cls.map hks (shf gs) (fun x hx => shf_lt R.nd R.few mt lp hx) (fun y hy => shf_onto R.nd R.few mt lp hy) (fun x y hx hy => orb_map (S := Pl.stay d gs) (t := shf gs) s1 (fun x hx => ?_) (fun x y hx hy e => shf_inj R.nd R.few hx.2 hy.2 e) hx hy)
 show tn ((rsD d gs mt lp).m (shf gs x)) 2 = shf gs (tn (b x) 2)
 rw [R.m hx,shf_tn R.few]
end
end Go.Proofs.YtghdiolnonejaaaGreatDoor.Pl
end
section
namespace Go.Proofs.YtghdiolnonejaaaGreatDoor
open Go Go.RowKit
noncomputable def strK (d:Pl.Dg) (k:Nat):Nat := Pl.cnt (Pl.Lst (fun h => h < 4 * d.n ∧ Pl.out d h = true) (Pl.Orb (Pl.st d))) k
noncomputable def strN (d:Pl.Dg):Nat := strK d (4 * d.n)
theorem strN_str (d:Pl.Dg) (hd:Pl.Wf d):Pl.Str d (strN d) :=
 Pl.Cls.count (4 * d.n) (fun x hx => hx.1) ⟨fun x hx => Pl.Orb.refl _ _,fun x y hx hy e => (Pl.st_bij hd).symm hx.1 e,fun x y z _ _ _ e e' => e.trans e'⟩
end Go.Proofs.YtghdiolnonejaaaGreatDoor
end
section
namespace Go.Proofs.YtghdiolnonejaaaGreatDoor
open Go Go.RowKit
set_option maxRecDepth 100000 in
set_option maxHeartbeats 2000000 in
theorem strands_any (d:Pl.Dg) (hd:Pl.Valid d) (A B:Option Addr) (cp cq m:Nat) (w:World) (hm:m = 4 * d.n) (hg:DgAt w A B d) :
 Calls Tryz.prog 30 #[.agg #[.slice A d.n cp,.slice B m cq,.int .i64 d.lp]] w fun e w' => ∃ (A5:Option Addr) (c5:Nat),e = .returned (.slice A5 (strN d) c5) ∧ Below w.heap.size w w' := by
 have hn:=hd.wf.few
 have HM:=hide hm
 have HG:=hide hg
 have HD:=hide hd
 clear hg hm
 have X0:=hide (row_at (W := w) (g := w.heap.size) (t := 24) (vs := [.slice A d.n cp,.slice B m cq,.int .i64 d.lp]) rfl)
 have B0:=hide (show Below w.heap.size w (w.alloc (.cells #[.slice A d.n cp,.slice B m cq,.int .i64 d.lp] 24)) from (Below.refl _ _).alloc (Nat.le_refl _) _)
 go_enter Tryz.func30,Tryz.ntmps30
 go_wp2_with fail
 refine (valid_yes d hd A B cp cq m _ HM.out (HG.out.keep B0.out)).mono ?_
 rintro e w1 ⟨rfl,hb1⟩
 have X1:=hide (X0.out.below hb1)
 have B1:=hide (B0.out.trans (hb1.mono B0.out.size))
 clear hb1 X0 B0
 obtain ⟨d0,d1,d2,d3⟩:=box3 X1.out
 have G1:=hide (HG.out.keep B1.out)
 have hmm:IntsAt w1 B m (nats d.mt):=by have h := G1.out.m; rwa [← HM.out] at h
 have ST:=hide (nextS_steps d B cq m w.heap.size _ _ w1 HM.out hd.wf X1.out hmm)
 have OT:=hide (outS_asks d A B cp cq m w.heap.size _ w1 (by omega) X1.out G1.out.s)
 rw [← HM.out] at ST OT
 have hm1:m ≤ 1000:=by have := HM.out; omega
 have HB:=hide (show Pl.Bij m (Pl.dart d) (Pl.st d) by rw [HM.out]; exact Pl.st_bij hd.wf)
 clear hmm
 go_wp2_with fail
 have hc:=cyclesS_any (.pointer (some ⟨w.heap.size,0,none⟩)) (Pl.out d) m (Pl.dart d) (Pl.st d) w1 ST.out OT.out HB.out (fun x hx => by rw [HM.out] at hx; exact hx) (fun x hx => by rw [HM.out]; exact hx) hm1
 refine hc.mono ?_
 rintro e w2 ⟨A5,c5,fs,bs,vs,rfl,hfc,_,_,_,hb2,_⟩
 have HE:=hide (show fs.length = strN d from (hfc.cls HB.out (fun x hx => by rw [HM.out] at hx; exact hx)).unique (by rw [HM.out]; exact strN_str d HD.out.wf))
 have B2:=hide (B1.out.trans (hb2.mono B1.out.size))
 clear hfc hb2 hc
 go_wp2
 go_ret
 exact ⟨A5,c5,by rw [HE.out]; rfl,B2.out⟩
set_option maxRecDepth 100000 in
set_option maxHeartbeats 1000000 in
theorem comps_any (d:Pl.Dg) (hd:Pl.Valid d) (A B:Option Addr) (cp cq m:Nat) (w:World) (hm:m = 4 * d.n) (hg:DgAt w A B d) :
 Calls Tryz.prog 15 #[.agg #[.slice A d.n cp,.slice B m cq,.int .i64 d.lp]] w (fun e w' => e = .returned (.int .i64 ((strN d + d.lp:Nat):Int)) ∧ Below w.heap.size w w') := by
 have hn:=hd.wf.few
 have hl:=hd.wf.lp
 have HM:=hide hm
 have HG:=hide hg
 have HD:=hide hd
 have hk:=Pl.cnt_top (Pl.Lst (fun h => h < 4 * d.n ∧ Pl.out d h = true) (Pl.Orb (Pl.st d))) (4 * d.n)
 have X0:=hide (row_at (W := w) (g := w.heap.size) (t := 24) (vs := [.slice A d.n cp,.slice B m cq,.int .i64 d.lp]) rfl)
 have B0:=hide (show Below w.heap.size w (w.alloc (.cells #[.slice A d.n cp,.slice B m cq,.int .i64 d.lp] 24)) from (Below.refl _ _).alloc (Nat.le_refl _) _)
 have hsN:strN d ≤ 1000:=by unfold strN strK; omega
 clear hm hg hd hk
 have D0:=hide (DC.start w (.slice A d.n cp) (.slice B m cq) (.int .i64 d.lp))
 clear X0 B0
 obtain ⟨s,hs⟩:∃ s,s = strN d := ⟨_,rfl⟩
 have HS:=hide hs
 rw [← hs] at hsN ⊢
 clear hs
 have hwr:IntKind.i64.wrap ((s:Int) + (d.lp:Int)) = (s:Int) + (d.lp:Int):=IntWalk.i64_in _ (by omega)
 go_enter Tryz.func15,Tryz.ntmps15
 obtain ⟨b0,b1,b2,_⟩:=D0.out.all
 go_wp2_with fail
 refine (valid_yes d HD.out A B cp cq m _ HM.out (HG.out.keep D0.out.2)).mono ?_
 rintro e w1 ⟨rfl,hb1⟩
 have D1:=hide (D0.out.below hb1)
 clear hb1 b0 b1 b2 D0
 have D0:=D1
 clear D1
 obtain ⟨c0,c1,c2,_⟩:=D0.out.all
 go_wp2_with fail
 go_region_held3 (fun w' => w'.cell? ⟨w.heap.size,0,none⟩ = some (.slice A d.n cp) ∧ w'.cell? ⟨w.heap.size,1,none⟩ = some (.slice B m cq) ∧ w'.cell? ⟨w.heap.size,2,none⟩ = some (.int .i64 d.lp) ∧ DC w [.slice A d.n cp,.slice B m cq,.int .i64 d.lp] w')
  ((go_split_ands; refine DC.all ?_; (repeat (first | (with_reducible assumption) | (with_reducible exact D0.out) | (with_reducible refine DC.drew ?_) | (with_reducible refine DC.below ?_ hb5)))))
  (first
    | (go_at_call 30
       refine Calls.mono (strands_any d HD.out A B cp cq m _ HM.out (HG.out.keep D0.out.drew.2)) ?_
       rintro e w1 ⟨A5,c5,rfl,hb5⟩
       rw [← HS.out]))
 have B1:=hide (D0.out.drew.below hb5).2
 clear hb5 c0 c1 c2
 go_wp2
 go_ret
 exact ⟨ret_int (by omega),B1.out⟩
theorem comps_T (d:Pl.Dg) (hd:Pl.Valid d) (A B:Option Addr) (n cp cq m lp T:Nat) (w:World) (hm:m = 4 * d.n) (hg:DgAt w A B d) (h1:n = d.n) (h2:lp = d.lp) (hT:strN d + d.lp = T) :
 Calls Tryz.prog 15 #[.agg #[.slice A n cp,.slice B m cq,.int .i64 (lp:Int)]] w (fun e w' => e = .returned (.int .i64 (T:Int)) ∧ Below w.heap.size w w') := by
 subst hT
 subst h1
 subst h2
 exact comps_any d hd A B cp cq m w hm hg
end Go.Proofs.YtghdiolnonejaaaGreatDoor
end
