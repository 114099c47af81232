/-
 The texts Xf, Xk, Xg, Xh, Za, Ru.
-/
import Derived.Test.YtobbepmlmbbamaaH06
set_option linter.unusedVariables false
set_option linter.unusedSimpArgs false
section
namespace Go.Proofs.Ytobbepmlmbbamaa
open Go Go.RowKit
attribute [local go_sem ↓] Go.wp_at_zero Go.wp_at_succ
def ResC (c:Int)(r:Pl.Dg)(mv:Mv)(w:World)(e:Ending)(w':World):Prop:=(c≠0→ResErr c e)∧(c=0→ResOk r mv e w')∧Below w.heap.size w w'
theorem ResOk.split {r:Pl.Dg}{mv:Mv}{e:Ending}{w':World}(h:ResOk r mv e w'):∃(A B:Option Addr) (c1 c2:Nat) (k x y s:Int) (o:Bool),mv=⟨k,x,y,s,o⟩∧e = .returned (.tuple #[.agg #[.slice A r.n c1,.slice B (4 * r.n) c2,.int .i64 r.lp],.agg #[.int .i64 k,.int .i64 x,.int .i64 y,.int .i64 s,.bool o],.int .i64 0])∧DgT w' A B r:=by
 obtain ⟨A,B,c1,c2,he,hd⟩:=h
 obtain ⟨k,x,y,s,o⟩:=mv
 exact ⟨A,B,c1,c2,k,x,y,s,o,rfl,he,hd⟩
theorem ResErr.split {c:Int}{e:Ending}(h:ResErr c e):e = .returned (.tuple #[.agg #[.slice none 0 0,.slice none 0 0,.int .i64 0],.agg #[.int .i64 0,.int .i64 0,.int .i64 0,.int .i64 0,.bool false],.int .i64 c]):=h
theorem DgT.store {w:World}{A B:Option Addr}{d:Pl.Dg}{g o:Nat}{t:TypeId}{vs:List Value}(h:DgT w A B d)(hr:Row w g t vs)(hne:3≠t)(v:Value):DgT (w.setCell ⟨g,o,none⟩ v) A B d:=⟨h.s.store hr hne v,h.m.store hr hne v⟩
structure AB (w:World) (gr gi:Nat) (dv mv:List Value) (W:World):Prop where
 d:Row W w.heap.size 24 dv
 m:Row W (w.heap.size+1) 28 mv
 rd:∃vs,Row W (w.heap.size+1+1) 24 vs∧vs.length=3
 rm:∃us,Row W (w.heap.size+1+1+1) 28 us∧us.length=5
 r:∃vs,Row W gr 24 vs∧vs.length=3
 i:∃us,Row W gi 28 us∧us.length=5
 bel:Below w.heap.size w W
 lr:w.heap.size+1+1+1<gr
 li:w.heap.size+1+1+1<gi
 ne:gr≠gi
section
variable {w W W':World} {gr gi:Nat} {dv mv:List Value}
theorem AB.drew (h:AB w gr gi dv mv W):AB w gr gi dv mv W.drew:=⟨h.d,h.m,h.rd,h.rm,h.r,h.i,h.bel.drew,h.lr,h.li,h.ne⟩
theorem AB.below (h:AB w gr gi dv mv W)(hb:Below W.heap.size W W'):AB w gr gi dv mv W' :=
 let ⟨vs,r1,l1⟩:=h.rd
 let ⟨us,r2,l2⟩:=h.rm
 let ⟨xs,r3,l3⟩:=h.r
 let ⟨ys,r4,l4⟩:=h.i
 ⟨h.d.below hb,h.m.below hb,⟨vs,r1.below hb,l1⟩,⟨us,r2.below hb,l2⟩,⟨xs,r3.below hb,l3⟩,⟨ys,r4.below hb,l4⟩,h.bel.trans (hb.mono h.bel.size),h.lr,h.li,h.ne⟩
theorem AB.setD (h:AB w gr gi dv mv W)(o:Nat)(v:Value):AB w gr gi dv mv (W.setCell ⟨w.heap.size+1+1,o,none⟩ v) :=
 have a1:=h.lr
 have a2:=h.li
 have a3:=h.ne
 let ⟨vs,r1,l1⟩:=h.rd
 let ⟨us,r2,l2⟩:=h.rm
 let ⟨xs,r3,l3⟩:=h.r
 let ⟨ys,r4,l4⟩:=h.i
 ⟨h.d.other (by show _≠w.heap.size+1+1;omega) v,h.m.other (by show _≠w.heap.size+1+1;omega) v,⟨vs.set o v,r1.set o v,by rw [List.length_set,l1]⟩,⟨us,r2.other (by show _≠w.heap.size+1+1;omega) v,l2⟩,⟨xs,r3.other (by show _≠w.heap.size+1+1;omega) v,l3⟩,⟨ys,r4.other (by show _≠w.heap.size+1+1;omega) v,l4⟩,h.bel.setCell (by show _≤w.heap.size+1+1;omega) v,h.lr,h.li,h.ne⟩
theorem AB.setM (h:AB w gr gi dv mv W)(o:Nat)(v:Value):AB w gr gi dv mv (W.setCell ⟨w.heap.size+1+1+1,o,none⟩ v) :=
 have a1:=h.lr
 have a2:=h.li
 have a3:=h.ne
 let ⟨vs,r1,l1⟩:=h.rd
 let ⟨us,r2,l2⟩:=h.rm
 let ⟨xs,r3,l3⟩:=h.r
 let ⟨ys,r4,l4⟩:=h.i
 ⟨h.d.other (by show _≠w.heap.size+1+1+1;omega) v,h.m.other (by show _≠w.heap.size+1+1+1;omega) v,⟨vs,r1.other (by show _≠w.heap.size+1+1+1;omega) v,l1⟩,⟨us.set o v,r2.set o v,by rw [List.length_set,l2]⟩,⟨xs,r3.other (by show _≠w.heap.size+1+1+1;omega) v,l3⟩,⟨ys,r4.other (by show _≠w.heap.size+1+1+1;omega) v,l4⟩,h.bel.setCell (by show _≤w.heap.size+1+1+1;omega) v,h.lr,h.li,h.ne⟩
theorem AB.setR (h:AB w gr gi dv mv W)(o:Nat)(v:Value):AB w gr gi dv mv (W.setCell ⟨gr,o,none⟩ v) :=
 have a1:=h.lr
 have a2:=h.li
 have a3:=h.ne
 let ⟨vs,r1,l1⟩:=h.rd
 let ⟨us,r2,l2⟩:=h.rm
 let ⟨xs,r3,l3⟩:=h.r
 let ⟨ys,r4,l4⟩:=h.i
 ⟨h.d.other (by show _≠gr;omega) v,h.m.other (by show _≠gr;omega) v,⟨vs,r1.other (by show _≠gr;omega) v,l1⟩,⟨us,r2.other (by show _≠gr;omega) v,l2⟩,⟨xs.set o v,r3.set o v,by rw [List.length_set,l3]⟩,⟨ys,r4.other (by show _≠gr;omega) v,l4⟩,h.bel.setCell (by show _≤gr;omega) v,h.lr,h.li,h.ne⟩
theorem AB.setI (h:AB w gr gi dv mv W)(o:Nat)(v:Value):AB w gr gi dv mv (W.setCell ⟨gi,o,none⟩ v) :=
 have a1:=h.lr
 have a2:=h.li
 have a3:=h.ne
 let ⟨vs,r1,l1⟩:=h.rd
 let ⟨us,r2,l2⟩:=h.rm
 let ⟨xs,r3,l3⟩:=h.r
 let ⟨ys,r4,l4⟩:=h.i
 ⟨h.d.other (by show _≠gi;omega) v,h.m.other (by show _≠gi;omega) v,⟨vs,r1.other (by show _≠gi;omega) v,l1⟩,⟨us,r2.other (by show _≠gi;omega) v,l2⟩,⟨xs,r3.other (by show _≠gi;omega) v,l3⟩,⟨ys.set o v,r4.set o v,by rw [List.length_set,l4]⟩,h.bel.setCell (by show _≤gi;omega) v,h.lr,h.li,h.ne⟩
end
structure AD (w:World) (gr gi:Nat) (dv mv:List Value) (A B:Option Addr) (r:Pl.Dg) (W:World):Prop where
 b:AB w gr gi dv mv W
 t:DgT W A B r
section
variable {w W W':World} {gr gi:Nat} {dv mv:List Value} {A B:Option Addr} {r:Pl.Dg}
theorem AD.drew (h:AD w gr gi dv mv A B r W):AD w gr gi dv mv A B r W.drew:=⟨h.b.drew,⟨h.t.s,h.t.m⟩⟩
theorem AD.setD (h:AD w gr gi dv mv A B r W)(o:Nat)(v:Value):AD w gr gi dv mv A B r (W.setCell ⟨w.heap.size+1+1,o,none⟩ v):=⟨h.b.setD o v,let ⟨_,r1,_⟩:=h.b.rd;h.t.store r1 (by decide) v⟩
theorem AD.setM (h:AD w gr gi dv mv A B r W)(o:Nat)(v:Value):AD w gr gi dv mv A B r (W.setCell ⟨w.heap.size+1+1+1,o,none⟩ v):=⟨h.b.setM o v,let ⟨_,r1,_⟩:=h.b.rm;h.t.store r1 (by decide) v⟩
theorem AD.setR (h:AD w gr gi dv mv A B r W)(o:Nat)(v:Value):AD w gr gi dv mv A B r (W.setCell ⟨gr,o,none⟩ v):=⟨h.b.setR o v,let ⟨_,r1,_⟩:=h.b.r;h.t.store r1 (by decide) v⟩
theorem AD.setI (h:AD w gr gi dv mv A B r W)(o:Nat)(v:Value):AD w gr gi dv mv A B r (W.setCell ⟨gi,o,none⟩ v):=⟨h.b.setI o v,let ⟨_,r1,_⟩:=h.b.i;h.t.store r1 (by decide) v⟩
end
theorem cells3 {W:World}{g:Nat}{t:TypeId}{vs:List Value}(h:Row W g t vs)(l:vs.length=3):W.cell? ⟨g,0,none⟩=some (cv W ⟨g,0,none⟩)∧W.cell? ⟨g,1,none⟩=some (cv W ⟨g,1,none⟩)∧W.cell? ⟨g,2,none⟩=some (cv W ⟨g,2,none⟩)∧∀o,W.frozen? ⟨g,o,none⟩=false :=
 ⟨cv_some (h.cell (i:=0) (by omega)),cv_some (h.cell (i:=1) (by omega)),cv_some (h.cell (i:=2) (by omega)),h.free⟩
theorem cells5 {W:World}{g:Nat}{t:TypeId}{vs:List Value}(h:Row W g t vs)(l:vs.length=5):W.cell? ⟨g,0,none⟩=some (cv W ⟨g,0,none⟩)∧W.cell? ⟨g,1,none⟩=some (cv W ⟨g,1,none⟩)∧W.cell? ⟨g,2,none⟩=some (cv W ⟨g,2,none⟩)∧W.cell? ⟨g,3,none⟩=some (cv W ⟨g,3,none⟩)∧W.cell? ⟨g,4,none⟩=some (cv W ⟨g,4,none⟩)∧∀o,W.frozen? ⟨g,o,none⟩=false :=
 ⟨cv_some (h.cell (i:=0) (by omega)),cv_some (h.cell (i:=1) (by omega)),cv_some (h.cell (i:=2) (by omega)),cv_some (h.cell (i:=3) (by omega)),cv_some (h.cell (i:=4) (by omega)),h.free⟩
theorem uncurl_m (d:Pl.Dg)(hd:Pl.Wf d)(A B:Option Addr)(cp cq m c:Nat)(k y sg:Int)(ov:Bool)(w:World)(hm:m=4 * d.n)(hg:DgAt w A B d)(hc:c<d.n) :
 Calls Try.prog 48 #[.agg #[.slice A d.n cp,.slice B m cq,.int .i64 d.lp],.agg #[.int .i64 k,.int .i64 (c:Int),.int .i64 y,.int .i64 sg,.bool ov]] w (UncPost d c w):=by
 subst hm;exact uncurl_any d hd A B cp cq c k y sg ov w hg hc
def unpD (d:Pl.Dg)(x y:Nat):Pl.Dg:=match lensI d x y with
 | some i=>unpDl d (lensOf d (lnH x y i)) x y
 | none=>d
def unpI (d:Pl.Dg)(x y:Nat):Mv:=match lensI d x y with
 | some i=>pusI d (lensOf d (lnH x y i)) x y
 | none=>⟨0,0,0,0,false⟩
theorem unpoke_m (d:Pl.Dg)(hd:Pl.Wf d)(A B:Option Addr)(cp cq m x y:Nat)(k sg:Int)(ov:Bool)(w:World)(hm:m=4 * d.n)(hg:DgAt w A B d)(hxy:x<y)(hy:y<d.n) :
 Calls Try.prog 51 #[.agg #[.slice A d.n cp,.slice B m cq,.int .i64 d.lp],.agg #[.int .i64 k,.int .i64 (x:Int),.int .i64 (y:Int),.int .i64 sg,.bool ov]] w (ResC (unpC d x y) (unpD d x y) (unpI d x y) w):=by
 subst hm
 refine (unpoke_any d hd A B cp cq x y k sg ov w hg hxy hy).mono ?_
 rintro e w' ⟨h1,h2,h3⟩
 refine ⟨h1,fun h=>?_,h3⟩
 obtain ⟨i,hi,hr⟩:=h2 h
 unfold unpD unpI
 rw [hi]
 exact hr
def nearP (d:Pl.Dg)(x y:Nat):Prop:=(Pl.Orb (Pl.nx d) x y∨¬Pl.Comp d (x / 4) (y / 4))∧d.m x≠y
noncomputable def pkQ (d:Pl.Dg)(x y sg:Int):Int :=
 if d.lp<needP x y sg then 6 else if Pl.vb (0≤x∧0≤y∧x≠y∧¬nearP d x.toNat y.toNat)=true then 6 else if 64<d.n+2 then 5 else 0
theorem pkC_eq {d:Pl.Dg}{F P:List Nat}(hF:∀x y,x<4 * d.n→y<4 * d.n→(F.getD x 0=F.getD y 0↔Pl.Orb (Pl.nx d) x y))(hP:∀x y,x<d.n→y<d.n→(P.getD x 0=P.getD y 0↔Pl.Comp d x y)){x y sg:Int}(hx:x<4 * d.n)(hy:y<4 * d.n):pkC d F P x y sg=pkQ d x y sg:=by
 unfold pkC pkQ
 by_cases hl:d.lp<needP x y sg
 ·rw [if_pos hl,if_pos hl]
 rw [if_neg hl,if_neg hl]
 by_cases h0:0≤x∧0≤y
 ·have e : nearB F P d x.toNat y.toNat = false ↔ ¬ nearP d x.toNat y.toNat := by
   have h1:=hF x.toNat y.toNat (by omega) (by omega)
   have h2:=hP (x.toNat / 4) (y.toNat / 4) (by omega) (by omega)
   unfold nearB nearP
   rw [←h1,←h2]
   by_cases q1:F.getD x.toNat 0=F.getD y.toNat 0 <;> by_cases q2:P.getD (x.toNat / 4) 0=P.getD (y.toNat / 4) 0 <;> by_cases q3:d.m x.toNat=y.toNat <;> simp [q1,q2,q3]
  by_cases h3:x≠y∧nearB F P d x.toNat y.toNat=false
  ·rw [if_pos (show 0≤x∧0≤y∧x≠y∧nearB F P d x.toNat y.toNat=false from ⟨h0.1,h0.2,h3⟩),if_pos (Pl.vb_true ⟨h0.1,h0.2,h3.1,e.1 h3.2⟩)]
  ·rw [if_neg (show ¬(0≤x∧0≤y∧x≠y∧nearB F P d x.toNat y.toNat=false) from fun h=>h3 h.2.2),if_neg (show ¬(Pl.vb (0≤x∧0≤y∧x≠y∧¬nearP d x.toNat y.toNat)=true) by rw [Pl.vb_false (fun h=>h3 ⟨h.2.2.1,e.2 h.2.2.2⟩)];decide)]
 ·rw [if_neg (show ¬(0≤x∧0≤y∧x≠y∧nearB F P d x.toNat y.toNat=false) from fun h=>h0 ⟨h.1,h.2.1⟩),if_neg (show ¬(Pl.vb (0≤x∧0≤y∧x≠y∧¬nearP d x.toNat y.toNat)=true) by rw [Pl.vb_false (fun h=>h0 ⟨h.1,h.2.1⟩)];decide)]
end Go.Proofs.Ytobbepmlmbbamaa
end
section
namespace Go.Proofs.Ytobbepmlmbbamaa
open Go Go.RowKit
attribute [local go_sem ↓] Go.wp_at_zero Go.wp_at_succ
noncomputable def apC (d:Pl.Dg)(m:Mv):Int :=
 if m.kind<1∨5<m.kind then 11 else if Pl.vb (inR d.n m)=false then 2 else if m.kind=1 then curlableC d m.x else if m.kind=2 then uncC d m.x.toNat else if m.kind=3 then pkQ d m.x m.y m.sign else if m.kind=4 then unpC d m.x.toNat m.y.toNat else sldC d m.x.toNat
def apD (d:Pl.Dg)(m:Mv):Pl.Dg :=
 if m.kind=1 then crl d m.x m.sign m.over else if m.kind=2 then unD d m.x.toNat else if m.kind=3 then pkD d m.x m.y m.sign m.over else if m.kind=4 then unpD d m.x.toNat m.y.toNat else sldD d m.x.toNat
def apI (d:Pl.Dg)(m:Mv):Mv :=
 if m.kind=1 then ⟨2,d.n,0,0,false⟩ else if m.kind=2 then unI d m.x.toNat else if m.kind=3 then ⟨4,d.n,d.n+1,0,false⟩ else if m.kind=4 then unpI d m.x.toNat m.y.toNat else sldI d m.x.toNat
theorem resC_err {c:Int}{r:Pl.Dg}{mv:Mv}{w:World}{e:Ending}{w':World}(hc:c≠0)(h:ResErr c e∧Below w.heap.size w w'):ResC c r mv w e w':=⟨fun _=>h.1,fun h0=>absurd h0 hc,h.2⟩
end Go.Proofs.Ytobbepmlmbbamaa
end
section
namespace Go.Proofs.Ytobbepmlmbbamaa
open Go Go.RowKit
theorem valid_empty {l:Nat}(h:l≤64):Pl.Valid ⟨[],[],l⟩ :=
 ⟨⟨Nat.zero_le 64,rfl,h,fun c hc=>absurd hc (Nat.not_lt_zero _),fun c hc=>absurd hc (by show ¬c<4 * 0;omega),fun c hc=>absurd hc (by show ¬c<4 * 0;omega),fun c hc=>absurd hc (by show ¬c<4 * 0;omega),fun c hc=>absurd hc (by show ¬c<4 * 0;omega)⟩,fun c hc=>absurd hc (Nat.not_lt_zero _)⟩
end Go.Proofs.Ytobbepmlmbbamaa
end
section
namespace Go.Proofs.Ytobbepmlmbbamaa
open Go Go.RowKit
theorem none_at (w:World)(l:Nat):DgAt w none none ⟨[],[],l⟩:=⟨RowAt.nil w,RowAt.nil w⟩
end Go.Proofs.Ytobbepmlmbbamaa
end
section
namespace Go.Proofs.Ytobbepmlmbbamaa
open Go Go.RowKit
theorem lens_lens {d:Pl.Dg}(hd:Pl.Wf d){x y i:Nat}(hxy:x<y)(hy:y<d.n)(h:lensI d x y=some i) :
 Pl.Lens d (lnH x y i) (d.m (lnH x y i))∧((x=lnH x y i / 4∧y=d.m (lnH x y i) / 4)∨(x=d.m (lnH x y i) / 4∧y=lnH x y i / 4))∧Pl.nx d (lnH x y i)=Pl.tn (d.m (lnH x y i)) 3∧d.m (Pl.tn (d.m (lnH x y i)) 3)=Pl.tn (lnH x y i) 1:=by
 obtain ⟨h1,h2,h3⟩:=lens_is h
 have hi:=lens_lt h
 have hl:lnH x y i<4 * d.n:=by unfold lnH;split <;> omega
 have hu:=hd.lt _ hl
 have e1:d.m (Pl.tn (d.m (lnH x y i)) 3)=Pl.tn (lnH x y i) 1:=by
  unfold Pl.nx at h2
  unfold Pl.tn at h2 ⊢
  omega
 have e2:Pl.nx d (lnH x y i) / 4=d.m (lnH x y i) / 4:=by unfold Pl.nx;rw [Pl.tn_div]
 have e3:lnH x y i / 4=if i<4 then x else y:=by unfold lnH;split <;> omega
 rw [e2] at h1
 unfold lnO at h1
 have hp:(x=lnH x y i / 4∧y=d.m (lnH x y i) / 4)∨(x=d.m (lnH x y i) / 4∧y=lnH x y i / 4):=by
  by_cases h4:i<4
  ·rw [if_pos h4] at h1 e3;exact .inl ⟨e3.symm,h1.symm⟩
  ·rw [if_neg h4] at h1 e3;exact .inr ⟨h1.symm,e3.symm⟩
 refine ⟨⟨hl,rfl,by rw [←e1,hd.inv _ (Pl.tn_lt hu)],fun e=>?_⟩,hp,rfl,e1⟩
 rcases hp with ⟨a,b⟩ | ⟨a,b⟩ <;> omega
end Go.Proofs.Ytobbepmlmbbamaa
end
section
namespace Go.Proofs.Ytobbepmlmbbamaa
open Go.RowKit
theorem unp_ref {d:Pl.Dg}(hd:Pl.Wf d){x y i:Nat}(hxy:x<y)(hy:y<d.n)(hL:lensI d x y=some i) :
 unpDl d (lensOf d (lnH x y i)) x y=⟨Pl.shrS [x] (Pl.shrS [y] d.sg),Pl.shrM [x] (d.n - 1) (Pl.shrM [y] d.n (upM d (lensOf d (lnH x y i)))),upL d (lensOf d (lnH x y i))⟩:=by
 obtain ⟨L,hp,e1,e2⟩:=lens_lens hd hxy hy hL
 obtain ⟨h,hh⟩:∃h,h=lnH x y i:=⟨_,rfl⟩
 rw [←hh] at L hp e1 e2 ⊢
 obtain ⟨u,hu⟩:∃u,u=d.m h:=⟨_,rfl⟩
 rw [←hu] at L hp e1 e2
 have hl:=L.hh
 have hul:=L.hu hd
 have hne:=L.ne
 have p3:(lensOf d h).p3=Pl.tn h 3:=by
  show Pl.tn (d.m (Pl.nx d h)) 2=Pl.tn h 3
  rw [e1,e2,Pl.tn_tn]
 have q0:(lensOf d h).q0=Pl.tn u 2:=by
  show Pl.tn (d.m h) 2=Pl.tn u 2
  rw [←hu]
 have q3:(lensOf d h).q3=Pl.tn u 1:=by
  show Pl.tn (Pl.nx d h) 2=Pl.tn u 1
  rw [e1,Pl.tn_tn]
  unfold Pl.tn
  omega
 have p2:(lensOf d h).p2=Pl.tn h 2:=rfl
 have dv:∀z k,Pl.tn z k / 4=z / 4:=fun z k=>Pl.tn_div z k
 refine unp_same hd hxy hy ?_ ?_ ?_ ?_ ?_ ?_ ?_ ?_ ?_ ?_ ?_ ?_ ?_ ?_ <;> (try rw [p2]) <;> (try rw [p3]) <;> (try rw [q0]) <;> (try rw [q3])
 ·exact Pl.tn_lt hl
 ·exact Pl.tn_lt hul
 ·exact Pl.tn_lt hl
 ·exact Pl.tn_lt hul
 ·rw [dv];omega
 ·rw [dv];omega
 ·rw [dv];omega
 ·rw [dv];omega
 ·intro e;have:=congrArg (· / 4) e;simp only [dv] at this;exact hne this
 ·exact Pl.tn_ne (by omega)
 ·intro e;have:=congrArg (· / 4) e;simp only [dv] at this;exact hne this
 ·intro e;have:=congrArg (· / 4) e;simp only [dv] at this;exact hne this.symm
 ·exact Pl.tn_ne (by omega)
 ·intro e;have:=congrArg (· / 4) e;simp only [dv] at this;exact hne this
end Go.Proofs.Ytobbepmlmbbamaa
end
