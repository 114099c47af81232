/-
  The texts Wm, Wr, Ws, Wt, Wu, Dc, Wv, Rl.
-/
import Derived.Test.YtdgliimmnnhhjaaGreatDoorU11
import Derived.Test.YtdgliimmnnhhjaaGreatDoorU12
import Derived.Deep.CutBlock
import Derived.Deep.DeepCutAuto
set_option linter.unusedVariables false
set_option linter.unusedSimpArgs false
section
namespace Go.Proofs.YtdgliimmnnhhjaaGreatDoor
open Go Go.RowKit
structure UC (w:World) (gi:Nat) (x0 x1 x2 y0 y1 y2 y3 y4:Value) (W:World):Prop where
 d:Row W w.heap.size 24 [x0,x1,x2]
 i:Row W gi 43 [y0,y1,y2,y3,y4]
 rd:∃vs,Row W (w.heap.size+1+1) 24 vs∧vs.length=3
 rm:∃us,Row W (w.heap.size+1+1+1) 43 us∧us.length=5
 bel:Below w.heap.size w W
 lo:w.heap.size+1+1+1<gi
section
variable {w:World} {gi:Nat} {x0 x1 x2 y0 y1 y2 y3 y4:Value} {W W':World}
theorem UC.drew (h:UC w gi x0 x1 x2 y0 y1 y2 y3 y4 W):UC w gi x0 x1 x2 y0 y1 y2 y3 y4 W.drew:=⟨h.d,h.i,h.rd,h.rm,h.bel.drew,h.lo⟩
theorem UC.below (h:UC w gi x0 x1 x2 y0 y1 y2 y3 y4 W)(hb:Below W.heap.size W W'):UC w gi x0 x1 x2 y0 y1 y2 y3 y4 W' :=
 let ⟨vs,r1,l1⟩:=h.rd
 let ⟨us,r2,l2⟩:=h.rm
 ⟨h.d.below hb,h.i.below hb,⟨vs,r1.below hb,l1⟩,⟨us,r2.below hb,l2⟩,h.bel.trans (hb.mono h.bel.size),h.lo⟩
theorem UC.alloc (h:UC w gi x0 x1 x2 y0 y1 y2 y3 y4 W)(o:Obj):UC w gi x0 x1 x2 y0 y1 y2 y3 y4 (W.alloc o):=h.below ((Below.refl _ _).alloc (Nat.le_refl _) o)
theorem UC.setD (h:UC w gi x0 x1 x2 y0 y1 y2 y3 y4 W)(o:Nat)(v:Value):UC w gi x0 x1 x2 y0 y1 y2 y3 y4 (W.setCell ⟨w.heap.size+1+1,o,none⟩ v) :=
 let ⟨vs,r1,l1⟩:=h.rd
 let ⟨us,r2,l2⟩:=h.rm
 have hl:=h.lo
 ⟨h.d.other (by show _≠w.heap.size+1+1;omega) v,h.i.other (by show _≠w.heap.size+1+1;omega) v,⟨vs.set o v,r1.set o v,by rw [List.length_set,l1]⟩,⟨us,r2.other (by show _≠w.heap.size+1+1;omega) v,l2⟩,h.bel.setCell (by show _≤w.heap.size+1+1;omega) v,h.lo⟩
theorem UC.setM (h:UC w gi x0 x1 x2 y0 y1 y2 y3 y4 W)(o:Nat)(v:Value):UC w gi x0 x1 x2 y0 y1 y2 y3 y4 (W.setCell ⟨w.heap.size+1+1+1,o,none⟩ v) :=
 let ⟨vs,r1,l1⟩:=h.rd
 let ⟨us,r2,l2⟩:=h.rm
 have hl:=h.lo
 ⟨h.d.other (by show _≠w.heap.size+1+1+1;omega) v,h.i.other (by show _≠w.heap.size+1+1+1;omega) v,⟨vs,r1.other (by show _≠w.heap.size+1+1+1;omega) v,l1⟩,⟨us.set o v,r2.set o v,by rw [List.length_set,l2]⟩,h.bel.setCell (by show _≤w.heap.size+1+1+1;omega) v,h.lo⟩
theorem UC.all (h:UC w gi x0 x1 x2 y0 y1 y2 y3 y4 W):W.cell? ⟨w.heap.size,0,none⟩=some x0∧W.cell? ⟨gi,0,none⟩=some y0∧W.cell? ⟨gi,1,none⟩=some y1∧W.cell? ⟨gi,2,none⟩=some y2∧W.cell? ⟨gi,3,none⟩=some y3∧W.cell? ⟨gi,4,none⟩=some y4 ∧
 W.cell? ⟨w.heap.size+1+1,0,none⟩=some (cv W ⟨w.heap.size+1+1,0,none⟩)∧W.cell? ⟨w.heap.size+1+1,1,none⟩=some (cv W ⟨w.heap.size+1+1,1,none⟩)∧W.cell? ⟨w.heap.size+1+1,2,none⟩=some (cv W ⟨w.heap.size+1+1,2,none⟩) ∧
 W.cell? ⟨w.heap.size+1+1+1,0,none⟩=some (cv W ⟨w.heap.size+1+1+1,0,none⟩)∧W.cell? ⟨w.heap.size+1+1+1,1,none⟩=some (cv W ⟨w.heap.size+1+1+1,1,none⟩)∧W.cell? ⟨w.heap.size+1+1+1,2,none⟩=some (cv W ⟨w.heap.size+1+1+1,2,none⟩)∧W.cell? ⟨w.heap.size+1+1+1,3,none⟩=some (cv W ⟨w.heap.size+1+1+1,3,none⟩)∧W.cell? ⟨w.heap.size+1+1+1,4,none⟩=some (cv W ⟨w.heap.size+1+1+1,4,none⟩) ∧
 (∀o,W.frozen? ⟨w.heap.size+1+1,o,none⟩=false)∧(∀o,W.frozen? ⟨w.heap.size+1+1+1,o,none⟩=false)∧UC w gi x0 x1 x2 y0 y1 y2 y3 y4 W:=by
 obtain ⟨vs,r1,l1⟩:=h.rd
 obtain ⟨us,r2,l2⟩:=h.rm
 obtain ⟨d0,_,_,_⟩:=box3 h.d
 obtain ⟨i0,i1,i2,i3,i4,_⟩:=box5 h.i
 exact ⟨d0,i0,i1,i2,i3,i4,cv_some (r1.cell (i:=0) (by omega)),cv_some (r1.cell (i:=1) (by omega)),cv_some (r1.cell (i:=2) (by omega)),cv_some (r2.cell (i:=0) (by omega)),cv_some (r2.cell (i:=1) (by omega)),cv_some (r2.cell (i:=2) (by omega)),cv_some (r2.cell (i:=3) (by omega)),cv_some (r2.cell (i:=4) (by omega)),r1.free,r2.free,h⟩
end
theorem own_ints' {w:World}{base:Nat}{e:TypeId}{A:Option Addr}{n c:Nat}{zs:List Int}(h:w.ownsRow base e 1 (.slice A n c) n (zs.map (.int .i64))):IntsAt w A n zs:=by
 have hl:=h.1
 rcases h.2 with ⟨h1,h2⟩ | ⟨g,cap,cur,h1,_⟩
 ·subst h2
  exact ⟨by simpa using hl,fun h=>absurd h (by omega)⟩
 ·injection h1 with h1 _ h3
  subst h1
  exact own_ints h
theorem map_nats (l:List Nat):(nats l).map (Value.int .i64)=l.map (fun k:Nat=>Value.int .i64 k):=by unfold nats;rw [List.map_map];rfl
theorem getD_m {d:Pl.Dg}{k:Nat}(hk:k<d.mt.length):d.mt.getD k 0=d.m k:=by
 unfold Pl.Dg.m
 rw [List.getD_eq_getElem?_getD,List.getD_eq_getElem?_getD,List.getElem?_eq_getElem hk];rfl
theorem getD_le {d:Pl.Dg}(hd:Pl.Wf d)(h:Nat):d.mt.getD h 0≤256:=by
 have hn:=hd.few
 have hl:=hd.len
 by_cases hh:h<d.mt.length
 ·rw [getD_m hh]
  have:=hd.lt h (by omega)
  omega
 ·rw [List.getD_eq_getElem?_getD,List.getElem?_eq_none (by omega)]
  exact Nat.zero_le _
theorem set_le {l:List Nat}{N a b:Nat}(h:∀k,l.getD k 0≤N)(hb:b≤N):∀k,(l.set a b).getD k 0≤N:=by
 intro k
 have hk:=h k
 rw [List.getD_eq_getElem?_getD] at hk ⊢
 rw [List.getElem?_set]
 split
 ·split
  ·simpa using hb
  ·simp
 ·exact hk
theorem jn_le {l:List Nat}{N a b:Nat}(h:∀k,l.getD k 0≤N)(ha:a≤N)(hb:b≤N):∀k,(jn l a b).getD k 0≤N:=set_le (set_le h hb) ha
def kA (d:Pl.Dg)(c:Nat):Nat:=Pl.tn (kk d c) 2
def kB (d:Pl.Dg)(c:Nat):Nat:=Pl.tn (d.m (kk d c)) 2
def uncC (d:Pl.Dg)(c:Nat):Int:=if d.m (kk d c) / 4=c then (if d.m (kA d c)=kB d c then (if 64<d.lp+1 then 5 else 0) else 0) else 6
def unM (d:Pl.Dg)(c:Nat):List Nat:=if d.m (kA d c)=kB d c then d.mt else jn d.mt (d.m (kA d c)) (d.m (kB d c))
def unD (d:Pl.Dg)(c:Nat):Pl.Dg:=⟨Pl.shrS [c] d.sg,Pl.shrM [c] d.n (unM d c),if d.m (kA d c)=kB d c then d.lp+1 else d.lp⟩
def unI (d:Pl.Dg)(c:Nat):Mv:=⟨1,if d.m (kA d c)=kB d c then -1 else (Pl.shf [c] (d.m (kA d c)):Nat),0,d.s c,decide (kA d c % 2=1)⟩
def UncPost (d:Pl.Dg)(c:Nat)(w:World)(e:Ending)(w':World):Prop:=(uncC d c≠0→ResErr (uncC d c) e)∧(uncC d c=0→ResOk (unD d c) (unI d c) e w')∧Below w.heap.size w w'
theorem kk_lt {d:Pl.Dg}{c:Nat}(hc:c<d.n):kk d c<4 * d.n:=by unfold kk;split <;> (try split) <;> omega
theorem kA_lt {d:Pl.Dg}{c:Nat}(hc:c<d.n):kA d c<4 * d.n:=Pl.tn_lt (kk_lt hc)
theorem kB_lt {d:Pl.Dg}(hd:Pl.Wf d){c:Nat}(hc:c<d.n):kB d c<4 * d.n:=Pl.tn_lt (hd.lt _ (kk_lt hc))
theorem shrunk_sl (gs:List Nat)(sg:List Int)(mt:List Nat)(lp:Int)(A B C:Option Addr)(n q r cp cq cr:Nat)(w:World)(hs:IntsAt w A n sg)(hm:IntsAt w B q (nats mt))(hg:IntsAt w C r (nats gs))(hf:Pl.Few gs)
 (hq:q=4 * n) (hcq:q≤cq) (hcq2:cq≤maxLen) (hn:n≤100) (hr:1≤r∧r≤100) (hmt:∀h,mt.getD h 0≤1000) :
 Calls Tryz.prog 75 #[.slice A n cp,.slice B q cq,.int .i64 lp,.slice C r cr] w fun e w'=>∃(A7 A8:Option Addr) (c7 c8:Nat),e = .returned (.agg #[.slice A7 (Pl.left sg.length gs).length c7,.slice A8 (4 * (Pl.left sg.length gs).length) c8,.int .i64 lp]) ∧
  w'.ownsRow (w.heap.size+2) 3 1 (.slice A7 (Pl.left sg.length gs).length c7) (Pl.left sg.length gs).length ((Pl.shrS gs sg).map (.int .i64))∧w'.ownsRow (w.heap.size+2) 3 1 (.slice A8 (4 * (Pl.left sg.length gs).length) c8) (4 * (Pl.left sg.length gs).length) ((Pl.shrM gs sg.length mt).map (fun k:Nat=>Value.int .i64 k))∧Below w.heap.size w w':=by
 refine (shrunk_any gs sg mt lp A B C n q r cp cq cr w hs hm hg hf hq hcq hcq2 hn hr hmt).mono ?_
 rintro e w' ⟨vS,vM,rfl,o1,o2,hb⟩
 obtain ⟨A7,c7,rfl⟩:=owns_slice o1
 obtain ⟨A8,c8,rfl⟩:=owns_slice o2
 exact ⟨A7,A8,c7,c8,rfl,o1,o2,hb⟩
def W4 (w:World)(x0 x1 x2 y0 y1 y2 y3 y4:Value):World:=((((w.alloc (.cells #[x0,x1,x2] 24)).alloc (.cells #[y0,y1,y2,y3,y4] 43)).alloc (.cells #[.slice none 0 0,.slice none 0 0,.int .i64 0] 24)).alloc (.cells #[.int .i64 0,.int .i64 0,.int .i64 0,.int .i64 0,.bool false] 43))
theorem row_at {W:World}{t:TypeId}{vs:List Value}{g:Nat}(h:g=W.heap.size):Row (W.alloc (.cells vs.toArray t)) g t vs:=by subst h;exact Row.new W t vs
theorem boxes4 (w:World)(x0 x1 x2 y0 y1 y2 y3 y4:Value) :
 Row (W4 w x0 x1 x2 y0 y1 y2 y3 y4) w.heap.size 24 [x0,x1,x2]∧Row (W4 w x0 x1 x2 y0 y1 y2 y3 y4) (w.heap.size+1) 43 [y0,y1,y2,y3,y4]∧Row (W4 w x0 x1 x2 y0 y1 y2 y3 y4) (w.heap.size+1+1) 24 [.slice none 0 0,.slice none 0 0,.int .i64 0] ∧
 Row (W4 w x0 x1 x2 y0 y1 y2 y3 y4) (w.heap.size+1+1+1) 43 [.int .i64 0,.int .i64 0,.int .i64 0,.int .i64 0,.bool false]∧Below w.heap.size w (W4 w x0 x1 x2 y0 y1 y2 y3 y4)∧(W4 w x0 x1 x2 y0 y1 y2 y3 y4).heap.size=w.heap.size+4:=by
 unfold W4
 refine ⟨(((row_at (vs:=[x0,x1,x2]) rfl).alloc _).alloc _).alloc _,((row_at (vs:=[y0,y1,y2,y3,y4]) (by simp)).alloc _).alloc _,(row_at (vs:=[.slice none 0 0,.slice none 0 0,.int .i64 0]) (by simp)).alloc _,row_at (vs:=[.int .i64 0,.int .i64 0,.int .i64 0,.int .i64 0,.bool false]) (by simp),?_,by simp⟩
 exact ((((Below.refl _ _).alloc (Nat.le_refl _) _).alloc (by simp) _).alloc (by simp;omega) _).alloc (by simp;omega) _
end Go.Proofs.YtdgliimmnnhhjaaGreatDoor
end
section
namespace Go.Proofs.YtdgliimmnnhhjaaGreatDoor
open Go Go.RowKit
def fv1 (k:Nat)(c:Value):Value := .func (.func k) #[] #[c]
def Steps (k:Nat)(c:Value)(N:Nat)(f:Nat→Nat)(w:World):Prop:=∀w' h,Below w.heap.size w w'→h<N→Calls Tryz.prog k #[.int .i64 (h:Int),c] w' fun e w''=>e = .returned (.int .i64 (f h:Nat))∧Below w'.heap.size w' w''
theorem Steps.keep {k:Nat}{c:Value}{N:Nat}{f:Nat→Nat}{w W:World}(h:Steps k c N f w)(hb:Below w.heap.size w W):Steps k c N f W :=
 fun w' x hb' hx=>h w' x (hb.trans (hb'.mono hb.size)) hx
theorem nextF_any (d:Pl.Dg)(B:Option Addr)(cq m g h:Nat)(x0 x2:Value)(w:World)(hm:m=4 * d.n)(hd:Pl.Wf d)(hr:Row w g 24 [x0,.slice B m cq,x2])(hb:IntsAt w B m (nats d.mt))(hh:h<4 * d.n) :
 Calls Tryz.prog 106 #[.int .i64 (h:Int),.pointer (some ⟨g,0,none⟩)] w fun e w'=>e = .returned (.int .i64 (Pl.nx d h:Nat))∧w'=w:=by
 have hn:=hd.few
 have lt:=hd.lt h hh
 obtain ⟨b,o,rfl,hc⟩:=mate_at (by rw [←hm];exact hb) hh
 obtain ⟨f0,f1,f2,f3⟩:=box3 hr
 have hhm:h<m:=by omega
 have HM:=hide hm
 clear hm
 obtain ⟨u,hu⟩:∃u,u=d.m h:=⟨_,rfl⟩
 have HU:=hide (show Pl.nx d h=Pl.tn u 3 by rw [hu];rfl)
 rw [←hu] at hc lt
 clear hu
 go_enter Tryz.func106,Tryz.ntmps106
 go_wp2_with fail
 refine (turn_back u _ (by omega)).mono ?_
 rintro e w1 ⟨rfl,rfl⟩
 go_wp2
 go_ret
 exact ⟨by rw [HU.out];rfl,rfl⟩
theorem nextF_steps (d:Pl.Dg)(B:Option Addr)(cq m g:Nat)(x0 x2:Value)(w:World)(hm:m=4 * d.n)(hd:Pl.Wf d)(hr:Row w g 24 [x0,.slice B m cq,x2])(hb:IntsAt w B m (nats d.mt)) :
 Steps 106 (.pointer (some ⟨g,0,none⟩)) (4 * d.n) (Pl.nx d) w:=fun w' h hbl hh =>
 (nextF_any d B cq m g h x0 x2 w' hm hd (hr.below hbl) (hb.keep hbl) hh).mono fun _ _ ⟨he,hw⟩=>⟨he,by rw [hw];exact Below.refl _ _⟩
theorem own_one (W:World)(x:Value):(W.alloc (.cells #[x] 3)).ownsRow W.heap.size 3 1 (.slice (some ⟨W.heap.size,0,none⟩) 1 1) 1 [x] :=
 ⟨rfl,.inr ⟨W.heap.size,1,#[x],rfl,Nat.le_refl _,heap_alloc_new W _,Nat.le_refl _,by unfold maxLen;omega,rfl,rfl⟩⟩
theorem it_lt {f:Nat→Nat}{N:Nat}(hf:∀x,x<N→f x<N){h:Nat}(hh:h<N):∀k,Pl.it f k h<N
 | 0=>hh
 | k+1=>hf _ (it_lt hf hh k)
def CycPost (f:Nat→Nat)(h p:Nat)(w:World)(e:Ending)(w':World):Prop :=
 ∃(A:Option Addr) (c:Nat),e = .returned (.slice A p c)∧w'.ownsRow w.heap.size 3 1 (.slice A p c) p ((Pl.cyc f h p).map (fun k:Nat=>Value.int .i64 k))∧Below w.heap.size w w'
set_option maxRecDepth 100000 in
set_option maxHeartbeats 2000000 in
theorem cycle_any (c:Value)(N:Nat)(f:Nat→Nat)(h p:Nat)(w:World)(hst:Steps 106 c N f w)(hf:∀x,x<N→f x<N)(hh:h<N)(hp:Pl.Per f h p)(hpN:p≤N)(hN:N≤1000) :
 Calls Tryz.prog 118 #[.int .i64 (h:Int),fv1 106 c] w (CycPost f h p w):=by
 unfold fv1
 have HST:=hide hst
 have HF:=hide hf
 have HP:=hide hp
 have hp0:=hp.1
 clear hst hf hp
 have B1:=hide (show Below w.heap.size w (w.alloc (.cells #[.int .i64 (h:Int)] 3)) from (Below.refl _ _).alloc (Nat.le_refl _) _)
 go_enter Tryz.func118,Tryz.ntmps118
 go_wp2_with fail
 refine (HST.out _ h B1.out hh).mono ?_
 rintro e w2 ⟨rfl,hb2⟩
 have B2:=hide (B1.out.trans (hb2.mono B1.out.size))
 have O2:=hide (own_keep (own_one w (.int .i64 (h:Int))) hb2 (Nat.le_refl _))
 clear hb2
 go_wp2_with fail
 go_loopg [5,6] (p - 1) (fun g v i wx=>∃j:Nat,j+1+g=p∧i = .int .i64 (Pl.it f (j+1) h:Nat)∧wx.ownsRow w.heap.size 3 1 v (j+1) ((Pl.cyc f h (j+1)).map (fun k:Nat=>Value.int .i64 k))∧Below w.heap.size w wx)
 case atStart=>exact ⟨0,by omega,rfl,O2.out,B2.out⟩
 case round =>
  clear O2 B2 B1
  obtain ⟨j,hjg,rfl,own,hb⟩:=hrel
  have HJ:=hide hjg
  have hjp:j+1≤p:=by omega
  have OWN:=hide own
  have HB:=hide hb
  have hbs:=hb.size
  obtain ⟨x,hx⟩:∃x,x=Pl.it f (j+1) h:=⟨_,rfl⟩
  rw [←hx]
  have HX:=hide hx
  have hxN:x<N:=by rw [hx];exact it_lt HF.out hh (j+1)
  clear hjg own hb hx
  by_cases he:x=h
  ·have hjj:¬j+1<p:=fun hlt=>HP.out.2.2 (j+1) (by omega) hlt (by rw [←HX.out,he])
   have t1:((x:Int) != (h:Int))=false:=by rw [bne_eq_false_iff_eq];omega
   have HE:=hide he
   obtain rfl:j+1=p:=by omega
   obtain ⟨A5,c5,rfl⟩:=owns_slice OWN.out
   clear he hjj
   go_wp2
   go_ret
   exact ⟨A5,c5,rfl,OWN.out,HB.out⟩
  ·have t1:((x:Int) != (h:Int))=true:=by rw [bne_iff_ne];omega
   have hjj:j+1<p:=by
    rcases Nat.lt_or_ge (j+1) p with h1 | h1
    ·exact h1
    ·have:j+1=p:=by omega
     exact absurd (by rw [HX.out,this];exact HP.out.2.1) he
   clear he
   obtain ⟨i0,hi0,hz0,hz1,hz2⟩:=info_parts intInfo
   go_wp2_with (at_builtin;refine wpList_append_lies _ (by rfl) _ _ 22 (by rfl) w.heap.size 3 i0 (.int .i64 0) 1 8 Tryz.underlying22 hi0 hz0 hz1 hz2 rfl (by omega) _ (j+1) _ (by rfl) (OWN.out.alloc _) ⟨wr.heap.size,0,none⟩ 1 1 [.int .i64 (x:Int)] (by rfl) (by rfl) (one_news wr (.int .i64 (x:Int))) (by simp [Value.oneCell']) (by omega) (by unfold maxLen;omega) (by omega) (by simp;omega) (wr.heap.size+1) (by simp) ?_;intro g3 c3 w3 own3 grow3 at3 lt3;have OWN3:=hide own3;have GR3:=hide grow3;clear own3 grow3 at3)
   have B3:=hide ((HB.out.alloc hbs (.cells #[.int .i64 (x:Int)] 3)).grown GR3.out (by simp;omega) (fun k hk=>(OWN.out.lt k hk).1))
   refine (HST.out _ x B3.out hxN).mono ?_
   rintro e w4 ⟨rfl,hb4⟩
   go_wp2_with fail
   go_roundg (gk - 1)
   case measure=>have:=HJ.out;omega
   case rel =>
    refine ⟨j+1,by have:=HJ.out;omega,?_,?_,B3.out.trans (hb4.mono B3.out.size)⟩
    ·rw [HX.out];rfl
    ·have:=own_keep OWN3.out hb4 (Nat.le_refl _)
     rw [Pl.cyc_succ,List.map_append,←HX.out]
     exact this
end Go.Proofs.YtdgliimmnnhhjaaGreatDoor
end
section
namespace Go.Proofs.YtdgliimmnnhhjaaGreatDoor
open Go Go.RowKit
theorem RowT.store {w:World}{t t':TypeId}{A:Option Addr}{n:Nat}{xs:List Value}{g i:Nat}{vs:List Value}(h:RowT w t A n xs)(hr:Row w g t' vs)(hne:t≠t')(v:Value):RowT (w.setCell ⟨g,i,none⟩ v) t A n xs :=
 ⟨h.1, fun hn => let ⟨b, o, cs, fr, e, hb, hc⟩ := h.2 hn; ⟨b, o, cs, fr, e, (Below.heap_setCell w _ v b (fun he => by
   have hr':=hr
   unfold Row at hr'
   have he':b=g:=he
   rw [he',hr'] at hb
   injection hb with hb
   injection hb with _ h4
   exact hne h4.symm)).trans hb,hc⟩⟩
theorem own_rowT {w:World}{base:Nat}{t:TypeId}{A:Option Addr}{n c:Nat}{xs:List Value}(h:w.ownsRow base t 1 (.slice A n c) n xs):RowT w t A n xs:=by
 refine ⟨by simpa using h.1,fun hn=>?_⟩
 rcases h.2 with ⟨_,h2⟩ | ⟨g,cap,cur,h1,_,h3,_,_,_,h5⟩
 ·omega
 ·injection h1 with h1 _ _
  refine ⟨g,0,cur,(0,0),h1,h3,fun j u hu=>?_⟩
  rw [Nat.zero_add]
  have hj:j<n:=by
   have:=(List.getElem?_eq_some_iff.1 hu).1
   have:=h.1
   omega
  rw [←h5,List.getElem?_take,if_pos (by omega)] at hu
  rw [←hu]
  simp
def FaceAt (w:World)(v:Value)(l:List Nat):Prop:=∃A c,v = .slice A l.length c∧RowT w 3 A l.length (l.map (fun k:Nat=>Value.int .i64 k))
def Vs (w:World)(vs:List Value)(fs:List (List Nat)):Prop:=vs.length=fs.length∧∀(i:Nat) l,fs[i]? = some l→∃v,vs[i]? = some v∧FaceAt w v l
theorem Vs.below {w w':World}{vs:List Value}{fs:List (List Nat)}(h:Vs w vs fs)(hb:Below w.heap.size w w'):Vs w' vs fs :=
 ⟨h.1,fun i l e=>let ⟨v,h1,A,c,h2,h3⟩:=h.2 i l e;⟨v,h1,A,c,h2,h3.keep hb⟩⟩
theorem Vs.grown {w w':World}{vs:List Value}{fs:List (List Nat)}{row:Option Nat}{t':TypeId}(h:Vs w vs fs)(hg:w.grownBy w' row)(hr:∀g,row=some g→∃cs fr,w.heap[g]? = some (.cells cs t' fr))(hne:3≠t'):Vs w' vs fs :=
 ⟨h.1,fun i l e=>let ⟨v,h1,A,c,h2,h3⟩:=h.2 i l e;⟨v,h1,A,c,h2,h3.grown hg hr hne⟩⟩
theorem Vs.store {w:World}{vs:List Value}{fs:List (List Nat)}{g i:Nat}{us:List Value}{t':TypeId}(h:Vs w vs fs)(hr:Row w g t' us)(hne:3≠t')(v:Value):Vs (w.setCell ⟨g,i,none⟩ v) vs fs :=
 ⟨h.1,fun i l e=>let ⟨v,h1,A,c,h2,h3⟩:=h.2 i l e;⟨v,h1,A,c,h2,h3.store hr hne _⟩⟩
theorem Vs.add {w:World}{vs:List Value}{fs:List (List Nat)}{v:Value}{l:List Nat}(h:Vs w vs fs)(hv:FaceAt w v l):Vs w (vs++[v]) (fs++[l]):=by
 refine ⟨by simp [h.1],fun i m e=>?_⟩
 rw [List.getElem?_append] at e ⊢
 by_cases hi:i<fs.length
 ·rw [if_pos hi] at e
  rw [if_pos (by rw [h.1];exact hi)]
  exact h.2 i m e
 ·rw [if_neg hi] at e
  rw [if_neg (by rw [h.1];exact hi),h.1]
  have h1:=(List.getElem?_eq_some_iff.1 e).1
  simp only [List.length_singleton] at h1
  have h0:i - fs.length=0:=by omega
  rw [h0] at e ⊢
  simp only [List.getElem?_cons_zero,Option.some.injEq] at e
  subst e
  exact ⟨v,rfl,hv⟩
theorem Vs.nil (w:World):Vs w [] []:=⟨rfl,fun i l e=>by simp at e⟩
theorem FaceAt.below {w w':World}{v:Value}{l:List Nat}(h:FaceAt w v l)(hb:Below w.heap.size w w'):FaceAt w' v l:=let ⟨A,c,h2,h3⟩:=h;⟨A,c,h2,h3.keep hb⟩
theorem FaceAt.store {w:World}{v:Value}{l:List Nat}{g i:Nat}{us:List Value}{t':TypeId}(h:FaceAt w v l)(hr:Row w g t' us)(hne:3≠t')(u:Value):FaceAt (w.setCell ⟨g,i,none⟩ u) v l:=let ⟨A,c,h2,h3⟩:=h;⟨A,c,h2,h3.store hr hne _⟩
theorem FaceAt.grown {w w':World}{v:Value}{l:List Nat}{row:Option Nat}{t':TypeId}(h:FaceAt w v l)(hg:w.grownBy w' row)(hr:∀g,row=some g→∃cs fr,w.heap[g]? = some (.cells cs t' fr))(hne:3≠t'):FaceAt w' v l:=let ⟨A,c,h2,h3⟩:=h;⟨A,c,h2,h3.grown hg hr hne⟩
theorem FaceAt.ints {w:World}{A:Option Addr}{n c:Nat}{l:List Nat}(h:FaceAt w (.slice A n c) l):n=l.length∧IntsAt w A n (nats l):=by
 obtain ⟨A',c',h1,h2⟩:=h
 injection h1 with h1 h3 h4
 subst h1 h3
 refine ⟨rfl,?_⟩
 unfold IntsAt
 rw [map_nats]
 exact h2.row
def Far (base:Nat)(vs:List Value):Prop:=∀v,v ∈ vs→∀g,v.ownBlock=some g→base≤g
theorem FaceAt.far {w:World}{v:Value}{l:List Nat}{base g i:Nat}(h:FaceAt w v l)(hf:∀b,v.ownBlock=some b→base≤b)(hg:g<base)(u:Value):FaceAt (w.setCell ⟨g,i,none⟩ u) v l:=by
 obtain ⟨A,c,rfl,h1,h2⟩:=h
 refine ⟨A,c,rfl,h1,fun hn=>?_⟩
 obtain ⟨b,o,cs,fr,rfl,hb,hc⟩:=h2 hn
 have:=hf b rfl
 exact ⟨b,o,cs,fr,rfl,(Below.heap_setCell w _ u b (by show b≠g;omega)).trans hb,hc⟩
theorem Vs.far {w:World}{vs:List Value}{fs:List (List Nat)}{base g i:Nat}(h:Vs w vs fs)(hf:Far base vs)(hg:g<base)(u:Value):Vs (w.setCell ⟨g,i,none⟩ u) vs fs :=
 ⟨h.1,fun i l e=>let ⟨v,h1,h2⟩:=h.2 i l e;⟨v,h1,h2.far (hf v (List.mem_of_getElem? h1)) hg u⟩⟩
theorem Far.add {base:Nat}{vs:List Value}{v:Value}(h:Far base vs)(hv:∀g,v.ownBlock=some g→base≤g):Far base (vs++[v]):=fun u hu=>by
 rcases List.mem_append.1 hu with hu | hu
 ·exact h u hu
 ·rw [List.mem_singleton] at hu;subst hu;exact hv
theorem rowInfo:(Tryz.prog.info? 22).map (fun i=>(i.zero,i.size,i.bytes))=some (some (.slice none 0 0),1,24):=by kernel_rfl
theorem every_any (h:Int)(w:World):Calls Tryz.prog 104 #[.int .i64 h] w fun e w'=>e = .returned (.bool true)∧w'=w:=by
 go_enter Tryz.func104,Tryz.ntmps104
 go_wp2
 go_ret
 exact ⟨rfl,rfl⟩
end Go.Proofs.YtdgliimmnnhhjaaGreatDoor
end
section
namespace Go.Proofs.YtdgliimmnnhhjaaGreatDoor
open Go Go.RowKit
structure Cys (w:World) (N:Nat) (f:Nat→Nat) (k:Nat) (fs:List (List Nat)) (bs:List Bool) (vs:List Value) (vA:Value) (W:World):Prop where
 fc:Pl.Fcs f (fun _=>True) N k fs bs
 few:fs.length≤k
 seen:BRow W w.heap.size bs
 own:W.ownsRow (w.heap.size+1) 22 1 vA fs.length vs
 fa:Vs W vs fs
 bel:Below w.heap.size w W
 far:Far w.heap.size vs
theorem Cys.below {w:World}{N:Nat}{f:Nat→Nat}{k:Nat}{fs:List (List Nat)}{bs:List Bool}{vs:List Value}{vA:Value}{W W':World}(h:Cys w N f k fs bs vs vA W)(hb:Below W.heap.size W W'):Cys w N f k fs bs vs vA W' :=
 ⟨h.fc,h.few,Row.below h.seen hb,own_keep h.own hb (Nat.le_refl _),h.fa.below hb,h.bel.trans (hb.mono h.bel.size),h.far⟩
def CyclesPost (f:Nat→Nat)(N:Nat)(w:World)(e:Ending)(w':World):Prop :=
 ∃(A:Option Addr) (c:Nat) (fs:List (List Nat)) (bs:List Bool) (vs:List Value),e = .returned (.slice A fs.length c)∧Pl.Fcs f (fun _=>True) N N fs bs∧fs.length≤N∧RowT w' 22 A fs.length vs∧Vs w' vs fs∧Below w.heap.size w w'∧Far w.heap.size vs
set_option maxRecDepth 100000 in
set_option maxHeartbeats 3000000 in
theorem cycles_any (c:Value)(N:Nat)(S:Nat→Prop)(f:Nat→Nat)(w:World)(hst:Steps 106 c N f w)(hbij:Pl.Bij N S f)(hS:∀x,x<N→S x)(hSN:∀x,S x→x<N)(hN:N≤1000) :
 Calls Tryz.prog 105 #[.int .i64 (N:Int),.func (.func 104) #[] #[],fv1 106 c] w (CyclesPost f N w):=by
 unfold fv1
 have HST:=hide hst
 have HBI:=hide hbij
 have HSS:=hide hS
 have HSN:=hide hSN
 have hmk:=fun W:World=>run_bools N (by omega) W
 have HF:=hide (show ∀x,x<N→f x<N from fun x hx=>hSN _ (hbij.maps x (hS x hx)))
 have H0:=hide (show Cys w N f 0 [] (List.replicate N false) [] (.slice none 0 0) (w.alloc (.cells (Array.replicate N (Value.bool false)) 4)) from
  ⟨Pl.Fcs.start f _ N,Nat.le_refl _,BRow.made w N,World.ownsRow_nil _ _ _ _,Vs.nil _,(Below.refl _ _).alloc (Nat.le_refl _) _,fun v hv=>by simp at hv⟩)
 clear hst hbij hS hSN
 go_enter Tryz.func105,Tryz.ntmps105
 go_wp2
 clear hmk
 go_loopg [7,16] N (fun g v i wx=>∃(k:Nat) (fs:List (List Nat)) (bs:List Bool) (vs:List Value),k+g=N∧i = .int .i64 k∧Cys w N f k fs bs vs v wx)
 case atStart=>exact ⟨0,_,_,_,by omega,rfl,H0.out⟩
 case round =>
  clear H0
  obtain ⟨k,fs,bs,vs,hkg,rfl,hk⟩:=hrel
  have HKG:=hide hkg
  have hkN:k≤N:=by omega
  have HK:=hide hk
  clear hkg hk
  obtain ⟨go,rfl⟩:∃go,go=gk:=⟨_,rfl⟩
  obtain ⟨A7,c7,rfl⟩:=owns_slice HK.out.own
  by_cases hlt:k<N
  ·have hbl:k<bs.length:=by rw [HK.out.fc.len];exact hlt
   have hc:=HK.out.seen.cell hbl
   have ik:(0:Int)≤(k:Int):=by omega
   have jk:(k:Int)<(N:Int):=by omega
   cases hg:Pl.gb bs k with
   | true =>
     have HGB:=hide hg
     have hc':wr.cell? ⟨w.heap.size,k,none⟩=some (.bool true):=by rw [hc];unfold Pl.gb at hg;rw [hg]
     clear hc hg
     go_wp2
     go_roundg (go - 1)
     case measure=>have:=HKG.out;omega
     case rel=>exact ⟨k+1,fs,bs,vs,by have:=HKG.out;omega,by go_num,HK.out.fc.skip (.inl HGB.out),by have:=HK.out.few;omega,HK.out.seen,HK.out.own,HK.out.fa,HK.out.bel,HK.out.far⟩
   | false =>
     have HGB:=hide hg
     have hc':wr.cell? ⟨w.heap.size,k,none⟩=some (.bool false):=by rw [hc];unfold Pl.gb at hg;rw [hg]
     clear hc hg
     go_wp2_with fail
     refine (every_any _ _).mono ?_
     rintro e w1 ⟨rfl,rfl⟩
     go_wp2_with fail
     obtain ⟨p,hpN,hper⟩:=HBI.out.per (HSS.out k hlt)
     have HPER:=hide hper
     clear hper
     refine (cycle_any c N f k p _ (HST.out.keep HK.out.bel) HF.out hlt HPER.out hpN hN).mono ?_
     rintro e w2 ⟨A5,c5,rfl,own5,hb5⟩
     have HK2:=hide (HK.out.below hb5)
     have FA2:=hide (show FaceAt w2 (.slice A5 p c5) (Pl.cyc f k p) from ⟨A5,c5,by rw [Pl.cyc_len],by rw [Pl.cyc_len];exact own_rowT own5⟩)
     have HFR:=hide (show ∀g,(Value.slice A5 p c5).ownBlock=some g→w.heap.size≤g from fun g hg=>by have:=(own5.lt g hg).1;have:=HK.out.bel.size;omega)
     have HFA0:=hide HK.out.far
     clear own5 hb5
     have hp0:=HPER.out.1
     obtain ⟨b5,o5,rfl,_⟩:=nats_at FA2.out.ints.2 (k:=0) hp0
     have HFC:=hide HK.out.fc
     have hfew:=HK.out.few
     have HM0:=hide (show BRow w2 w.heap.size (Pl.mark bs ((Pl.cyc f k p).take 0)) from HK2.out.seen)
     go_wp2_with fail
     go_loopg [34] p (fun g i wx=>∃j:Nat,j+g=p∧i = .int .i64 j∧BRow wx w.heap.size (Pl.mark bs ((Pl.cyc f k p).take j))∧wx.ownsRow (w.heap.size+1) 22 1 (.slice A7 fs.length c7) fs.length vs∧Vs wx vs fs∧FaceAt wx (.slice (some ⟨b5,o5,none⟩) p c5) (Pl.cyc f k p)∧Below w.heap.size w wx)
     case atStart=>exact ⟨0,by omega,rfl,HM0.out,HK2.out.own,HK2.out.fa,FA2.out,HK2.out.bel⟩
     case round =>
      clear HM0 FA2 HK2 HK
      obtain ⟨j,hjg,rfl,hbr,hown,hvs,hfa,hbel⟩:=hrel
      have HJG:=hide hjg
      have hjp:j≤p:=by omega
      have HBR:=hide hbr
      have HOWN:=hide hown
      have HVS:=hide hvs
      have HFA:=hide hfa
      have HBEL:=hide hbel
      have hsz:=hbr.lt
      clear hjg hbr hown hvs hfa hbel
      by_cases hlj:j<p
      ·obtain ⟨b',o',e',hcj⟩:=nats_at HFA.out.ints.2 (k:=j) hlj
       injection e' with e'
       injection e' with e1 e2
       subst e1
       subst e2
       rw [Pl.cyc_get hlj] at hcj
       obtain ⟨y,hy⟩:∃y,y=Pl.it f j k:=⟨_,rfl⟩
       have hyN:y<N:=by rw [hy];exact it_lt HF.out hlt j
       rw [←hy] at hcj
       have HY:=hide hy
       clear hy
       have hyl:y<(Pl.mark bs ((Pl.cyc f k p).take j)).length:=by rw [Pl.mark_len,HFC.out.len];exact hyN
       have cy:=HBR.out.cell hyl
       have fy:=Row.free HBR.out y
       have iy:(0:Int)≤(y:Int):=by omega
       have jy:(y:Int)<(N:Int):=by omega
       go_wp2_with fail
       go_roundg (gk - 1)
       case measure=>have:=HJG.out;omega
       case rel =>
        refine ⟨j+1,by have:=HJG.out;omega,by go_num,?_,?_,HVS.out.store HBR.out (by decide) _,HFA.out.store HBR.out (by decide) _,HBEL.out.setCell (Nat.le_refl _) _⟩
        ·have h1:=HBR.out.set y true
         have h2:(Pl.cyc f k p).take (j+1)=(Pl.cyc f k p).take j++[y]:=by
          rw [List.take_succ_eq_append_getElem (by rw [Pl.cyc_len];exact hlj)]
          congr 2
          have:=Pl.cyc_get (f:=f) (x:=k) hlj
          rw [List.getD_eq_getElem?_getD,List.getElem?_eq_getElem (by rw [Pl.cyc_len];exact hlj)] at this
          rw [HY.out]
          exact this
         rw [h2,Pl.mark_append]
         exact h1
        ·exact ownsRow_setCell_below HOWN.out (by show w.heap.size<w.heap.size+1;omega) _
      ·have hjj:j=p:=by omega
       subst hjj
       obtain ⟨i0,hi0,hz0,hz1,hz2⟩:=info_parts rowInfo
       have P1:∀u ∈ [Value.slice (some ⟨b5,o5,none⟩) j c5],u.oneCell'=true:=by simp [Value.oneCell']
       go_wp2_with (at_builtin;refine wpList_append_lies _ (by rfl) _ _ 46 (by rfl) (w.heap.size+1) 22 i0 (.slice none 0 0) 1 24 Tryz.underlying46 hi0 hz0 hz1 hz2 rfl (by omega) _ fs.length vs (by rfl) (HOWN.out.alloc _) ⟨wr.heap.size,0,none⟩ 1 1 [.slice (some ⟨b5,o5,none⟩) j c5] (by rfl) (by rfl) (World.news_of_block (cs:=#[.slice (some ⟨b5,o5,none⟩) j c5]) (t:=22) (fr:=(0,0)) (heap_alloc_new wr _)) P1 (by omega) (by unfold maxLen;omega) (by omega) (by simp;omega) (wr.heap.size+1) (by simp) ?_;intro g3 c3 w3 own3 grow3 at3 lt3)
       go_roundg (go - 1)
       case measure=>have:=HKG.out;omega
       case rel =>
        have hbk:=fun g (hg:(Value.slice A7 fs.length c7).ownBlock=some g)=>ownsRow_block (HOWN.out.alloc (.cells #[.slice (some ⟨b5,o5,none⟩) j c5] 22)) g hg
        have hba:Below wr.heap.size wr (wr.alloc (.cells #[.slice (some ⟨b5,o5,none⟩) j c5] 22)):=(Below.refl _ _).alloc (Nat.le_refl _) _
        refine ⟨k+1,fs++[Pl.cyc f k j],Pl.mark bs (Pl.cyc f k j),vs++[.slice (some ⟨b5,o5,none⟩) j c5],by have:=HKG.out;omega,by go_num,?_⟩
        refine ⟨HFC.out.add HBI.out HSS.out HSN.out hlt trivial HGB.out HPER.out,by simp;omega,?_,by simpa using own3,?_,?_,HFA0.out.add HFR.out⟩
        ·have h1:=HBR.out
         rw [List.take_of_length_le (by rw [Pl.cyc_len];omega)] at h1
         refine Row.grown (Row.alloc h1 (.cells #[.slice (some ⟨b5,o5,none⟩) j c5] 22)) grow3 ?_
         intro e
         obtain ⟨cs,fr,h3⟩:=hbk _ e.symm
         have h4:=Row.alloc h1 (.cells #[.slice (some ⟨b5,o5,none⟩) j c5] 22)
         rw [h4] at h3
         injection h3 with h3
         injection h3 with _ h5
         exact absurd h5 (by decide)
        ·exact ((HVS.out.below hba).grown grow3 hbk (by decide)).add ((HFA.out.below hba).grown grow3 hbk (by decide))
        ·exact (HBEL.out.alloc (by omega) _).grown grow3 (by simp;omega) (fun k hk=>by have:=(HOWN.out.lt k hk).1;omega)
  ·go_wp2
   go_ret
   have:k=N:=by omega
   subst this
   exact ⟨A7,c7,fs,bs,vs,rfl,HK.out.fc,HK.out.few,own_rowT HK.out.own,HK.out.fa,HK.out.bel,HK.out.far⟩
end Go.Proofs.YtdgliimmnnhhjaaGreatDoor
end
section
namespace Go.Proofs.YtdgliimmnnhhjaaGreatDoor
open Go Go.RowKit
theorem mk_self (d:Pl.Dg):Pl.mk d.sg (nats d.mt) d.lp=d:=by
 unfold Pl.mk nats
 rw [List.map_map]
 have:(Int.toNat ∘ fun m:Nat=>(m:Int))=id:=by funext x;rfl
 rw [this,List.map_id]
 rfl
theorem vl_of {d:Pl.Dg}:Pl.VL d.sg (nats d.mt) d.lp↔Pl.Valid d:=by
 constructor
 ·intro h;have:=h.1;rwa [mk_self] at this
 ·intro h;exact ⟨by rw [mk_self];exact h,fun z hz=>by unfold nats at hz;obtain ⟨m,_,rfl⟩:=List.mem_map.1 hz;omega,by omega⟩
theorem valid_yes (d:Pl.Dg)(hd:Pl.Valid d)(A B:Option Addr)(cp cq m:Nat)(w:World)(hm:m=4 * d.n)(hg:DgAt w A B d) :
 Calls Tryz.prog 16 #[.agg #[.slice A d.n cp,.slice B m cq,.int .i64 d.lp]] w fun e w'=>e = .returned (.bool true)∧Below w.heap.size w w':=by
 have hn:=hd.wf.few
 have hl:=hd.wf.lp
 refine (valid_any d.sg (nats d.mt) d.lp A B d.n m cp cq w hg.s (by rw [hm];exact hg.m) (by unfold maxLen;omega) (by unfold maxLen;omega) (by omega)).mono ?_
 rintro e w' ⟨h1,h2⟩
 rw [Pl.vb_true (vl_of.2 hd)] at h1
 exact ⟨h1,h2⟩
def FacesPost (d:Pl.Dg)(w:World)(e:Ending)(w':World):Prop:=CyclesPost (Pl.nx d) (4 * d.n) w e w'
set_option maxRecDepth 100000 in
set_option maxHeartbeats 1000000 in
theorem faces_any (d:Pl.Dg)(hd:Pl.Valid d)(A B:Option Addr)(cp cq m:Nat)(w:World)(hm:m=4 * d.n)(hg:DgAt w A B d) :
 Calls Tryz.prog 82 #[.agg #[.slice A d.n cp,.slice B m cq,.int .i64 d.lp]] w (FacesPost d w):=by
 have hn:=hd.wf.few
 have HM:=hide hm
 have HG:=hide hg
 have B0:=hide (show Below w.heap.size w (w.alloc (.cells #[.slice A d.n cp,.slice B m cq,.int .i64 d.lp] 24)) from (Below.refl _ _).alloc (Nat.le_refl _) _)
 have X0:=hide (show Row (w.alloc (.cells #[.slice A d.n cp,.slice B m cq,.int .i64 d.lp] 24)) w.heap.size 24 [.slice A d.n cp,.slice B m cq,.int .i64 d.lp] from Row.new w _ [_,_,_])
 clear hm hg
 have hmf:∀(fn:Fn) (first cap:Array Value) (w:World),(Instr.makeFunc fn first cap).run Tryz.prog w = .ok (.func fn first cap) w:=fun _ _ _ _=>rfl
 go_enter Tryz.func82,Tryz.ntmps82
 go_wp2_with fail
 refine (valid_yes d hd A B cp cq m _ HM.out (HG.out.keep B0.out)).mono ?_
 rintro e w1 ⟨rfl,hb1⟩
 have B1:=hide (B0.out.trans (hb1.mono B0.out.size))
 have X1:=hide (X0.out.below hb1)
 have ST:=hide (nextF_steps d B cq m w.heap.size _ _ w1 HM.out hd.wf X1.out (by rw [HM.out];exact (HG.out.keep B1.out).m))
 obtain ⟨f0,f1,f2,f3⟩:=box3 X1.out
 clear hb1
 go_wp2_with fail
 have hcc:(m:Int)=((4 * d.n:Nat):Int):=by rw [HM.out]
 refine (Calls.mono (P:=Tryz.prog) (by rw [hcc];exact cycles_any (.pointer (some ⟨w.heap.size,0,none⟩)) (4 * d.n) (Pl.dart d) (Pl.nx d) w1 ST.out hd.wf.nxb (fun _ h=>h) (fun _ h=>h) (by omega)) ?_)
 rintro e w2 ⟨A7,c7,fs,bs,vs,rfl,h1,h2,h3,h4,h5,h6⟩
 clear hcc
 have H1:=hide h1
 have H2:=hide h2
 have H3:=hide h3
 have H4:=hide h4
 have B2:=hide (B1.out.trans (h5.mono B1.out.size))
 have H6:=hide (show Far w.heap.size vs from fun v hv g hg=>Nat.le_trans B1.out.size (h6 v hv g hg))
 clear h1 h2 h3 h4 h5 h6
 go_wp2
 go_ret
 exact ⟨A7,c7,fs,bs,vs,rfl,H1.out,H2.out,H3.out,H4.out,B2.out,H6.out⟩
end Go.Proofs.YtdgliimmnnhhjaaGreatDoor
end
section
namespace Go.Proofs.YtdgliimmnnhhjaaGreatDoor
open Go Go.RowKit
def DC (w:World)(dv:List Value)(w':World):Prop:=Row w' w.heap.size 24 dv∧Below w.heap.size w w'
theorem DC.below {w:World}{dv:List Value}{W W':World}(h:DC w dv W)(hb:Below W.heap.size W W'):DC w dv W':=⟨h.1.below hb,h.2.trans (hb.mono h.2.size)⟩
theorem DC.drew {w:World}{dv:List Value}{W:World}(h:DC w dv W):DC w dv W.drew:=⟨h.1,h.2.drew⟩
theorem DC.all {w:World}{a b c:Value}{W:World}(h:DC w [a,b,c] W):W.cell? ⟨w.heap.size,0,none⟩=some a∧W.cell? ⟨w.heap.size,1,none⟩=some b∧W.cell? ⟨w.heap.size,2,none⟩=some c∧DC w [a,b,c] W :=
 ⟨h.1.cell (i:=0) (by simp),h.1.cell (i:=1) (by simp),h.1.cell (i:=2) (by simp),h⟩
theorem DC.start (w:World)(a b c:Value):DC w [a,b,c] (w.alloc (.cells #[a,b,c] 24)) :=
 ⟨row_at (vs:=[a,b,c]) rfl,(Below.refl _ _).alloc (Nat.le_refl _) _⟩
end Go.Proofs.YtdgliimmnnhhjaaGreatDoor
end
section
namespace Go.Proofs.YtdgliimmnnhhjaaGreatDoor
open Go Go.RowKit
def Gl (ps:List Int)(k i:Nat):List Nat:=(List.range k).filter (fun c=>decide (Pl.pv ps c=(i:Int)))
theorem Gl_succ (ps:List Int)(k i:Nat):Gl ps (k+1) i=Gl ps k i++if Pl.pv ps k=(i:Int) then [k] else []:=by
 unfold Gl
 rw [List.range_succ,List.filter_append]
 by_cases h:Pl.pv ps k=(i:Int) <;> simp [List.filter_cons,h]
theorem Gl_len (ps:List Int)(k i:Nat):(Gl ps k i).length≤k:=by
 unfold Gl
 have:=List.length_filter_le (fun c=>decide (Pl.pv ps c=(i:Int))) (List.range k)
 simpa using this
theorem mem_Gl {ps:List Int}{k i c:Nat}:c ∈ Gl ps k i↔c<k∧Pl.pv ps c=(i:Int):=by unfold Gl;simp
def gv (vs:List Value)(i:Nat):Value:=vs.getD i (.slice none 0 0)
structure Grp (w:World) (g P:Nat) (ps:List Int) (k:Nat) (vs:List Value) (W:World):Prop where
 len:vs.length=P
 row:Row W g 22 vs
 own:∀i,i<P→W.ownsRow (g+1) 3 1 (gv vs i) (Gl ps k i).length ((Gl ps k i).map (fun k:Nat=>Value.int .i64 k))
 ne:∀i j,i<P→j<P→i≠j→∀b,(gv vs i).ownBlock=some b→(gv vs j).ownBlock≠some b
 bel:Below w.heap.size w W
 lo:w.heap.size≤g
theorem Grp.below {w:World}{g P:Nat}{ps:List Int}{k:Nat}{vs:List Value}{W W':World}(h:Grp w g P ps k vs W)(hb:Below W.heap.size W W'):Grp w g P ps k vs W' :=
 ⟨h.len,h.row.below hb,fun i hi=>own_keep (h.own i hi) hb (Nat.le_refl _),h.ne,h.bel.trans (hb.mono h.bel.size),h.lo⟩
theorem gv_set {vs:List Value}{q:Nat}(hq:q<vs.length)(v:Value)(i:Nat):gv (vs.set q v) i=if i=q then v else gv vs i:=by
 unfold gv
 rw [List.getD_eq_getElem?_getD,List.getD_eq_getElem?_getD,List.getElem?_set]
 by_cases h:q=i
 ·subst h;simp [hq]
 ·rw [if_neg h,if_neg (fun e=>h e.symm)]
theorem Grp.put {w:World}{g P:Nat}{ps:List Int}{k q:Nat}{vs:List Value}{W W2:World}{v':Value}{g':Nat}(h:Grp w g P ps k vs W)(hq:q<P)(hp:Pl.pv ps k=(q:Int))
 (own:W2.ownsRow (g+1) 3 1 v' ((Gl ps k q).length+1) ((Gl ps k q).map (fun k:Nat=>Value.int .i64 k)++[.int .i64 (k:Nat)])) (gr:W.grownBy W2 (gv vs q).ownBlock) (hv:v'.ownBlock=some g') (hat:(gv vs q).ownBlock=some g'∨g'=W.heap.size) :
 Grp w g P ps (k+1) (vs.set q v') (W2.setCell ⟨g,q,none⟩ v'):=by
 have hql:q<vs.length:=by rw [h.len];exact hq
 have hlt:=fun i hi=>(h.own i hi).lt
 refine ⟨by rw [List.length_set,h.len],(h.row.grown gr ?_).set q v',fun i hi=>?_,fun i j hi hj hij b e1 e2=>?_,(h.bel.grown gr h.bel.size (fun b e=>by have:=(hlt q hq b e).1;have:=h.lo;omega)).setCell h.lo _,h.lo⟩
 ·intro e
  have:=(hlt q hq g e.symm).1
  omega
 ·rw [gv_set hql,Gl_succ]
  by_cases e:i=q
  ·subst e
   rw [if_pos rfl,if_pos hp]
   refine ownsRow_setCell_below ?_ (by show g<g+1;omega) _
   simpa using own
  ·rw [if_neg e,if_neg (by omega),List.append_nil]
   refine ownsRow_setCell_below ((h.own i hi).kept gr ?_) (by show g<g+1;omega) _
   cases hm:(gv vs i).ownBlock with
   | none=>exact .inl rfl
   | some b=>exact .inr (fun e'=>h.ne i q hi hq e b hm e'.symm)
 ·rw [gv_set hql] at e1 e2
  by_cases ei:i=q
  ·rw [if_pos ei,hv] at e1
   injection e1 with e1
   rw [if_neg (by omega)] at e2
   rcases hat with e | e
   ·exact h.ne q j hq hj (by omega) g' e (by rw [e2,e1])
   ·have:=(hlt j hj b e2).2
    omega
  ·rw [if_neg ei] at e1
   by_cases ej:j=q
   ·rw [if_pos ej,hv] at e2
    injection e2 with e2
    rcases hat with e | e
    ·exact h.ne i q hi hq ei g' (by rw [e1,e2]) e
    ·have:=(hlt i hi b e1).2
     omega
   ·rw [if_neg ej] at e2
    exact h.ne i j hi hj hij b e1 e2
def GraphPost (d:Pl.Dg)(w:World)(e:Ending)(w':World):Prop :=
 ∃(A:Option Addr) (c P:Nat) (ps:List Int) (vs:List Value),e = .returned (.slice A P c)∧P≤d.n∧Pl.LB d ps P∧(∀a,a<d.n→0≤Pl.pv ps a)∧RowT w' 22 A P vs∧Vs w' vs ((List.range P).map (Gl ps d.n))∧Below w.heap.size w w'∧Far w.heap.size vs
theorem run_rows (n:Nat)(hn:n≤100000)(w:World):(Instr.makeSlice 46 (.int .i64 (n:Int)) (.int .i64 (n:Int))).run Tryz.prog w = .ok (.slice (some ⟨w.heap.size,0,none⟩) n n) (w.alloc (.cells (Array.replicate n (Value.slice none 0 0)) 22)):=by
 obtain ⟨i0,hi,hz0,hz1,hz2⟩:=info_parts rowInfo
 have:=run_make (P:=Tryz.prog) w 46 22 i0 (.slice none 0 0) Tryz.underlying46 hi hz0 .i64 .i64 n n (by omega) (Int.le_refl _) (by rw [hz2];omega) (by omega)
 rw [hz1,Nat.mul_one,Int.toNat_natCast,show madeCells (Value.cells (.slice none 0 0)) n=(List.replicate n (.slice none 0 0)).toArray from made_rep _ _] at this
 exact this
theorem Row.gv {W:World}{g:Nat}{t:TypeId}{vs:List Value}(h:Row W g t vs){q:Nat}(hq:q<vs.length):W.cell? ⟨g,q,none⟩=some (gv vs q):=by
 rw [h.cell hq]
 unfold Go.Proofs.YtdgliimmnnhhjaaGreatDoor.gv
 rw [List.getD_eq_getElem?_getD,List.getElem?_eq_getElem hq];rfl
theorem range_get {P i:Nat}{l:List Nat}{f:Nat→List Nat}(e:((List.range P).map f)[i]? = some l):i<P∧l=f i:=by
 rw [List.getElem?_map] at e
 by_cases h:i<P
 ·rw [List.getElem?_range h] at e
  injection e with e
  exact ⟨h,e.symm⟩
 ·rw [List.getElem?_eq_none (by simpa using Nat.le_of_not_lt h)] at e
  cases e
theorem Grp.vs {w:World}{g P:Nat}{ps:List Int}{k:Nat}{vs:List Value}{W:World}(h:Grp w g P ps k vs W):Vs W vs ((List.range P).map (Gl ps k)):=by
 refine ⟨by simp [h.len],fun i l e=>?_⟩
 obtain ⟨hi,rfl⟩:=range_get e
 have ho:=h.own i hi
 obtain ⟨A,c,e2⟩:=owns_slice ho
 refine ⟨Go.Proofs.YtdgliimmnnhhjaaGreatDoor.gv vs i,?_,A,c,e2,by rw [e2] at ho;exact own_rowT ho⟩
 unfold Go.Proofs.YtdgliimmnnhhjaaGreatDoor.gv
 rw [List.getD_eq_getElem?_getD,List.getElem?_eq_getElem (by rw [h.len];exact hi)];rfl
theorem Grp.far {w:World}{g P:Nat}{ps:List Int}{k:Nat}{vs:List Value}{W:World}(h:Grp w g P ps k vs W):Far w.heap.size vs:=fun v hv b hb=>by
 obtain ⟨i,hi,e⟩:=List.mem_iff_getElem.1 hv
 have h1:Go.Proofs.YtdgliimmnnhhjaaGreatDoor.gv vs i=v:=by unfold Go.Proofs.YtdgliimmnnhhjaaGreatDoor.gv;rw [List.getD_eq_getElem?_getD,List.getElem?_eq_getElem hi];exact e
 have h2:=(h.own i (by rw [←h.len];exact hi)).lt b (by rw [h1];exact hb)
 have:=h.lo
 omega
set_option maxRecDepth 100000 in
set_option maxHeartbeats 2000000 in
theorem graph_any (d:Pl.Dg)(hd:Pl.Valid d)(A B:Option Addr)(cp cq m:Nat)(w:World)(hm:m=4 * d.n)(hg:DgAt w A B d) :
 Calls Tryz.prog 49 #[.agg #[.slice A d.n cp,.slice B m cq,.int .i64 d.lp]] w (GraphPost d w):=by
 have hn:=hd.wf.few
 have HM:=hide hm
 have HG:=hide hg
 have B0:=hide (show Below w.heap.size w (w.alloc (.cells #[.slice A d.n cp,.slice B m cq,.int .i64 d.lp] 24)) from (Below.refl _ _).alloc (Nat.le_refl _) _)
 have X0:=hide (show Row (w.alloc (.cells #[.slice A d.n cp,.slice B m cq,.int .i64 d.lp] 24)) w.heap.size 24 [.slice A d.n cp,.slice B m cq,.int .i64 d.lp] from Row.new w _ [_,_,_])
 clear hg
 subst hm
 go_enter Tryz.func49,Tryz.ntmps49
 go_wp2_with fail
 refine (valid_yes d hd A B cp cq _ _ rfl (HG.out.keep B0.out)).mono ?_
 rintro e w1 ⟨rfl,hb1⟩
 have B1:=hide (B0.out.trans (hb1.mono B0.out.size))
 have X1:=hide (X0.out.below hb1)
 obtain ⟨f0,f1,f2,f3⟩:=box3 X1.out
 clear hb1
 go_wp2_with fail
 refine (label_any d hd.wf A B cp cq _ _ (HG.out.keep B1.out)).mono ?_
 rintro e w2 ⟨ps,P,gp,rfl,hlb,hall,hgp,hir,hb2⟩
 have HLB:=hide hlb
 have HALL:=hide hall
 have hPn:=hlb.le
 have HIR:=hide hir
 have B2:=hide (B1.out.trans (hb2.mono B1.out.size))
 have hgps:=hir.lt
 have hps:ps.length=d.n:=hlb.len
 have HPS:=hide hps
 clear hlb hall hir hb2 f0 f1 f2 f3 hps
 have hmk:=fun W:World=>run_rows P (by omega) W
 have H0:=hide (show Grp w w2.heap.size P ps 0 (List.replicate P (.slice none 0 0)) (w2.alloc (.cells (Array.replicate P (Value.slice none 0 0)) 22)) from by
  have hgv:∀i,gv (List.replicate P (.slice none 0 0)) i = .slice none 0 0:=fun i=>by
   unfold Go.Proofs.YtdgliimmnnhhjaaGreatDoor.gv
   rw [List.getD_eq_getElem?_getD,List.getElem?_replicate]
   split <;> rfl
  refine ⟨by simp,?_,fun i hi=>?_,fun i j hi hj hij b e=>?_,B2.out.alloc B2.out.size _,B2.out.size⟩
  ·have:=Row.new w2 22 (List.replicate P (.slice none 0 0))
   simpa using this
  ·rw [hgv];exact World.ownsRow_nil _ _ _ _
  ·rw [hgv] at e;simp [Value.ownBlock] at e)
 have HI0:=hide (show IRow (w2.alloc (.cells (Array.replicate P (Value.slice none 0 0)) 22)) gp ps from Row.alloc HIR.out _)
 go_wp2
 clear hmk
 obtain ⟨gg,hgg⟩:∃gg,gg=w2.heap.size:=⟨_,rfl⟩
 rw [←hgg] at H0 hgps ⊢
 have HGG:=hide hgg
 go_loopg [20] d.n (fun g i wx=>∃(k:Nat) (vs:List Value),k+g=d.n∧i = .int .i64 k∧Grp w gg P ps k vs wx∧IRow wx gp ps)
 case atStart=>exact ⟨0,_,by omega,rfl,by have:=H0.out;rw [hgg] at this ⊢;exact this,HI0.out⟩
 case round =>
  clear H0 HI0 HIR hgg HGG
  obtain ⟨k,vs,hkg,rfl,hgr,hir⟩:=hrel
  have HKG:=hide hkg
  have hkn:k≤d.n:=by omega
  have HGR:=hide hgr
  have HIR:=hide hir
  have hsz:=hgr.row.lt
  clear hkg hgr hir
  by_cases hlt:k<d.n
  ·have c1:=HIR.out.cell (i:=k) (by rw [HPS.out];exact hlt)
   have h0:=HALL.out k hlt
   have h1:=(HLB.out.lo k hlt).2
   obtain ⟨q,hq⟩:=Int.eq_ofNat_of_zero_le h0
   rw [hq] at c1 h1
   have HQ:=hide hq
   clear hq h0
   have hqP:q<P:=by omega
   have hql:q<vs.length:=by rw [HGR.out.len];exact hqP
   have c2:=HGR.out.row.gv hql
   have fr2:=HGR.out.row.free q
   obtain ⟨vq,hvq⟩:∃v,v=gv vs q:=⟨_,rfl⟩
   rw [←hvq] at c2
   have HVQ:=hide hvq
   clear hvq
   have iq:(0:Int)≤(q:Int):=by omega
   have jq:(q:Int)<(P:Int):=by omega
   have hgl:=Gl_len ps k q
   obtain ⟨i0,hi0,hz0,hz1,hz2⟩:=info_parts intInfo
   have OQ:=hide (show wr.ownsRow (gg+1) 3 1 vq (Gl ps k q).length ((Gl ps k q).map (fun k:Nat=>Value.int .i64 k)) by rw [HVQ.out];exact HGR.out.own q hqP)
   go_wp2_with (at_builtin;refine wpList_append_lies _ (by rfl) _ _ 22 (by rfl) (gg+1) 3 i0 (.int .i64 0) 1 8 Tryz.underlying22 hi0 hz0 hz1 hz2 rfl (by omega) vq (Gl ps k q).length _ (by rfl) (OQ.out.alloc _) ⟨wr.heap.size,0,none⟩ 1 1 [.int .i64 (k:Nat)] (by rfl) (by rfl) (one_news wr (.int .i64 (k:Nat))) (by simp [Value.oneCell']) (by omega) (by unfold maxLen;omega) (by omega) (by simp;omega) (wr.heap.size+1) (by simp) ?_;intro g3 c3 w3 own3 grow3 at3 lt3;have hrow3:=Row.grown (Row.alloc HGR.out.row (.cells #[.int .i64 (k:Nat)] 3)) grow3 (by intro e;have:=(OQ.out.lt gg e.symm).1;omega);have cq3:=hrow3.gv hql;have fq3:=hrow3.free q;have OWN3:=hide own3;have GR3:=hide grow3;have AT3:=hide at3;have HROW3:=hide hrow3;clear own3 grow3 at3 hrow3)
   go_roundg (gk - 1)
   case measure=>have:=HKG.out;omega
   case rel =>
    refine ⟨k+1,vs.set q (.slice (some ⟨g3,0,none⟩) ((Gl ps k q).length+1) c3),by have:=HKG.out;omega,by go_num,?_,?_⟩
    ·exact Grp.put (HGR.out.below ((Below.refl _ _).alloc (Nat.le_refl _) (.cells #[.int .i64 (k:Nat)] 3))) hqP HQ.out OWN3.out (by rw [←HVQ.out];exact GR3.out) rfl (by rw [←HVQ.out];simpa using AT3.out)
    ·refine Row.other (Row.grown (Row.alloc HIR.out _) GR3.out ?_) (by show gp≠gg;omega) _
     intro e
     have:=(OQ.out.lt gp e.symm).1
     omega
  ·go_wp2
   go_ret
   obtain rfl:k=d.n:=by omega
   refine ⟨_,_,P,ps,vs,rfl,hPn,HLB.out,HALL.out,?_,HGR.out.vs,HGR.out.bel,HGR.out.far⟩
   refine ⟨HGR.out.len,fun _=>⟨gg,0,vs.toArray,(0,0),rfl,HGR.out.row,fun j u hu=>?_⟩⟩
   rw [Nat.zero_add]
   simpa using hu
end Go.Proofs.YtdgliimmnnhhjaaGreatDoor
end
section
namespace Go.Proofs.YtdgliimmnnhhjaaGreatDoor
open Go Go.RowKit
theorem own_row_ne {W:World}{base b n:Nat}{t:TypeId}{v:Value}{xs vs:List Value}(h:W.ownsRow base 3 1 v n xs)(hr:Row W b t vs)(ht:3≠t):some b≠v.ownBlock:=by
 intro e
 obtain ⟨cs,fr,h3⟩:=ownsRow_block h b e.symm
 rw [hr] at h3
 injection h3 with h3
 injection h3 with _ h4
 exact ht h4.symm
structure RK (base:Nat) (w:World) (vS vM:Value) (n q:Nat) (lp:Int) (mv:List Value) (ss:List Int) (l:List Nat) (W:World):Prop where
 d:Row W w.heap.size 24 [vS,vM,.int .i64 lp]
 m:Row W (w.heap.size+1) 43 mv
 rd:∃vs,Row W (w.heap.size+1+1) 24 vs∧vs.length=3
 rm:∃us,Row W (w.heap.size+1+1+1) 43 us∧us.length=5
 s:W.ownsRow base 3 1 vS n (ss.map (.int .i64))
 o:W.ownsRow base 3 1 vM q (l.map (fun k:Nat=>Value.int .i64 k))
 ne:∀k,vS.ownBlock=some k→vM.ownBlock≠some k
 bel:Below base w W
 le:base≤w.heap.size
section
variable {base:Nat} {w W W' W2:World} {vS vM v':Value} {n q:Nat} {lp:Int} {mv:List Value} {ss:List Int} {l:List Nat}
end
end Go.Proofs.YtdgliimmnnhhjaaGreatDoor
end
