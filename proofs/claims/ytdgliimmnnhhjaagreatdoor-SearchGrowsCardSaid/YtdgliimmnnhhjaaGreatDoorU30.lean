/-
  The texts Xg, Xh, Yf, Rw.
-/
import Derived.Test.YtdgliimmnnhhjaaGreatDoorU29
set_option linter.unusedVariables false
set_option linter.unusedSimpArgs false
section
namespace Go.Proofs.YtdgliimmnnhhjaaGreatDoor
open Go Go.RowKit
theorem getD_set2 (l:List Nat)(a b k z:Nat)(ha:a<l.length):(l.set a b).getD k z=if k=a then b else l.getD k z:=by
 rw [List.getD_eq_getElem?_getD,List.getElem?_set,List.getD_eq_getElem?_getD]
 by_cases h:a=k
 ·subst h;simp [ha]
 ·rw [if_neg h,if_neg (Ne.symm h)]
theorem jn_m (l:List Nat)(a b k z:Nat)(ha:a<l.length)(hb:b<l.length):(jn l a b).getD k z=if k=b then a else if k=a then b else l.getD k z:=by
 unfold jn
 rw [getD_set2 _ _ _ _ _ (by simpa using hb),getD_set2 _ _ _ _ _ ha]
theorem app_m {l:List Nat}{r:List Nat}{k z:Nat}(h:k<l.length):(l++r).getD k z=l.getD k z:=by
 rw [List.getD_eq_getElem?_getD,List.getD_eq_getElem?_getD,List.getElem?_append_left h]
theorem kq (n:Nat)(sg:Int)(ov:Bool)(hs:sg=1∨sg = -1):Pl.Kq n (kI0 n sg ov) (kO0 n sg ov) (kI1 n sg ov) (kO1 n sg ov):=by
 unfold Pl.Kq kI0 kO0 kI1 kO1
 rcases hs with rfl | rfl <;> cases ov <;> simp
theorem crl_s {d:Pl.Dg}{x sg:Int}{ov:Bool}{c:Nat}(h:c<d.n):(crl d x sg ov).s c=d.s c:=by
 unfold Pl.Dg.s crl
 simp only
 rw [List.getD_eq_getElem?_getD,List.getElem?_append_left h,←List.getD_eq_getElem?_getD]
theorem crl_s' (d:Pl.Dg)(x sg:Int)(ov:Bool):(crl d x sg ov).s d.n=sg:=by
 unfold Pl.Dg.s crl Pl.Dg.n
 simp
theorem crl_kd {d:Pl.Dg}(hd:Pl.Wf d){x sg:Int}{ov:Bool}(hs:sg=1∨sg = -1)(hn:d.n+1≤64)(m1:(crl d x sg ov).m (kO0 d.n sg ov)=kI1 d.n sg ov)(m2:(crl d x sg ov).m (kI1 d.n sg ov)=kO0 d.n sg ov) :
 Pl.Kd d (crl d x sg ov) (kI0 d.n sg ov) (kO0 d.n sg ov) (kI1 d.n sg ov) (kO1 d.n sg ov):=by
 have s':=crl_s' d x sg ov
 have w1:∀e,e<4→(4 * d.n+e) / 4=d.n:=fun e h=>by omega
 have w2:∀e,e<4→(4 * d.n+e) % 4=e:=fun e h=>by omega
 have o:∀e,e<4→Pl.out (crl d x sg ov) (4 * d.n+e)=(e == 2 || (e == 1 && sg == 1) || (e == 3 && sg == -1)):=fun e h=>by
  unfold Pl.out;rw [w1 e h,w2 e h,s']
 have o0:=o 0 (by omega)
 have o1:=o 1 (by omega)
 have o2:=o 2 (by omega)
 have o3:=o 3 (by omega)
 rw [Nat.add_zero] at o0
 refine ⟨hn,crl_n _ _ _ _,?_,?_,fun c hc=>crl_s hc,by rw [s'];exact hs,kq d.n sg ov hs,?_,?_,?_,?_,m1,m2⟩
 ·unfold crl
  have:=hd.len
  simp only
  split <;> (simp [jn_len,this];omega)
 ·have:=hd.lp
  unfold crl;simp only;split <;> omega
 ·rcases hs with rfl | rfl <;> cases ov <;> simp [kI0,o0,o1,o2,o3]
 ·rcases hs with rfl | rfl <;> cases ov <;> simp [kI1,o0,o1,o2,o3]
 ·rcases hs with rfl | rfl <;> cases ov <;> simp [kO0,o0,o1,o2,o3]
 ·rcases hs with rfl | rfl <;> cases ov <;> simp [kO1,o0,o1,o2,o3]
theorem crl_mloop {d:Pl.Dg}(hd:Pl.Wf d){x sg:Int}{ov:Bool}(hs:sg=1∨sg = -1)(hx:x<0)(k:Nat):(crl d x sg ov).m k =
 if k=kI0 d.n sg ov then kO1 d.n sg ov else if k=kO1 d.n sg ov then kI0 d.n sg ov else if k=kI1 d.n sg ov then kO0 d.n sg ov else if k=kO0 d.n sg ov then kI1 d.n sg ov else (d.mt++List.replicate 4 0).getD k k:=by
 obtain ⟨a1,a2,a3,a4,_⟩:=(kq d.n sg ov hs).bd
 have hl:=hd.len
 have e:(crl d x sg ov).mt=jn (jn (d.mt++List.replicate 4 0) (kO0 d.n sg ov) (kI1 d.n sg ov)) (kO1 d.n sg ov) (kI0 d.n sg ov):=by unfold crl;simp only [if_pos hx]
 unfold Pl.Dg.m
 rw [e,jn_m _ _ _ _ _ (by rw [jn_len];simp;omega) (by rw [jn_len];simp;omega),jn_m _ _ _ _ _ (by simp;omega) (by simp;omega)]
theorem crl_loop {d:Pl.Dg}(hd:Pl.Valid d){x sg:Int}{ov:Bool}(hs:sg=1∨sg = -1)(hn:d.n+1≤64)(hx:x<0):Pl.Valid (crl d x sg ov):=by
 obtain ⟨a1,a2,a3,a4,n1,n2,n3,n4,n5,n6⟩:=(kq d.n sg ov hs).bd
 have hm:=crl_mloop hd.wf (x:=x) (ov:=ov) hs hx
 have hl:=hd.wf.len
 refine Pl.Kd.loop hd (crl_kd hd.wf hs hn ?_ ?_) (fun h hh=>?_) ?_ ?_
 ·rw [hm,if_neg (Ne.symm n1),if_neg n5,if_neg n4,if_pos rfl]
 ·rw [hm,if_neg (Ne.symm n2),if_neg n6,if_pos rfl]
 ·rw [hm,if_neg (by omega),if_neg (by omega),if_neg (by omega),if_neg (by omega),app_m (by omega)];rfl
 ·rw [hm,if_neg (Ne.symm n3),if_pos rfl]
 ·rw [hm,if_pos rfl]
theorem crl_edge {d:Pl.Dg}(hd:Pl.Valid d){x:Nat}{sg:Int}{ov:Bool}(hs:sg=1∨sg = -1)(hn:d.n+1≤64)(hx:x<4 * d.n)(ho:Pl.out d x=true):Pl.Valid (crl d (x:Int) sg ov):=by
 obtain ⟨a1,a2,a3,a4,n1,n2,n3,n4,n5,n6⟩:=(kq d.n sg ov hs).bd
 have hl:=hd.wf.len
 have hy:=hd.wf.lt x hx
 have hne:=hd.wf.ne x hx
 have e:(crl d (x:Int) sg ov).mt=jn (jn (jn (d.mt++List.replicate 4 0) (kO0 d.n sg ov) (kI1 d.n sg ov)) (kO1 d.n sg ov) (d.m x)) x (kI0 d.n sg ov):=by
  unfold crl;simp only [if_neg (show ¬((x:Int)<0) by omega),Int.toNat_natCast]
 have hm:∀k,(crl d (x:Int) sg ov).m k=if k=kI0 d.n sg ov then x else if k=x then kI0 d.n sg ov else if k=d.m x then kO1 d.n sg ov else if k=kO1 d.n sg ov then d.m x else if k=kI1 d.n sg ov then kO0 d.n sg ov else if k=kO0 d.n sg ov then kI1 d.n sg ov else (d.mt++List.replicate 4 0).getD k k:=fun k=>by
  show (crl d (x:Int) sg ov).mt.getD k k=_
  rw [e,jn_m _ _ _ _ _ (by rw [jn_len,jn_len];simp;omega) (by rw [jn_len,jn_len];simp;omega),jn_m _ _ _ _ _ (by rw [jn_len];simp;omega) (by rw [jn_len];simp;omega),jn_m _ _ _ _ _ (by simp;omega) (by simp;omega)]
 refine Pl.Kd.edge hd (crl_kd hd.wf hs hn ?_ ?_) hx ho (fun h hh h1 h2=>?_) ?_ ?_ ?_ ?_
 ·rw [hm,if_neg (Ne.symm n1),if_neg (by omega),if_neg (by omega),if_neg n5,if_neg n4,if_pos rfl]
 ·rw [hm,if_neg (Ne.symm n2),if_neg (by omega),if_neg (by omega),if_neg n6,if_pos rfl]
 ·rw [hm,if_neg (by omega),if_neg h1,if_neg h2,if_neg (by omega),if_neg (by omega),if_neg (by omega),app_m (by omega)];rfl
 ·rw [hm,if_neg (Ne.symm n3),if_neg (by omega),if_neg (by omega),if_pos rfl]
 ·rw [hm,if_neg (by omega),if_neg hne,if_pos rfl]
 ·rw [hm,if_neg (by omega),if_pos rfl]
 ·rw [hm,if_pos rfl]
theorem valid_empty {l:Nat}(h:l≤64):Pl.Valid ⟨[],[],l⟩ :=
 ⟨⟨Nat.zero_le 64,rfl,h,fun c hc=>absurd hc (Nat.not_lt_zero _),fun c hc=>absurd hc (by show ¬c<4 * 0;omega),fun c hc=>absurd hc (by show ¬c<4 * 0;omega),fun c hc=>absurd hc (by show ¬c<4 * 0;omega),fun c hc=>absurd hc (by show ¬c<4 * 0;omega)⟩,fun c hc=>absurd hc (Nat.not_lt_zero _)⟩
def two:Pl.Dg:=⟨[-1,1],[6,5,4,7,2,1,0,3],0⟩
end Go.Proofs.YtdgliimmnnhhjaaGreatDoor
end
section
namespace Go.Proofs.YtdgliimmnnhhjaaGreatDoor
open Go Go.RowKit
theorem ints_eq (A B:Option Addr)(n ca cb:Nat)(xs:List Int)(w:World)(hx:IntsAt w A n xs)(hy:IntsAt w B n xs)(hn:n≤100000) :
 Calls Tryz.prog 24 #[.slice A n ca,.slice B n cb] w fun e w'=>e = .returned (.bool true)∧Below w.heap.size w w':=by
 have HX:=hide hx
 have HY:=hide hy
 clear hx hy
 go_enter Tryz.func24,Tryz.ntmps24
 go_wp2
 go_loopg [5] n (fun g i wx=>∃k:Nat,k+g=n∧i = .int .i64 k∧Below w.heap.size w wx)
 case atStart=>exact ⟨0,by omega,rfl,Below.refl _ _⟩
 case round =>
  obtain ⟨k,hkg,rfl,hb⟩:=hrel
  have HB:=hide hb
  have HKG:=hide hkg
  clear hb
  by_cases hk:k<n
  ·have hki:(k:Int)<(n:Int):=by omega
   obtain ⟨b,o,rfl,c1⟩:=(HX.out.keep HB.out).at_ hk
   obtain ⟨b2,o2,rfl,c2⟩:=(HY.out.keep HB.out).at_ hk
   have k0:(0:Int)≤(k:Int):=by omega
   obtain ⟨u,hu⟩:∃u,u=xs.getD k 0:=⟨_,rfl⟩
   rw [←hu] at c1 c2
   clear hu hkg
   go_upto_region 6 with fail
   go_quiet (fail)
   go_wp2
   go_roundg (gk - 1)
   case measure=>have:=HKG.out;omega
   case rel=>exact ⟨k+1,by have:=HKG.out;omega,by go_num,below_drewN HB.out _⟩
  ·have hki:¬((k:Int)<(n:Int)):=by omega
   clear hkg
   go_wp2
   go_ret
   exact ⟨rfl,HB.out⟩
theorem none_at (w:World)(l:Nat):DgAt w none none ⟨[],[],l⟩:=⟨RowAt.nil w,RowAt.nil w⟩
end Go.Proofs.YtdgliimmnnhhjaaGreatDoor
end
section
namespace Go.Proofs.YtdgliimmnnhhjaaGreatDoor
open Go Go.RowKit
attribute [local go_sem ↓] Go.wp_at_zero Go.wp_at_succ
theorem row3 {W:World}{g:Nat}{t:TypeId}{vs:List Value}(h:Row W g t vs)(l:vs.length=3)(y0 y1 y2:Value) :
 Row (((W.setCell ⟨g,0,none⟩ y0).setCell ⟨g,1,none⟩ y1).setCell ⟨g,2,none⟩ y2) g t [y0,y1,y2]:=by
 obtain ⟨a,b,c,rfl⟩:∃a b c,vs=[a,b,c]:=by
  match vs,l with
  | [a,b,c],_=>exact ⟨a,b,c,rfl⟩
 exact ((h.set 0 y0).set 1 y1).set 2 y2
theorem DgT.set3 {W:World}{A B:Option Addr}{d:Pl.Dg}{g:Nat}{vs:List Value}(h:DgT W A B d)(hr:Row W g 24 vs)(y0 y1 y2:Value):DgT (((W.setCell ⟨g,0,none⟩ y0).setCell ⟨g,1,none⟩ y1).setCell ⟨g,2,none⟩ y2) A B d :=
 ((h.store hr (by decide) y0).store (hr.set 0 y0) (by decide) y1).store ((hr.set 0 y0).set 1 y1) (by decide) y2
theorem below3 {w W:World}{g:Nat}(h:Below w.heap.size w W)(hg:w.heap.size≤g)(y0 y1 y2:Value):Below w.heap.size w (((W.setCell ⟨g,0,none⟩ y0).setCell ⟨g,1,none⟩ y1).setCell ⟨g,2,none⟩ y2) :=
 ((h.setCell (by show _≤g;exact hg) y0).setCell (by show _≤g;exact hg) y1).setCell (by show _≤g;exact hg) y2
end Go.Proofs.YtdgliimmnnhhjaaGreatDoor
end
section
namespace Go.Proofs.YtdgliimmnnhhjaaGreatDoor
open Go Go.RowKit
attribute [local go_sem ↓] Go.wp_at_zero Go.wp_at_succ
theorem shrS_len (gs:List Nat)(sg:List Int):(Pl.shrS gs sg).length=(Pl.left sg.length gs).length:=by unfold Pl.shrS;simp
structure RB (base:Nat) (w:World) (vS vM:Value) (n q:Nat) (lp:Int) (mv:List Value) (ss:List Int) (l:List Nat) (gK:Nat) (bk:List Value) (W:World):Prop where
 k:RK base w vS vM n q lp mv ss l W
 b:Row W gK 43 bk
 lo:w.heap.size+4≤gK
section
variable {base:Nat} {w W W' W2:World} {vS vM:Value} {n q gK:Nat} {lp:Int} {mv bk:List Value} {ss:List Int} {l:List Nat}
end
section
variable {base:Nat} {w W:World} {vS vM k x y s o b0 b3 b4:Value} {n q gK:Nat} {lp:Int} {ss:List Int} {l:List Nat}
end
end Go.Proofs.YtdgliimmnnhhjaaGreatDoor
end
