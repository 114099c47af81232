/-
  The texts Md.
-/
import Derived.Test.YtdgliimmnnhhjaaGreatDoorU03
import Derived.Test.YtdgliimmnnhhjaaGreatDoorU38
set_option linter.unusedVariables false
set_option linter.unusedSimpArgs false
section
namespace Go.Proofs.YtdgliimmnnhhjaaGreatDoor
open Go Go.RowKit
attribute [local go_sem ↓] Go.wp_at_zero Go.wp_at_succ
theorem IRow.T {w:World}{g n:Nat}{zs:List Int}(h:IRow w g zs)(hn:zs.length=n):RowT w 3 (some ⟨g,0,none⟩) n (zs.map (.int .i64)):=by
 subst hn
 refine ⟨by simp,fun _=>⟨g,0,_,(0,0),rfl,h,fun j u hu=>?_⟩⟩
 rw [Nat.zero_add,List.getElem?_toArray]
 exact hu
structure NQ (w:World) (dv:List Value) (gn:Nat) (num:List Int) (W:World):Prop where
 box:Row W w.heap.size 24 dv
 res:Row W (w.heap.size+1) 24 [.slice none 0 0,.slice none 0 0,.int .i64 0]
 nr:IRow W gn num
 bel:Below w.heap.size w W
 lo:w.heap.size+1<gn
section
variable {w W W':World} {dv:List Value} {gn:Nat} {num:List Int}
theorem NQ.below (h:NQ w dv gn num W)(hb:Below W.heap.size W W'):NQ w dv gn num W':=⟨h.box.below hb,h.res.below hb,Row.below h.nr hb,h.bel.trans (hb.mono h.bel.size),h.lo⟩
theorem NQ.setN (h:NQ w dv gn num W)(i:Nat)(v:Int):NQ w dv gn (num.set i v) (W.setCell ⟨gn,i,none⟩ (.int .i64 v)):=by
 have a:=h.lo
 exact ⟨h.box.other (by show _≠gn;omega) _,h.res.other (by show _≠gn;omega) _,h.nr.set i v,h.bel.setCell (by show _≤gn;omega) _,h.lo⟩
end
theorem irow_new (W:World)(n g:Nat)(h:g=W.heap.size):IRow (W.alloc (.cells (Array.replicate n (Value.int .i64 0)) 3)) g (List.replicate n 0):=by subst h;exact IRow.made W n
theorem IRow.al {W:World}{g:Nat}{zs:List Int}(h:IRow W g zs)(o:Obj):IRow (W.alloc o) g zs:=Row.alloc h o
theorem IRow.dr {W:World}{g:Nat}{zs:List Int}(h:IRow W g zs):IRow W.drew g zs:=Row.drew h
structure RQ (w:World) (dv:List Value) (gn gr gs gm n:Nat) (lp:Int) (num ss ms:List Int) (W:World):Prop where
 q:NQ w dv gn num W
 r:Row W gr 24 [.slice (some ⟨gs,0,none⟩) n n,.slice (some ⟨gm,0,none⟩) (4 * n) (4 * n),.int .i64 lp]
 s:IRow W gs ss
 m:IRow W gm ms
 n1:gs≠gm
 n2:gr≠gs
 n3:gr≠gm
 l1:gn<gr
 l2:gn<gs
 l3:gn<gm
 lo:w.heap.size+1<gn
section
variable {w W W':World} {dv:List Value} {gn gr gs gm n:Nat} {lp:Int} {num ss ms:List Int}
theorem NQ.other (h:NQ w dv gn num W)(g:Nat)(hg:w.heap.size+1<g)(ne:gn≠g)(i:Nat)(v:Value):NQ w dv gn num (W.setCell ⟨g,i,none⟩ v) :=
 ⟨h.box.other (by show _≠g;omega) _,h.res.other (by show _≠g;omega) _,Row.other h.nr ne _,h.bel.setCell (by show _≤g;omega) _,h.lo⟩
theorem RQ.below (h:RQ w dv gn gr gs gm n lp num ss ms W)(hb:Below W.heap.size W W'):RQ w dv gn gr gs gm n lp num ss ms W' :=
 ⟨h.q.below hb,h.r.below hb,Row.below h.s hb,Row.below h.m hb,h.n1,h.n2,h.n3,h.l1,h.l2,h.l3,h.lo⟩
theorem RQ.setS (h:RQ w dv gn gr gs gm n lp num ss ms W)(i:Nat)(v:Int):RQ w dv gn gr gs gm n lp num (ss.set i v) ms (W.setCell ⟨gs,i,none⟩ (.int .i64 v)):=by
 have a:=h.lo
 have b:=h.l2
 exact ⟨h.q.other gs (by omega) (by omega) _ _,h.r.other (show _≠gs from h.n2) _,IRow.set h.s i v,Row.other h.m (show _≠gs from fun e=>h.n1 e.symm) _,h.n1,h.n2,h.n3,h.l1,h.l2,h.l3,h.lo⟩
theorem RQ.setM (h:RQ w dv gn gr gs gm n lp num ss ms W)(i:Nat)(v:Int):RQ w dv gn gr gs gm n lp num ss (ms.set i v) (W.setCell ⟨gm,i,none⟩ (.int .i64 v)):=by
 have a:=h.lo
 have b:=h.l3
 exact ⟨h.q.other gm (by omega) (by omega) _ _,h.r.other (show _≠gm from h.n3) _,Row.other h.s (show _≠gm from h.n1) _,IRow.set h.m i v,h.n1,h.n2,h.n3,h.l1,h.l2,h.l3,h.lo⟩
end
end Go.Proofs.YtdgliimmnnhhjaaGreatDoor
end
