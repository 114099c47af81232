/-
  The texts He, Ho.
-/
import Derived.Test.YtdgliimmnnhhjaaGreatDoorU43
import Derived.Stop.LaidErr
set_option linter.unusedVariables false
set_option linter.unusedSimpArgs false
section
namespace Go.Proofs.YtdgliimmnnhhjaaGreatDoor
open Go Go.RowKit
attribute [local go_sem ↓] Go.wp_at_zero Go.wp_at_succ
theorem key_n (d:Pl.Dg)(hd:Pl.Valid d)(h20:d.n≤20)(A B:Option Addr)(n cp cq m lp:Nat)(w:World)(hn:n=d.n)(hm:m=4 * d.n)(hl:lp=d.lp)(hg:DgAt w A B d)(ht:GT w) :
 Calls Tryz.prog 10 #[.agg #[.slice A n cp,.slice B m cq,.int .i64 (lp:Int)]] w (KeyPost d w):=by
 subst hn
 subst hl
 exact key_any d hd h20 A B cp cq m w hm hg ht
theorem MovesAt.kp {W W':World}{v:Value}{ms:List Mv}(h:MovesAt W v ms)(k:KpT 43 W W'):MovesAt W' v ms:=let ⟨b,h⟩:=h;⟨b,own_kp h k⟩
theorem MovesAt.cells {W:World}{A:Option Addr}{n c j:Nat}{ms:List Mv}(h:MovesAt W (.slice A n c) ms)(hj:j<n):∃g k x y s o,A=some ⟨g,0,none⟩∧g<W.heap.size∧ms[j]? = some ⟨k,x,y,s,o⟩∧W.cell? ⟨g,j * 5,none⟩=some (.int .i64 k)∧W.cell? ⟨g,j * 5+1,none⟩=some (.int .i64 x)∧W.cell? ⟨g,j * 5+2,none⟩=some (.int .i64 y)∧W.cell? ⟨g,j * 5+3,none⟩=some (.int .i64 s)∧W.cell? ⟨g,j * 5+4,none⟩=some (.bool o):=by
 obtain ⟨A',c',e,hV⟩:=h.mv
 injection e with e1 e2 e3
 subst e1
 subst e2
 exact hV.at_ hj
theorem box10 {W:World}{g:Nat}{t:TypeId}{a b c d e f x y u v:Value}(h:Row W g t [a,b,c,d,e,f,x,y,u,v]) :
 W.cell? ⟨g,0,none⟩=some a∧W.cell? ⟨g,1,none⟩=some b∧W.cell? ⟨g,2,none⟩=some c∧W.cell? ⟨g,3,none⟩=some d∧W.cell? ⟨g,4,none⟩=some e∧W.cell? ⟨g,5,none⟩=some f∧W.cell? ⟨g,6,none⟩=some x∧W.cell? ⟨g,7,none⟩=some y∧W.cell? ⟨g,8,none⟩=some u∧W.cell? ⟨g,9,none⟩=some v∧∀o,W.frozen? ⟨g,o,none⟩=false:=by
 refine ⟨?_,?_,?_,?_,?_,?_,?_,?_,?_,?_,Row.free h⟩ <;> exact cell_of_row _ _ _ _ _ _ h
end Go.Proofs.YtdgliimmnnhhjaaGreatDoor
end
section
namespace Go.Proofs.YtdgliimmnnhhjaaGreatDoor
open Go Go.RowKit
theorem gt_of {W : World}{t1 t2 : String × DataW Unit}(hL : laidMet Tryz.prog [t1, t2, ("internal/strconv.uint64pow10", Rows.laid_internal_strconv_uint64pow10)] W) : GT W :=
 Lib.tabIs_of_head (g:=0) (t:=160) (e:=152) (n:=20) (by kernel_rfl) (by kernel_rfl) (by kernel_rfl) (by kernel_rfl) (by kernel_rfl) (by kernel_rfl) (rest:=_) hL.tail.tail
end Go.Proofs.YtdgliimmnnhhjaaGreatDoor
end
