/-
 The text Rf.
-/
import Derived.Test.YtobbepmlmbbamaaB01
import Derived.Test.YtobbepmlmbbamaaB02
import Derived.Test.YtobbepmlmbbamaaB05
set_option linter.unusedVariables false
set_option linter.unusedSimpArgs false
section
namespace Go.Proofs.Ytobbepmlmbbamaa
open Go Go.RowKit
def crn (first under dir:Nat):Nat := first + (dir + 4 - under) % 4
def crnL (first under k:Nat):List Nat := (List.range k).map (crn first under)
theorem crnL_succ (first under k:Nat):crnL first under (k + 1) = crnL first under k ++ [crn first under k] := by unfold crnL; rw [List.range_succ,List.map_append]; rfl
set_option maxRecDepth 100000 in
set_option maxHeartbeats 1000000 in
theorem rcorners_any (first under:Nat) (w:World) (hf:first ≤ 100000) (hu:under ≤ 3) :
 Calls Try.prog 102 #[.int .i64 (first:Int),.int .i64 (under:Int)] w fun e w' => ∃ (A:Option Addr) (c:Nat),e = .returned (.slice A 4 c) ∧ w'.ownsRow w.heap.size 3 1 (.slice A 4 c) 4 ((crnL first under 4).map (fun k:Nat => Value.int .i64 k)) ∧ Below w.heap.size w w' := by
 go_enter Try.func102,Try.ntmps102
 go_wp2
 go_loopg [5,6] 4 (fun g v i wx => ∃ k:Nat,k + g = 4 ∧ i = .int .i64 k ∧ wx.ownsRow w.heap.size 3 1 v k ((crnL first under k).map (fun k:Nat => Value.int .i64 k)) ∧ Below w.heap.size w wx)
 case atStart => exact ⟨0,rfl,rfl,⟨rfl,.inl ⟨rfl,rfl⟩⟩,Below.refl _ _⟩
 case round =>
  obtain ⟨k,hkg,rfl,own,hb⟩:=hrel
  have HK:=hide hkg
  have OWN:=hide own
  have HB:=hide hb
  have hbs:=hb.size
  have hk4:k ≤ 4:=by omega
  clear hkg own hb
  by_cases hlt:k < 4
  ·have hk3:(k:Int) ≤ 3:=by omega
   obtain ⟨x,hx⟩:∃ x,x = crn first under k := ⟨_,rfl⟩
   have HX:=hide hx
   have e1:(first:Int) + ((k:Int) - (under:Int)) % 4 = (x:Int):=by rw [hx]; unfold crn; omega
   clear hx
   obtain ⟨i0,hi0,hz0,hz1,hz2⟩:=info_parts intInfo
   go_wp2_with (at_builtin; refine wpList_append_lies _ (by rfl) _ _ 22 (by rfl) w.heap.size 3 i0 (.int .i64 0) 1 8 Try.underlying22 hi0 hz0 hz1 hz2 rfl (by omega) _ k _ (by rfl) (OWN.out.alloc _) ⟨wr.heap.size,0,none⟩ 1 1 [.int .i64 (x:Int)] (by rfl) (by rfl) (one_news wr (.int .i64 (x:Int))) (by simp [Value.oneCell']) (by omega) (by unfold maxLen; omega) (by omega) (by simp; omega) (wr.heap.size + 1) (by simp) ?_; intro g3 c3 w3 own3 grow3 at3 lt3; have OWN3 := hide own3; have GR3 := hide grow3; clear own3 grow3 at3)
   go_roundg (gk - 1)
   case measure => have := HK.out; omega
   case rel =>
    refine ⟨k + 1,by have := HK.out; omega,by go_num,?_,(HB.out.alloc hbs (.cells #[.int .i64 (x:Int)] 3)).grown GR3.out (by simp; omega) (fun k hk => (OWN.out.lt k hk).1)⟩
    rw [crnL_succ,List.map_append,← HX.out]
    exact OWN3.out
  ·have hk:k = 4:=by omega
   subst hk
   obtain ⟨A5,c5,rfl⟩:=owns_slice OWN.out
   go_wp2
   go_ret
   exact ⟨A5,c5,rfl,OWN.out,HB.out⟩
end Go.Proofs.Ytobbepmlmbbamaa
end
