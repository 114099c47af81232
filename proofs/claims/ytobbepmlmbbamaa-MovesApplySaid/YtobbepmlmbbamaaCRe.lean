/-
 The text Re.
-/
import Derived.Test.YtobbepmlmbbamaaB00
import Derived.Test.YtobbepmlmbbamaaB01
import Derived.Test.YtobbepmlmbbamaaB02
import Derived.Test.YtobbepmlmbbamaaB05
set_option linter.unusedVariables false
set_option linter.unusedSimpArgs false
section
namespace Go.Proofs.Ytobbepmlmbbamaa
open Go Go.RowKit
theorem rovers_any (A B:Option Addr) (n cp q cq c:Nat) (lp:Value) (sg:List Int) (w:World) (hs:IntsAt w A n sg) (hc:c < n) (hn:n ≤ 1000) :
 Calls Try.prog 96 #[.agg #[.slice A n cp,.slice B q cq,lp],.int .i64 (c:Int)] w fun e w' => e = .returned (.tuple #[.int .i64 (if Pl.pv sg c = 1 then 4 * (c:Int) + 3 else 4 * (c:Int) + 1),.int .i64 (if Pl.pv sg c = 1 then 4 * (c:Int) + 1 else 4 * (c:Int) + 3)]) ∧ Below w.heap.size w w' := by
 obtain ⟨b,o,rfl,h1⟩:=hs.at_ hc
 have hb:Below w.heap.size w (w.alloc (.cells #[.slice (some ⟨b,o,none⟩) n cp,.slice B q cq,lp] 24)):=(Below.refl _ _).alloc (Nat.le_refl _) _
 obtain ⟨u,hu⟩:∃ u,u = Pl.pv sg c := ⟨_,rfl⟩
 rw [show sg.getD c 0 = u from hu.symm] at h1
 rw [← hu]
 have h2:=cell_below h1 hb
 clear hs hu h1
 by_cases h:u = 1
 ·have t1:(u == 1) = true:=by simpa using h
  rw [if_pos h,if_pos h]
  clear h
  go_enter Try.func96,Try.ntmps96
  go_wp2
  go_ret2
  exact ⟨rfl,hb⟩
 ·have t1:(u == 1) = false:=by simpa using h
  rw [if_neg h,if_neg h]
  clear h
  go_enter Try.func96,Try.ntmps96
  go_wp2
  go_ret2
  exact ⟨rfl,hb⟩
theorem own_empty (W:World):(W.alloc (.cells #[] 3)).ownsRow W.heap.size 3 1 (.slice (some ⟨W.heap.size,0,none⟩) 0 0) 0 [] :=
 ⟨rfl,.inr ⟨W.heap.size,0,#[],rfl,Nat.le_refl _,heap_alloc_new W _,Nat.le_refl _,by unfold maxLen; omega,rfl,rfl⟩⟩
set_option maxRecDepth 100000 in
set_option maxHeartbeats 1000000 in
theorem rcopy_any (A B:Option Addr) (n cp q cq:Nat) (lp:Int) (sg mt:List Int) (w:World) (hs:IntsAt w A n sg) (hm:IntsAt w B q mt) (hn:n ≤ 1000) (hq:q ≤ 4000) :
 Calls Try.prog 25 #[.agg #[.slice A n cp,.slice B q cq,.int .i64 lp]] w fun e w' => ∃ (A2 B2:Option Addr) (c2 d2:Nat),e = .returned (.agg #[.slice A2 n c2,.slice B2 q d2,.int .i64 lp]) ∧ w'.ownsRow w.heap.size 3 1 (.slice A2 n c2) n (sg.map (.int .i64)) ∧ w'.ownsRow w.heap.size 3 1 (.slice B2 q d2) q (mt.map (.int .i64)) ∧ Below w.heap.size w w' ∧ (∀ g,(Value.slice A2 n c2).ownBlock = some g → (Value.slice B2 q d2).ownBlock ≠ some g) := by
 have HS:=hide hs
 have HM:=hide hm
 clear hs hm
 obtain ⟨i0,hi0,hz0,hz1,hz2⟩:=info_parts intInfo
 have B0:=hide (show Below w.heap.size w ((w.alloc (.cells #[.slice A n cp,.slice B q cq,.int .i64 lp] 24)).alloc (.cells #[.slice none 0 0,.slice none 0 0,.int .i64 0] 24)) from ((Below.refl _ _).alloc (Nat.le_refl _) _).alloc (by simp) _)
 have X0:=hide (show Row ((w.alloc (.cells #[.slice A n cp,.slice B q cq,.int .i64 lp] 24)).alloc (.cells #[.slice none 0 0,.slice none 0 0,.int .i64 0] 24)) w.heap.size 24 [.slice A n cp,.slice B q cq,.int .i64 lp] from (Row.new w _ _).alloc _)
 have Y0:=hide (show Row ((w.alloc (.cells #[.slice A n cp,.slice B q cq,.int .i64 lp] 24)).alloc (.cells #[.slice none 0 0,.slice none 0 0,.int .i64 0] 24)) (w.heap.size + 1) 24 [.slice none 0 0,.slice none 0 0,.int .i64 0] from row_at (vs := [.slice none 0 0,.slice none 0 0,.int .i64 0]) (by simp))
 obtain ⟨W0,hW0⟩:∃ W0:World,W0 = (w.alloc (.cells #[.slice A n cp,.slice B q cq,.int .i64 lp] 24)).alloc (.cells #[.slice none 0 0,.slice none 0 0,.int .i64 0] 24) := ⟨_,rfl⟩
 rw [← hW0] at B0 X0 Y0
 have HZ:=hide (show W0.heap.size = w.heap.size + 1 + 1 by rw [hW0]; simp)
 obtain ⟨x0,x1,x2,x3⟩:=box3 X0.out
 go_enter Try.func25,Try.ntmps25
 go_upto_region 1 with fail
 rw [← hW0]
 clear hW0
 have E0:=hide (own_empty W0)
 have X1:=hide (X0.out.alloc (.cells #[] 3))
 have Y1:=hide (Y0.out.alloc (.cells #[] 3))
 clear x0 x1 x2 x3
 obtain ⟨x0,x1,x2,x3⟩:=box3 X1.out
 have B1:=hide (B0.out.alloc (by have := HZ.out; omega) (.cells #[] 3))
 have hn1:0 + n ≤ maxLen:=by unfold maxLen; omega
 have hn2:(0 + n) * 8 ≤ 140737488355328:=by omega
 have hq1:0 + q ≤ maxLen:=by unfold maxLen; omega
 have hq2:(0 + q) * 8 ≤ 140737488355328:=by omega
 have hk1:W0.heap.size ≤ (W0.alloc (.cells #[] 3)).heap.size:=by simp
 go_upto_region 2 with (at_builtin; refine wpList_append_ints _ rfl _ _ 22 rfl W0.heap.size 3 i0 (.int .i64 0) 8 Try.underlying22 hi0 hz0 hz1 hz2 rfl _ 0 [] (by rfl) E0.out A n cp sg (by rfl) (HS.out.keep B1.out) hn1 hn2 hk1 ?_; intro v2 w2 own2 grow2; rw [Nat.zero_add,List.nil_append] at own2; obtain ⟨A2,c2,rfl⟩:=owns_slice own2; have X2 := hide (X1.out.grown grow2 (fun e => by have := (E0.out.lt _ e.symm).1; have := HZ.out; omega)); have Y2 := hide (Y1.out.grown grow2 (fun e => by have := (E0.out.lt _ e.symm).1; have := HZ.out; omega)); have B2 := hide (B1.out.grown grow2 (by have := B1.out.size; omega) (fun k hk => by have := (E0.out.lt k hk).1; have := HZ.out; omega)); have OWN2 := hide own2; clear own2 grow2 x0 x1 x2 x3; obtain ⟨x0,x1,x2,x3⟩:=box3 X2.out)
 obtain ⟨W3,hW3⟩:∃ W3:World,W3 = w2.setCell ⟨w.heap.size,0,none⟩ (.slice A2 n c2) := ⟨_,rfl⟩
 have X3:=hide (show Row W3 w.heap.size 24 [.slice A2 n c2,.slice B q cq,.int .i64 lp] by rw [hW3]; exact X2.out.set 0 _)
 have Y3:=hide (show Row W3 (w.heap.size + 1) 24 [.slice none 0 0,.slice none 0 0,.int .i64 0] by rw [hW3]; exact Y2.out.other (by simp) _)
 have B3:=hide (show Below w.heap.size w W3 by rw [hW3]; exact B2.out.setCell (by show w.heap.size ≤ w.heap.size; omega) _)
 have OWN3:=hide (show W3.ownsRow W0.heap.size 3 1 (.slice A2 n c2) n (sg.map (.int .i64)) by rw [hW3]; exact ownsRow_setCell_below OWN2.out (by have := HZ.out; show w.heap.size < W0.heap.size; omega) _)
 rw [← hW3]
 have hz3:w.heap.size + 1 < W3.heap.size:=Y3.out.lt
 have hlt3:∀ g,(Value.slice A2 n c2).ownBlock = some g → g < W3.heap.size:=fun g hg => (OWN3.out.lt g hg).2
 clear hW3 x0 x1 x2 x3 X2 Y2 B2 OWN2 X1 Y1 B1 E0 X0 Y0 B0
 have E4:=hide (own_empty W3)
 have X4:=hide (X3.out.alloc (.cells #[] 3))
 have Y4:=hide (Y3.out.alloc (.cells #[] 3))
 have B4:=hide (B3.out.alloc (by omega) (.cells #[] 3))
 have O4:=hide (OWN3.out.alloc (.cells #[] 3))
 obtain ⟨x0,x1,x2,x3⟩:=box3 X4.out
 have hk2:W3.heap.size ≤ (W3.alloc (.cells #[] 3)).heap.size:=by simp
 go_upto_region 3 with (at_builtin; refine wpList_append_ints _ rfl _ _ 22 rfl W3.heap.size 3 i0 (.int .i64 0) 8 Try.underlying22 hi0 hz0 hz1 hz2 rfl _ 0 [] (by rfl) E4.out B q cq mt (by rfl) (HM.out.keep B4.out) hq1 hq2 hk2 ?_; intro v5 w5 own5 grow5; rw [Nat.zero_add,List.nil_append] at own5; obtain ⟨B2,d2,rfl⟩:=owns_slice own5; have X5 := hide (X4.out.grown grow5 (fun e => by have := (E4.out.lt _ e.symm).1; omega)); have Y5 := hide (Y4.out.grown grow5 (fun e => by have := (E4.out.lt _ e.symm).1; omega)); have B5 := hide (B4.out.grown grow5 (by have := B4.out.size; omega) (fun k hk => by have := (E4.out.lt k hk).1; omega)); have OWN5 := hide own5; have O5 := hide (O4.out.kept grow5 (.inr (fun e => by have := hlt3 _ e; have := (E4.out.lt _ rfl).1; omega))); clear own5 grow5 x0 x1 x2 x3; obtain ⟨x0,x1,x2,x3⟩:=box3 X5.out)
 obtain ⟨y0,y1,y2,y3⟩:=box3 Y5.out
 have hzw:w.heap.size < W0.heap.size:=by have := HZ.out; omega
 go_wp2
 have YF:=hide ((((Y5.out.other (show w.heap.size + 1 ≠ (⟨w.heap.size,1,none⟩:Addr).block by show w.heap.size + 1 ≠ w.heap.size; omega) (.slice B2 q d2)).set 0 (.slice A2 n c2)).set 1 (.slice B2 q d2)).set 2 (.int .i64 lp))
 refine bodyPost_ret (v := .agg #[.slice A2 n c2,.slice B2 q d2,.int .i64 lp]) ?_ rfl ?_
 ·obtain ⟨r0,r1,r2,_⟩:=box3 YF.out
  simp [results,Try.results25,go_sem,r0,r1,r2]
 ·have k1:w.heap.size + 1 < W0.heap.size:=by have := HZ.out; omega
  refine ⟨A2,B2,c2,d2,rfl,?_,?_,?_,fun g hg e => ?_⟩
  ·exact own_keep (ownsRow_setCell_below (ownsRow_setCell_below (ownsRow_setCell_below (ownsRow_setCell_below O5.out (by show w.heap.size < W0.heap.size; omega) _) (by show w.heap.size + 1 < W0.heap.size; omega) _) (by show w.heap.size + 1 < W0.heap.size; omega) _) (by show w.heap.size + 1 < W0.heap.size; omega) _) (Below.refl _ _) (by omega)
  ·exact own_keep (ownsRow_setCell_below (ownsRow_setCell_below (ownsRow_setCell_below (ownsRow_setCell_below OWN5.out (by show w.heap.size < W3.heap.size; omega) _) (by show w.heap.size + 1 < W3.heap.size; omega) _) (by show w.heap.size + 1 < W3.heap.size; omega) _) (by show w.heap.size + 1 < W3.heap.size; omega) _) (Below.refl _ _) (by omega)
  ·exact (((B5.out.setCell (by show w.heap.size ≤ w.heap.size; omega) _).setCell (by show w.heap.size ≤ w.heap.size + 1; omega) _).setCell (by show w.heap.size ≤ w.heap.size + 1; omega) _).setCell (by show w.heap.size ≤ w.heap.size + 1; omega) _
  ·have h1:=hlt3 g hg
   have h2:=(OWN5.out.lt g e).1
   omega
end Go.Proofs.Ytobbepmlmbbamaa
end
