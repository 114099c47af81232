/-
 The text Sm.
-/
import Derived.Test.YtobbepmlmbbamaaB00
import Derived.Test.YtobbepmlmbbamaaB01
import Derived.Test.YtobbepmlmbbamaaB02
import Derived.Test.YtobbepmlmbbamaaB05
import Derived.Test.YtobbepmlmbbamaaRows
import Derived.ProofKit
import Derived.OpenShut
import Derived.Deep.Slices
import Derived.Deep.Fields
import Derived.ChangeSame
import Derived.ChangeSlices
import Derived.Deep.Strs
set_option linter.unusedVariables false
set_option linter.unusedSimpArgs false
section
namespace Go.Proofs.Ytobbepmlmbbamaa
open Go Go.RowKit
attribute [local go_sem ↓] Go.wp_at_zero Go.wp_at_succ
set_option maxRecDepth 100000 in
set_option maxHeartbeats 4000000 in
theorem same_yes (sg mt:List Int) (lp:Int) (A B A2 B2:Option Addr) (n q cp cq cp2 cq2:Nat) (w:World) (hs:IntsAt w A n sg) (hm:IntsAt w B q mt) (hs2:IntsAt w A2 n sg) (hm2:IntsAt w B2 q mt) (hn:n ≤ 100000) (hq:q ≤ 100000) :
 Calls Try.prog 24 #[.agg #[.slice A n cp,.slice B q cq,.int .i64 lp],.agg #[.slice A2 n cp2,.slice B2 q cq2,.int .i64 lp]] w fun e w' => e = .returned (.bool true) ∧ Below w.heap.size w w' := by
 have HS:=hide hs
 have HM:=hide hm
 have HS2:=hide hs2
 have HM2:=hide hm2
 clear hs hm hs2 hm2
 have r0:=(row_at (W := w) (g := w.heap.size) (t := 24) (vs := [.slice A n cp,.slice B q cq,.int .i64 lp]) rfl).alloc (.cells #[.slice A2 n cp2,.slice B2 q cq2,.int .i64 lp] 24)
 have r1:=row_at (W := w.alloc (.cells #[.slice A n cp,.slice B q cq,.int .i64 lp] 24)) (g := w.heap.size + 1) (t := 24) (vs := [.slice A2 n cp2,.slice B2 q cq2,.int .i64 lp]) (by simp)
 have b0:Below w.heap.size w ((w.alloc (.cells #[.slice A n cp,.slice B q cq,.int .i64 lp] 24)).alloc (.cells #[.slice A2 n cp2,.slice B2 q cq2,.int .i64 lp] 24)):=((Below.refl _ _).alloc (Nat.le_refl _) _).alloc (by simp) _
 have R0:=hide r0
 have R1:=hide r1
 have B0:=hide b0
 clear r0 r1 b0
 go_enter Try.func24,Try.ntmps24
 go_wp2
 go_loopg [5] n (fun g i wx => ∃ k:Nat,k + g = n ∧ i = .int .i64 k ∧ Row wx w.heap.size 24 [.slice A n cp,.slice B q cq,.int .i64 lp] ∧ Row wx (w.heap.size + 1) 24 [.slice A2 n cp2,.slice B2 q cq2,.int .i64 lp] ∧ Below w.heap.size w wx)
 case atStart => exact ⟨0,by omega,rfl,R0.out,R1.out,B0.out⟩
 case round =>
  clear R0 R1 B0
  obtain ⟨k,hkg,rfl,r0,r1,hb⟩:=hrel
  have R0:=hide r0
  have R1:=hide r1
  have HB:=hide hb
  have HKG:=hide hkg
  obtain ⟨c0,c1,c2,c3⟩:=box3 r0
  obtain ⟨d0,d1,d2,d3⟩:=box3 r1
  clear hb r0 r1
  by_cases hk:k < n
  ·have hki:(k:Int) < (n:Int):=by omega
   obtain ⟨b,o,rfl,x1⟩:=(HS.out.keep HB.out).at_ hk
   obtain ⟨b2,o2,rfl,x2⟩:=(HS2.out.keep HB.out).at_ hk
   have k0:(0:Int) ≤ (k:Int):=by omega
   obtain ⟨u,hu⟩:∃ u,u = sg.getD k 0 := ⟨_,rfl⟩
   rw [← hu] at x1 x2
   clear hu hkg
   go_upto_region 6 with fail
   go_quiet (fail)
   go_wp2
   go_roundg (gk - 1)
   case measure => have := HKG.out; omega
   case rel => exact ⟨k + 1,by have := HKG.out; omega,by go_num,R0.out,R1.out,below_drewN HB.out _⟩
  ·have hki:¬ ((k:Int) < (n:Int)):=by omega
   clear hkg
   go_wp2
   go_loopg [6] q (fun g i wx => ∃ k:Nat,k + g = q ∧ i = .int .i64 k ∧ Row wx w.heap.size 24 [.slice A n cp,.slice B q cq,.int .i64 lp] ∧ Row wx (w.heap.size + 1) 24 [.slice A2 n cp2,.slice B2 q cq2,.int .i64 lp] ∧ Below w.heap.size w wx)
   case atStart => exact ⟨0,by omega,rfl,R0.out,R1.out,HB.out⟩
   case round =>
    clear R0 R1 HB c0 c1 c2 c3 d0 d1 d2 d3 HKG hki hk
    obtain ⟨j,hkg,rfl,r0,r1,hb⟩:=hrel
    have R0:=hide r0
    have R1:=hide r1
    have HB:=hide hb
    have HKG:=hide hkg
    obtain ⟨c0,c1,c2,c3⟩:=box3 r0
    obtain ⟨d0,d1,d2,d3⟩:=box3 r1
    clear hb r0 r1
    by_cases hk:j < q
    ·have hki:(j:Int) < (q:Int):=by omega
     obtain ⟨b,o,rfl,x1⟩:=(HM.out.keep HB.out).at_ hk
     obtain ⟨b2,o2,rfl,x2⟩:=(HM2.out.keep HB.out).at_ hk
     have k0:(0:Int) ≤ (j:Int):=by omega
     obtain ⟨u,hu⟩:∃ u,u = mt.getD j 0 := ⟨_,rfl⟩
     rw [← hu] at x1 x2
     clear hu hkg
     go_upto_region 11 with fail
     go_quiet (fail)
     go_wp2
     go_roundg (gk - 1)
     case measure => have := HKG.out; omega
     case rel => exact ⟨j + 1,by have := HKG.out; omega,by go_num,R0.out,R1.out,below_drewN HB.out _⟩
    ·have hki:¬ ((j:Int) < (q:Int)):=by omega
     clear hkg
     go_wp2
     go_ret
     exact ⟨rfl,HB.out⟩
end Go.Proofs.Ytobbepmlmbbamaa
end
