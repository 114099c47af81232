/-
 The texts Li.
-/
import Derived.Test.YtghdiolnonejaaaGreatDoorS00
import Derived.Test.YtghdiolnonejaaaGreatDoorS02
import Derived.Test.YtghdiolnonejaaaGreatDoorU02
import Derived.Test.YtghdiolnonejaaaGreatDoorU05
import Derived.Test.YtghdiolnonejaaaGreatDoorU07
import Derived.BigQuiet
import Derived.Deep.AppendLies
import Derived.Deep.DeepCutAuto
import Derived.Deep.DrawnRows
import Derived.Deep.Light
import Derived.Deep.LoopGhost
import Derived.Deep.QuietTactic
import Derived.Deep.RegionHeld3
import Derived.Deep.RegionLaw
import Derived.Deep.RegionWith
import Derived.Laws.AppendOwn
import Derived.Laws.MakeOwn
import Derived.Laws.OwnMore
import Derived.Laws.Rows
import Derived.Maps.AppendAt
import Derived.RegionTactic
import Derived.Shelf.Spec.SlicesGrow
import Derived.StillTailTactics
import Derived.Test.YtghdiolnonejaaaGreatDoorRows
import Derived.Test.YtghdiolnonejaaaGreatDoorShelf
import Derived.WalkKit
import Derived.WalkLawsBesides
import Derived.WalkSpells
set_option linter.unusedVariables false
set_option linter.unusedSimpArgs false
section
namespace Go.Proofs.YtghdiolnonejaaaGreatDoor
open Go Go.RowKit
set_option maxRecDepth 100000 in
set_option maxHeartbeats 4000000 in
theorem rlabel_any (d:Pl.Dg) (hd:Pl.Wf d) (B:Option Addr) (cq m:Nat) (w:World) (hm:m = 4 * d.n) (hb:IntsAt w B m (nats d.mt)) :
 Calls Tryz.prog 33 #[.slice B m cq] w fun e w' =>
  e = .returned (.slice (some ⟨w.heap.size,0,none⟩) d.n d.n) ∧ IRow w' w.heap.size (Pl.lpass d d.n) ∧ Below w.heap.size w w' := by
 have hn:=hd.few
 have HF:=hide hd
 have HM:=hide hm
 have hm2:m ≤ 256:=by omega
 have HB:=hide hb
 have hdiv:(m:Int) / 4 = (d.n:Int):=by omega
 have hdiv2:(m:Int).tdiv 4 = (d.n:Int):=by rw [hm]; show ((4 * d.n:Nat):Int).tdiv 4 = _; rw [Int.tdiv_eq_ediv_of_nonneg (by omega)]; omega
 clear hd hm hb
 have hmk:=run_ints d.n (by omega) w
 go_enter Tryz.func33,Tryz.ntmps33
 go_wp2
 clear hmk
 obtain ⟨W1,hW1⟩:∃ W1:World,W1 = w.alloc (.cells (Array.replicate d.n (Value.int .i64 0)) 3) := ⟨_,rfl⟩
 have B1:=hide (show Below w.heap.size w W1 by rw [hW1]; exact (Below.refl _ _).alloc (Nat.le_refl _) _)
 have R1:=hide (show IRow W1 w.heap.size (Pl.ids d.n 0) by
  rw [hW1,Pl.ids_zero]
  exact IRow.made w d.n)
 rw [← hW1]
 clear hW1
 go_loopg [5] d.n (fun g i wx => ∃ k:Nat,k + g = d.n ∧ i = .int .i64 k ∧ Below w.heap.size w wx ∧ IRow wx w.heap.size (Pl.ids d.n k))
 case atStart => exact ⟨0,by omega,rfl,B1.out,R1.out⟩
 case round =>
  obtain ⟨k,hkg,rfl,b2,r2⟩:=hrel
  have HK:=hide hkg
  have hks:k ≤ d.n:=by omega
  clear hkg
  by_cases hlt:k < d.n
  ·have c1:=r2.cell (i := k) (by rw [Pl.ids_len]; exact hlt)
   have f1:=Row.free r2 k
   have B2:=hide b2
   have R2:=hide r2
   clear b2 r2
   go_wp2
   go_roundg (gk - 1)
   case measure => have := HK.out; omega
   case rel =>
    refine ⟨k + 1,by have := HK.out; omega,by go_num,?_,?_⟩
    ·exact B2.out.setCell (Nat.le_refl _) _
    ·have:=R2.out.set k k
     rwa [Pl.ids_set hlt] at this
  ·have hkn:k = d.n:=by omega
   have B2:=hide b2
   have R2:=hide (show IRow wr w.heap.size (Pl.lpass d 0) by subst hkn; exact r2)
   clear b2 r2 hkn
   go_wp2
   go_loopg [6] d.n (fun g p wx => ∃ k:Nat,k + g = d.n ∧ p = .int .i64 k ∧ Below w.heap.size w wx ∧ IRow wx w.heap.size (Pl.lpass d k))
   case atStart => exact ⟨0,by omega,rfl,B2.out,R2.out⟩
   case round =>
    clear B2 R2 B1 R1 HK hks hlt
    obtain ⟨p,hkg,rfl,b3,r3⟩:=hrel
    have HP:=hide hkg
    have hpn:p ≤ d.n:=by omega
    have B3:=hide b3
    have R3:=hide r3
    clear hkg b3 r3
    by_cases hlt:p < d.n
    ·go_wp2
     go_loopg [7] m (fun g i wx => ∃ k:Nat,k + g = m ∧ i = .int .i64 k ∧ Below w.heap.size w wx ∧ IRow wx w.heap.size (Pl.lrun d (Pl.lpass d p) k))
     case atStart => exact ⟨0,by omega,rfl,B3.out,R3.out⟩
     case round =>
      clear B3 R3
      obtain ⟨k,hkg,rfl,b4,r4⟩:=hrel
      have HK:=hide hkg
      have hkm:k ≤ m:=by omega
      have B4:=hide b4
      have R4:=hide r4
      clear hkg b4 r4
      by_cases hlk:k < m
      ·have hk4:k < 4 * d.n:=by have := HM.out; omega
       have hmk4:=HF.out.lt k hk4
       have HI:=hide (Pl.lrun_pi HF.out p k (by omega))
       obtain ⟨bb,bo,rfl,hmc⟩:=mate_at (by rw [← HM.out]; exact HB.out.keep B4.out) hk4
       obtain ⟨qs,hqs⟩:∃ qs,qs = Pl.lrun d (Pl.lpass d p) k := ⟨_,rfl⟩
       have HQS:=hide hqs
       rw [← hqs] at R4 HI
       clear hqs
       have hk5:k / 4 < d.n:=by omega
       have c1:=R4.out.cell (i := k / 4) (by rw [HI.out.len]; exact hk5)
       obtain ⟨u,hu⟩:∃ u,u = d.m k := ⟨_,rfl⟩
       rw [← hu] at hmc hmk4
       have HU:=hide hu
       have hu5:u / 4 < d.n:=by omega
       have c2:=R4.out.cell (i := u / 4) (by rw [HI.out.len]; exact hu5)
       have f1:=Row.free R4.out (k / 4)
       have f2:=Row.free R4.out (u / 4)
       have l1:=HI.out.nat hk5
       have l2:=HI.out.nat hu5
       obtain ⟨x,hx⟩:∃ x,x = Pl.pv qs (k / 4) := ⟨_,rfl⟩
       obtain ⟨y,hy⟩:∃ y,y = Pl.pv qs (u / 4) := ⟨_,rfl⟩
       have HX:=hide hx
       have HY:=hide hy
       rw [← hx] at c1 l1
       rw [← hy] at c2 l2
       clear hu hx hy
       go_wp2
       go_quiet (fail)
       go_wp2
       go_cut [10] from 43 to 51 (fun s10 wx => s10 = .int .i64 (min x y) ∧ IRow wx w.heap.size qs ∧ Below w.heap.size w wx)
       case first =>
        go_region
        all_goals (go_wp2_with fail; go_meet)
        all_goals exact ⟨rfl,Row.drewN R4.out _,Below.drewN' B4.out _⟩
       case rest =>
        obtain ⟨rfl,r6,b6⟩:=hcut
        have c1:=r6.cell (i := k / 4) (by rw [HI.out.len]; exact hk5)
        have c2:=r6.cell (i := u / 4) (by rw [HI.out.len]; exact hu5)
        have f1:=Row.free r6 (k / 4)
        have f2:=Row.free r6 (u / 4)
        have R6:=hide r6
        have B6:=hide b6
        have MU:=hide (rfl:min x y = min x y)
        obtain ⟨z,hz⟩:∃ z,z = min x y := ⟨_,rfl⟩
        rw [← hz]
        have HZ:=hide hz
        have f3:=Row.free (R6.out.set (k / 4) z) (u / 4)
        have c3:=(R6.out.set (k / 4) z).cell (i := u / 4) (by rw [List.length_set,HI.out.len]; exact hu5)
        clear r6 b6 hz MU
        go_wp2
        go_roundg (gk - 1)
        case measure => have := HK.out; omega
        case rel =>
         refine ⟨k + 1,by have := HK.out; omega,by go_num,(B6.out.setCell (Nat.le_refl _) _).setCell (Nat.le_refl _) _,?_⟩
         have h:=(R6.out.set (k / 4) z).set (u / 4) z
         have e:Pl.lrun d (Pl.lpass d p) (k + 1) = (qs.set (k / 4) z).set (u / 4) z:=by
          show Pl.lstep d (Pl.lrun d (Pl.lpass d p) k) k = _
          unfold Pl.lstep
          rw [← HQS.out,← HU.out,← HX.out,← HY.out,← HZ.out]
         rw [e]
         exact h
      ·have hkm':k = m:=by omega
       have R5:=hide (show IRow wr w.heap.size (Pl.lpass d (p + 1)) by
        have h:=R4.out
        rw [hkm',HM.out] at h
        exact h)
       clear hkm'
       go_wp2
       go_roundg (d.n - (p + 1))
       case measure => have := HP.out; omega
       case rel => exact ⟨p + 1,by omega,by go_num,B4.out,R5.out⟩
    ·have hpn':p = d.n:=by omega
     have E:=hide (show IRow wr w.heap.size (Pl.lpass d d.n) by rw [← hpn']; exact R3.out)
     clear hpn'
     go_wp2
     go_ret
     exact ⟨rfl,E.out,B3.out⟩
end Go.Proofs.YtghdiolnonejaaaGreatDoor
end
