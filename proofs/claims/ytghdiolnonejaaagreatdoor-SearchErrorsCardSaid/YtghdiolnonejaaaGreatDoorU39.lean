/-
 The texts Jq.
-/
import Derived.Test.YtghdiolnonejaaaGreatDoorS01
import Derived.Test.YtghdiolnonejaaaGreatDoorS02
import Derived.Test.YtghdiolnonejaaaGreatDoorS03
import Derived.Test.YtghdiolnonejaaaGreatDoorU13
import Derived.Test.YtghdiolnonejaaaGreatDoorU29
import Derived.Test.YtghdiolnonejaaaGreatDoorU36
import Derived.Test.YtghdiolnonejaaaGreatDoorU38
import Derived.BigQuiet
import Derived.Deep.AppendLies
import Derived.Deep.CutBlock
import Derived.Deep.CutRange
import Derived.Deep.DeepCutAuto
import Derived.Deep.DrawnRows
import Derived.Deep.Light
import Derived.Deep.LoopGhost
import Derived.Deep.QuietTactic
import Derived.Deep.RegionHeld3
import Derived.Deep.RegionLaw
import Derived.Deep.RegionWith
import Derived.Laws.AppendOwn
import Derived.Laws.MakeOwn
import Derived.Laws.OwnMore
import Derived.Laws.Rows
import Derived.Laws.Slices
import Derived.Lib.ItoaLen
import Derived.Lib.ItoaNum
import Derived.Lib.SmallJoins
import Derived.Maps.AppendAt
import Derived.Maps.OwnSet
import Derived.Outline
import Derived.RegionTactic
import Derived.Shelf.Spec.SlicesGrow
import Derived.StillTailTactics
import Derived.StringKeys
import Derived.Test.YtghdiolnonejaaaGreatDoorRows
import Derived.Test.YtghdiolnonejaaaGreatDoorShelf
import Derived.WalkKit
import Derived.WalkLawsBesides
import Derived.WalkMore
import Derived.WalkSpells
set_option linter.unusedVariables false
set_option linter.unusedSimpArgs false
section
namespace Go.Proofs.YtghdiolnonejaaaGreatDoor
open Go Go.RowKit
attribute [local go_sem ↓] Go.wp_at_zero Go.wp_at_succ
set_option maxRecDepth 100000 in
set_option maxHeartbeats 16000000 in
theorem searchErrors_walk (sg mt:List Int) (lp:Int) (A B:Option Addr) (n q cp cq:Nat) (sg' mt':List Int) (lp':Int) (A' B':Option Addr) (n' q' cp' cq':Nat) (most nodes:Int) (w:World) (hs:IntsAt w A n sg) (hm:IntsAt w B q mt) (hn:n ≤ maxLen) (hq:q ≤ maxLen) (hlp:-9223372036854775808 ≤ lp ∧ lp ≤ 9223372036854775807) (hs':IntsAt w A' n' sg') (hm':IntsAt w B' q' mt') (hn':n' ≤ maxLen) (hq':q' ≤ maxLen) (hlp':-9223372036854775808 ≤ lp' ∧ lp' ≤ 9223372036854775807) (ht:GT w) :
 Calls Tryz.prog 5 #[.agg #[.slice A n cp,.slice B q cq,.int .i64 lp],.agg #[.slice A' n' cp',.slice B' q' cq',.int .i64 lp'],.int .i64 most,.int .i64 nodes] w fun e w' => e = .returned (.bool true) ∧ Below w.heap.size w w' := by
 have HS:=hide hs
 have HM:=hide hm
 have HS':=hide hs'
 have HM':=hide hm'
 have HNN:=hide (And.intro hn hq)
 have HNN':=hide (And.intro hn' hq')
 have HLP:=hide hlp
 have HLP':=hide hlp'
 have HT:=hide ht
 clear hs hm hs' hm' hn hq hn' hq' hlp hlp' ht
 have X0:=hide (show Row ((w.alloc (.cells #[.slice A n cp,.slice B q cq,.int .i64 lp] 24)).alloc (.cells #[.slice A' n' cp',.slice B' q' cq',.int .i64 lp'] 24)) w.heap.size 24 [.slice A n cp,.slice B q cq,.int .i64 lp] from (row_at (vs := [_,_,_]) rfl).alloc _)
 have Y0:=hide (show Row ((w.alloc (.cells #[.slice A n cp,.slice B q cq,.int .i64 lp] 24)).alloc (.cells #[.slice A' n' cp',.slice B' q' cq',.int .i64 lp'] 24)) (w.heap.size + 1) 24 [.slice A' n' cp',.slice B' q' cq',.int .i64 lp'] from row_at (vs := [_,_,_]) (by simp))
 have B0:=hide (show Below w.heap.size w ((w.alloc (.cells #[.slice A n cp,.slice B q cq,.int .i64 lp] 24)).alloc (.cells #[.slice A' n' cp',.slice B' q' cq',.int .i64 lp'] 24)) from ((Below.refl _ _).alloc (Nat.le_refl _) _).alloc (by simp) _)
 go_enter Tryz.func5,Tryz.ntmps5
 go_wp2_with fail
 refine (awake48 _ (HT.out.below B0.out)).mono ?_
 rintro e w1 ⟨rfl,hb1⟩
 have X1:=hide (X0.out.below hb1)
 have Y1:=hide (Y0.out.below hb1)
 have B1:=hide (B0.out.trans (hb1.mono B0.out.size))
 clear hb1 X0 Y0 B0
 obtain ⟨c0,c1,c2,c3⟩:=box3 X1.out
 obtain ⟨d0,d1,d2,d3⟩:=box3 Y1.out
 by_cases s0:(4:Int) < (n:Int)
 ·go_wp2
  go_ret
  exact ⟨rfl,B1.out⟩
 by_cases s1:(4:Int) < (n':Int)
 ·go_wp2
  go_ret
  exact ⟨rfl,B1.out⟩
 by_cases s2:(40:Int) < (q:Int)
 ·go_wp2
  go_ret
  exact ⟨rfl,B1.out⟩
 by_cases s3:(40:Int) < (q':Int)
 ·go_wp2
  go_ret
  exact ⟨rfl,B1.out⟩
 have hnb:=HNN.out
 clear hnb
 by_cases o0:most < 0
 ·skip
  have HR:=hide (show fitB n most = false ∨ nodes < 1 ∨ 100000 < nodes from .inl (by unfold fitB; simp; omega))
  go_wp2_with fail
  refine (r1valid_any sg mt lp A B n q cp cq _ (HS.out.keep B1.out) (HM.out.keep B1.out) HNN.out.1 HNN.out.2 HLP.out).mono ?_
  rintro e w2 ⟨rfl,hb2⟩
  have X2:=hide (X1.out.below hb2)
  have Y2:=hide (Y1.out.below hb2)
  have B2:=hide (B1.out.trans (hb2.mono B1.out.size))
  clear hb2 X1 Y1 B1 c0 c1 c2 c3 d0 d1 d2 d3
  obtain ⟨c0,c1,c2,c3⟩:=box3 X2.out
  obtain ⟨d0,d1,d2,d3⟩:=box3 Y2.out
  by_cases ha:Pl.VL sg mt lp
  ·rw [Pl.vb_true ha]
   go_wp2_with fail
   refine (r1valid_any sg' mt' lp' A' B' n' q' cp' cq' _ (HS'.out.keep B2.out) (HM'.out.keep B2.out) HNN'.out.1 HNN'.out.2 HLP'.out).mono ?_
   rintro e w3 ⟨rfl,hb3⟩
   have X3:=hide (X2.out.below hb3)
   have Y3:=hide (Y2.out.below hb3)
   have B3:=hide (B2.out.trans (hb3.mono B2.out.size))
   clear hb3 X2 Y2 B2 c0 c1 c2 c3 d0 d1 d2 d3
   obtain ⟨c0,c1,c2,c3⟩:=box3 X3.out
   obtain ⟨d0,d1,d2,d3⟩:=box3 Y3.out
   by_cases hb:Pl.VL sg' mt' lp'
   ·rw [Pl.vb_true hb]
    go_wp2_with fail
    refine (path_rng sg mt lp A B n q cp cq sg' mt' lp' A' B' n' q' cp' cq' most nodes _ (HS.out.keep B3.out) (HM.out.keep B3.out) HNN.out.1 HNN.out.2 HLP.out (HS'.out.keep B3.out) (HM'.out.keep B3.out) HNN'.out.1 HNN'.out.2 HLP'.out ⟨ha,hb⟩ (by rcases HR.out with h | h | h; exact .inl h; exact .inr (.inr (.inl h)); exact .inr (.inr (.inr h)))).mono ?_
    rintro e w4 ⟨rfl,hb4⟩
    have X4:=hide (X3.out.below hb4)
    have Y4:=hide (Y3.out.below hb4)
    have B4:=hide (B3.out.trans (hb4.mono B3.out.size))
    clear hb4 X3 Y3 B3 c0 c1 c2 c3 d0 d1 d2 d3
    obtain ⟨c0,c1,c2,c3⟩:=box3 X4.out
    obtain ⟨d0,d1,d2,d3⟩:=box3 Y4.out
    go_wp2_with fail
    refine (untie_rng sg mt lp A B n q cp cq most nodes _ (HS.out.keep B4.out) (HM.out.keep B4.out) HNN.out.1 HNN.out.2 HLP.out ha HR.out).mono ?_
    rintro e w5 ⟨rfl,hb5⟩
    have X5:=hide (X4.out.below hb5)
    have Y5:=hide (Y4.out.below hb5)
    have B5:=hide (B4.out.trans (hb5.mono B4.out.size))
    clear hb5 X4 Y4 B4 c0 c1 c2 c3 d0 d1 d2 d3
    obtain ⟨c0,c1,c2,c3⟩:=box3 X5.out
    obtain ⟨d0,d1,d2,d3⟩:=box3 Y5.out
    go_wp2
    go_ret
    exact ⟨rfl,B5.out⟩
   ·rw [Pl.vb_false hb]
    go_wp2_with fail
    refine (path_bad sg mt lp A B n q cp cq sg' mt' lp' A' B' n' q' cp' cq' most nodes _ (HS.out.keep B3.out) (HM.out.keep B3.out) HNN.out.1 HNN.out.2 HLP.out (HS'.out.keep B3.out) (HM'.out.keep B3.out) HNN'.out.1 HNN'.out.2 HLP'.out (fun h => hb h.2) ).mono ?_
    rintro e w4 ⟨rfl,hb4⟩
    have X4:=hide (X3.out.below hb4)
    have Y4:=hide (Y3.out.below hb4)
    have B4:=hide (B3.out.trans (hb4.mono B3.out.size))
    clear hb4 X3 Y3 B3 c0 c1 c2 c3 d0 d1 d2 d3
    obtain ⟨c0,c1,c2,c3⟩:=box3 X4.out
    obtain ⟨d0,d1,d2,d3⟩:=box3 Y4.out
    go_wp2_with fail
    refine (untie_rng sg mt lp A B n q cp cq most nodes _ (HS.out.keep B4.out) (HM.out.keep B4.out) HNN.out.1 HNN.out.2 HLP.out ha HR.out).mono ?_
    rintro e w5 ⟨rfl,hb5⟩
    have X5:=hide (X4.out.below hb5)
    have Y5:=hide (Y4.out.below hb5)
    have B5:=hide (B4.out.trans (hb5.mono B4.out.size))
    clear hb5 X4 Y4 B4 c0 c1 c2 c3 d0 d1 d2 d3
    obtain ⟨c0,c1,c2,c3⟩:=box3 X5.out
    obtain ⟨d0,d1,d2,d3⟩:=box3 Y5.out
    go_wp2
    go_ret
    exact ⟨rfl,B5.out⟩
  ·skip
   rw [Pl.vb_false ha]
   go_wp2_with fail
   refine (r1valid_any sg' mt' lp' A' B' n' q' cp' cq' _ (HS'.out.keep B2.out) (HM'.out.keep B2.out) HNN'.out.1 HNN'.out.2 HLP'.out).mono ?_
   rintro e w3 ⟨rfl,hb3⟩
   have X3:=hide (X2.out.below hb3)
   have Y3:=hide (Y2.out.below hb3)
   have B3:=hide (B2.out.trans (hb3.mono B2.out.size))
   clear hb3 X2 Y2 B2 c0 c1 c2 c3 d0 d1 d2 d3
   obtain ⟨c0,c1,c2,c3⟩:=box3 X3.out
   obtain ⟨d0,d1,d2,d3⟩:=box3 Y3.out
   by_cases hb:Pl.VL sg' mt' lp'
   ·rw [Pl.vb_true hb]
    go_wp2_with fail
    refine (path_bad sg mt lp A B n q cp cq sg' mt' lp' A' B' n' q' cp' cq' most nodes _ (HS.out.keep B3.out) (HM.out.keep B3.out) HNN.out.1 HNN.out.2 HLP.out (HS'.out.keep B3.out) (HM'.out.keep B3.out) HNN'.out.1 HNN'.out.2 HLP'.out (fun h => ha h.1) ).mono ?_
    rintro e w4 ⟨rfl,hb4⟩
    have X4:=hide (X3.out.below hb4)
    have Y4:=hide (Y3.out.below hb4)
    have B4:=hide (B3.out.trans (hb4.mono B3.out.size))
    clear hb4 X3 Y3 B3 c0 c1 c2 c3 d0 d1 d2 d3
    obtain ⟨c0,c1,c2,c3⟩:=box3 X4.out
    obtain ⟨d0,d1,d2,d3⟩:=box3 Y4.out
    go_wp2_with fail
    refine (untie_bad sg mt lp A B n q cp cq most nodes _ (HS.out.keep B4.out) (HM.out.keep B4.out) HNN.out.1 HNN.out.2 HLP.out ha ).mono ?_
    rintro e w5 ⟨rfl,hb5⟩
    have X5:=hide (X4.out.below hb5)
    have Y5:=hide (Y4.out.below hb5)
    have B5:=hide (B4.out.trans (hb5.mono B4.out.size))
    clear hb5 X4 Y4 B4 c0 c1 c2 c3 d0 d1 d2 d3
    obtain ⟨c0,c1,c2,c3⟩:=box3 X5.out
    obtain ⟨d0,d1,d2,d3⟩:=box3 Y5.out
    go_wp2
    go_ret
    exact ⟨rfl,B5.out⟩
   ·rw [Pl.vb_false hb]
    go_wp2_with fail
    refine (path_bad sg mt lp A B n q cp cq sg' mt' lp' A' B' n' q' cp' cq' most nodes _ (HS.out.keep B3.out) (HM.out.keep B3.out) HNN.out.1 HNN.out.2 HLP.out (HS'.out.keep B3.out) (HM'.out.keep B3.out) HNN'.out.1 HNN'.out.2 HLP'.out (fun h => ha h.1) ).mono ?_
    rintro e w4 ⟨rfl,hb4⟩
    have X4:=hide (X3.out.below hb4)
    have Y4:=hide (Y3.out.below hb4)
    have B4:=hide (B3.out.trans (hb4.mono B3.out.size))
    clear hb4 X3 Y3 B3 c0 c1 c2 c3 d0 d1 d2 d3
    obtain ⟨c0,c1,c2,c3⟩:=box3 X4.out
    obtain ⟨d0,d1,d2,d3⟩:=box3 Y4.out
    go_wp2_with fail
    refine (untie_bad sg mt lp A B n q cp cq most nodes _ (HS.out.keep B4.out) (HM.out.keep B4.out) HNN.out.1 HNN.out.2 HLP.out ha ).mono ?_
    rintro e w5 ⟨rfl,hb5⟩
    have X5:=hide (X4.out.below hb5)
    have Y5:=hide (Y4.out.below hb5)
    have B5:=hide (B4.out.trans (hb5.mono B4.out.size))
    clear hb5 X4 Y4 B4 c0 c1 c2 c3 d0 d1 d2 d3
    obtain ⟨c0,c1,c2,c3⟩:=box3 X5.out
    obtain ⟨d0,d1,d2,d3⟩:=box3 Y5.out
    go_wp2
    go_ret
    exact ⟨rfl,B5.out⟩
 by_cases o1:64 < most
 ·skip
  have HR:=hide (show fitB n most = false ∨ nodes < 1 ∨ 100000 < nodes from .inl (by unfold fitB; simp; omega))
  go_wp2_with fail
  refine (r1valid_any sg mt lp A B n q cp cq _ (HS.out.keep B1.out) (HM.out.keep B1.out) HNN.out.1 HNN.out.2 HLP.out).mono ?_
  rintro e w2 ⟨rfl,hb2⟩
  have X2:=hide (X1.out.below hb2)
  have Y2:=hide (Y1.out.below hb2)
  have B2:=hide (B1.out.trans (hb2.mono B1.out.size))
  clear hb2 X1 Y1 B1 c0 c1 c2 c3 d0 d1 d2 d3
  obtain ⟨c0,c1,c2,c3⟩:=box3 X2.out
  obtain ⟨d0,d1,d2,d3⟩:=box3 Y2.out
  by_cases ha:Pl.VL sg mt lp
  ·rw [Pl.vb_true ha]
   go_wp2_with fail
   refine (r1valid_any sg' mt' lp' A' B' n' q' cp' cq' _ (HS'.out.keep B2.out) (HM'.out.keep B2.out) HNN'.out.1 HNN'.out.2 HLP'.out).mono ?_
   rintro e w3 ⟨rfl,hb3⟩
   have X3:=hide (X2.out.below hb3)
   have Y3:=hide (Y2.out.below hb3)
   have B3:=hide (B2.out.trans (hb3.mono B2.out.size))
   clear hb3 X2 Y2 B2 c0 c1 c2 c3 d0 d1 d2 d3
   obtain ⟨c0,c1,c2,c3⟩:=box3 X3.out
   obtain ⟨d0,d1,d2,d3⟩:=box3 Y3.out
   by_cases hb:Pl.VL sg' mt' lp'
   ·rw [Pl.vb_true hb]
    go_wp2_with fail
    refine (path_rng sg mt lp A B n q cp cq sg' mt' lp' A' B' n' q' cp' cq' most nodes _ (HS.out.keep B3.out) (HM.out.keep B3.out) HNN.out.1 HNN.out.2 HLP.out (HS'.out.keep B3.out) (HM'.out.keep B3.out) HNN'.out.1 HNN'.out.2 HLP'.out ⟨ha,hb⟩ (by rcases HR.out with h | h | h; exact .inl h; exact .inr (.inr (.inl h)); exact .inr (.inr (.inr h)))).mono ?_
    rintro e w4 ⟨rfl,hb4⟩
    have X4:=hide (X3.out.below hb4)
    have Y4:=hide (Y3.out.below hb4)
    have B4:=hide (B3.out.trans (hb4.mono B3.out.size))
    clear hb4 X3 Y3 B3 c0 c1 c2 c3 d0 d1 d2 d3
    obtain ⟨c0,c1,c2,c3⟩:=box3 X4.out
    obtain ⟨d0,d1,d2,d3⟩:=box3 Y4.out
    go_wp2_with fail
    refine (untie_rng sg mt lp A B n q cp cq most nodes _ (HS.out.keep B4.out) (HM.out.keep B4.out) HNN.out.1 HNN.out.2 HLP.out ha HR.out).mono ?_
    rintro e w5 ⟨rfl,hb5⟩
    have X5:=hide (X4.out.below hb5)
    have Y5:=hide (Y4.out.below hb5)
    have B5:=hide (B4.out.trans (hb5.mono B4.out.size))
    clear hb5 X4 Y4 B4 c0 c1 c2 c3 d0 d1 d2 d3
    obtain ⟨c0,c1,c2,c3⟩:=box3 X5.out
    obtain ⟨d0,d1,d2,d3⟩:=box3 Y5.out
    go_wp2
    go_ret
    exact ⟨rfl,B5.out⟩
   ·rw [Pl.vb_false hb]
    go_wp2_with fail
    refine (path_bad sg mt lp A B n q cp cq sg' mt' lp' A' B' n' q' cp' cq' most nodes _ (HS.out.keep B3.out) (HM.out.keep B3.out) HNN.out.1 HNN.out.2 HLP.out (HS'.out.keep B3.out) (HM'.out.keep B3.out) HNN'.out.1 HNN'.out.2 HLP'.out (fun h => hb h.2) ).mono ?_
    rintro e w4 ⟨rfl,hb4⟩
    have X4:=hide (X3.out.below hb4)
    have Y4:=hide (Y3.out.below hb4)
    have B4:=hide (B3.out.trans (hb4.mono B3.out.size))
    clear hb4 X3 Y3 B3 c0 c1 c2 c3 d0 d1 d2 d3
    obtain ⟨c0,c1,c2,c3⟩:=box3 X4.out
    obtain ⟨d0,d1,d2,d3⟩:=box3 Y4.out
    go_wp2_with fail
    refine (untie_rng sg mt lp A B n q cp cq most nodes _ (HS.out.keep B4.out) (HM.out.keep B4.out) HNN.out.1 HNN.out.2 HLP.out ha HR.out).mono ?_
    rintro e w5 ⟨rfl,hb5⟩
    have X5:=hide (X4.out.below hb5)
    have Y5:=hide (Y4.out.below hb5)
    have B5:=hide (B4.out.trans (hb5.mono B4.out.size))
    clear hb5 X4 Y4 B4 c0 c1 c2 c3 d0 d1 d2 d3
    obtain ⟨c0,c1,c2,c3⟩:=box3 X5.out
    obtain ⟨d0,d1,d2,d3⟩:=box3 Y5.out
    go_wp2
    go_ret
    exact ⟨rfl,B5.out⟩
  ·skip
   rw [Pl.vb_false ha]
   go_wp2_with fail
   refine (r1valid_any sg' mt' lp' A' B' n' q' cp' cq' _ (HS'.out.keep B2.out) (HM'.out.keep B2.out) HNN'.out.1 HNN'.out.2 HLP'.out).mono ?_
   rintro e w3 ⟨rfl,hb3⟩
   have X3:=hide (X2.out.below hb3)
   have Y3:=hide (Y2.out.below hb3)
   have B3:=hide (B2.out.trans (hb3.mono B2.out.size))
   clear hb3 X2 Y2 B2 c0 c1 c2 c3 d0 d1 d2 d3
   obtain ⟨c0,c1,c2,c3⟩:=box3 X3.out
   obtain ⟨d0,d1,d2,d3⟩:=box3 Y3.out
   by_cases hb:Pl.VL sg' mt' lp'
   ·rw [Pl.vb_true hb]
    go_wp2_with fail
    refine (path_bad sg mt lp A B n q cp cq sg' mt' lp' A' B' n' q' cp' cq' most nodes _ (HS.out.keep B3.out) (HM.out.keep B3.out) HNN.out.1 HNN.out.2 HLP.out (HS'.out.keep B3.out) (HM'.out.keep B3.out) HNN'.out.1 HNN'.out.2 HLP'.out (fun h => ha h.1) ).mono ?_
    rintro e w4 ⟨rfl,hb4⟩
    have X4:=hide (X3.out.below hb4)
    have Y4:=hide (Y3.out.below hb4)
    have B4:=hide (B3.out.trans (hb4.mono B3.out.size))
    clear hb4 X3 Y3 B3 c0 c1 c2 c3 d0 d1 d2 d3
    obtain ⟨c0,c1,c2,c3⟩:=box3 X4.out
    obtain ⟨d0,d1,d2,d3⟩:=box3 Y4.out
    go_wp2_with fail
    refine (untie_bad sg mt lp A B n q cp cq most nodes _ (HS.out.keep B4.out) (HM.out.keep B4.out) HNN.out.1 HNN.out.2 HLP.out ha ).mono ?_
    rintro e w5 ⟨rfl,hb5⟩
    have X5:=hide (X4.out.below hb5)
    have Y5:=hide (Y4.out.below hb5)
    have B5:=hide (B4.out.trans (hb5.mono B4.out.size))
    clear hb5 X4 Y4 B4 c0 c1 c2 c3 d0 d1 d2 d3
    obtain ⟨c0,c1,c2,c3⟩:=box3 X5.out
    obtain ⟨d0,d1,d2,d3⟩:=box3 Y5.out
    go_wp2
    go_ret
    exact ⟨rfl,B5.out⟩
   ·rw [Pl.vb_false hb]
    go_wp2_with fail
    refine (path_bad sg mt lp A B n q cp cq sg' mt' lp' A' B' n' q' cp' cq' most nodes _ (HS.out.keep B3.out) (HM.out.keep B3.out) HNN.out.1 HNN.out.2 HLP.out (HS'.out.keep B3.out) (HM'.out.keep B3.out) HNN'.out.1 HNN'.out.2 HLP'.out (fun h => ha h.1) ).mono ?_
    rintro e w4 ⟨rfl,hb4⟩
    have X4:=hide (X3.out.below hb4)
    have Y4:=hide (Y3.out.below hb4)
    have B4:=hide (B3.out.trans (hb4.mono B3.out.size))
    clear hb4 X3 Y3 B3 c0 c1 c2 c3 d0 d1 d2 d3
    obtain ⟨c0,c1,c2,c3⟩:=box3 X4.out
    obtain ⟨d0,d1,d2,d3⟩:=box3 Y4.out
    go_wp2_with fail
    refine (untie_bad sg mt lp A B n q cp cq most nodes _ (HS.out.keep B4.out) (HM.out.keep B4.out) HNN.out.1 HNN.out.2 HLP.out ha ).mono ?_
    rintro e w5 ⟨rfl,hb5⟩
    have X5:=hide (X4.out.below hb5)
    have Y5:=hide (Y4.out.below hb5)
    have B5:=hide (B4.out.trans (hb5.mono B4.out.size))
    clear hb5 X4 Y4 B4 c0 c1 c2 c3 d0 d1 d2 d3
    obtain ⟨c0,c1,c2,c3⟩:=box3 X5.out
    obtain ⟨d0,d1,d2,d3⟩:=box3 Y5.out
    go_wp2
    go_ret
    exact ⟨rfl,B5.out⟩
 by_cases o2:nodes < 1
 ·skip
  have HR:=hide (show fitB n most = false ∨ nodes < 1 ∨ 100000 < nodes from .inr (.inl o2))
  go_wp2_with fail
  refine (r1valid_any sg mt lp A B n q cp cq _ (HS.out.keep B1.out) (HM.out.keep B1.out) HNN.out.1 HNN.out.2 HLP.out).mono ?_
  rintro e w2 ⟨rfl,hb2⟩
  have X2:=hide (X1.out.below hb2)
  have Y2:=hide (Y1.out.below hb2)
  have B2:=hide (B1.out.trans (hb2.mono B1.out.size))
  clear hb2 X1 Y1 B1 c0 c1 c2 c3 d0 d1 d2 d3
  obtain ⟨c0,c1,c2,c3⟩:=box3 X2.out
  obtain ⟨d0,d1,d2,d3⟩:=box3 Y2.out
  by_cases ha:Pl.VL sg mt lp
  ·rw [Pl.vb_true ha]
   go_wp2_with fail
   refine (r1valid_any sg' mt' lp' A' B' n' q' cp' cq' _ (HS'.out.keep B2.out) (HM'.out.keep B2.out) HNN'.out.1 HNN'.out.2 HLP'.out).mono ?_
   rintro e w3 ⟨rfl,hb3⟩
   have X3:=hide (X2.out.below hb3)
   have Y3:=hide (Y2.out.below hb3)
   have B3:=hide (B2.out.trans (hb3.mono B2.out.size))
   clear hb3 X2 Y2 B2 c0 c1 c2 c3 d0 d1 d2 d3
   obtain ⟨c0,c1,c2,c3⟩:=box3 X3.out
   obtain ⟨d0,d1,d2,d3⟩:=box3 Y3.out
   by_cases hb:Pl.VL sg' mt' lp'
   ·rw [Pl.vb_true hb]
    go_wp2_with fail
    refine (path_rng sg mt lp A B n q cp cq sg' mt' lp' A' B' n' q' cp' cq' most nodes _ (HS.out.keep B3.out) (HM.out.keep B3.out) HNN.out.1 HNN.out.2 HLP.out (HS'.out.keep B3.out) (HM'.out.keep B3.out) HNN'.out.1 HNN'.out.2 HLP'.out ⟨ha,hb⟩ (by rcases HR.out with h | h | h; exact .inl h; exact .inr (.inr (.inl h)); exact .inr (.inr (.inr h)))).mono ?_
    rintro e w4 ⟨rfl,hb4⟩
    have X4:=hide (X3.out.below hb4)
    have Y4:=hide (Y3.out.below hb4)
    have B4:=hide (B3.out.trans (hb4.mono B3.out.size))
    clear hb4 X3 Y3 B3 c0 c1 c2 c3 d0 d1 d2 d3
    obtain ⟨c0,c1,c2,c3⟩:=box3 X4.out
    obtain ⟨d0,d1,d2,d3⟩:=box3 Y4.out
    go_wp2_with fail
    refine (untie_rng sg mt lp A B n q cp cq most nodes _ (HS.out.keep B4.out) (HM.out.keep B4.out) HNN.out.1 HNN.out.2 HLP.out ha HR.out).mono ?_
    rintro e w5 ⟨rfl,hb5⟩
    have X5:=hide (X4.out.below hb5)
    have Y5:=hide (Y4.out.below hb5)
    have B5:=hide (B4.out.trans (hb5.mono B4.out.size))
    clear hb5 X4 Y4 B4 c0 c1 c2 c3 d0 d1 d2 d3
    obtain ⟨c0,c1,c2,c3⟩:=box3 X5.out
    obtain ⟨d0,d1,d2,d3⟩:=box3 Y5.out
    go_wp2
    go_ret
    exact ⟨rfl,B5.out⟩
   ·rw [Pl.vb_false hb]
    go_wp2_with fail
    refine (path_bad sg mt lp A B n q cp cq sg' mt' lp' A' B' n' q' cp' cq' most nodes _ (HS.out.keep B3.out) (HM.out.keep B3.out) HNN.out.1 HNN.out.2 HLP.out (HS'.out.keep B3.out) (HM'.out.keep B3.out) HNN'.out.1 HNN'.out.2 HLP'.out (fun h => hb h.2) ).mono ?_
    rintro e w4 ⟨rfl,hb4⟩
    have X4:=hide (X3.out.below hb4)
    have Y4:=hide (Y3.out.below hb4)
    have B4:=hide (B3.out.trans (hb4.mono B3.out.size))
    clear hb4 X3 Y3 B3 c0 c1 c2 c3 d0 d1 d2 d3
    obtain ⟨c0,c1,c2,c3⟩:=box3 X4.out
    obtain ⟨d0,d1,d2,d3⟩:=box3 Y4.out
    go_wp2_with fail
    refine (untie_rng sg mt lp A B n q cp cq most nodes _ (HS.out.keep B4.out) (HM.out.keep B4.out) HNN.out.1 HNN.out.2 HLP.out ha HR.out).mono ?_
    rintro e w5 ⟨rfl,hb5⟩
    have X5:=hide (X4.out.below hb5)
    have Y5:=hide (Y4.out.below hb5)
    have B5:=hide (B4.out.trans (hb5.mono B4.out.size))
    clear hb5 X4 Y4 B4 c0 c1 c2 c3 d0 d1 d2 d3
    obtain ⟨c0,c1,c2,c3⟩:=box3 X5.out
    obtain ⟨d0,d1,d2,d3⟩:=box3 Y5.out
    go_wp2
    go_ret
    exact ⟨rfl,B5.out⟩
  ·skip
   rw [Pl.vb_false ha]
   go_wp2_with fail
   refine (r1valid_any sg' mt' lp' A' B' n' q' cp' cq' _ (HS'.out.keep B2.out) (HM'.out.keep B2.out) HNN'.out.1 HNN'.out.2 HLP'.out).mono ?_
   rintro e w3 ⟨rfl,hb3⟩
   have X3:=hide (X2.out.below hb3)
   have Y3:=hide (Y2.out.below hb3)
   have B3:=hide (B2.out.trans (hb3.mono B2.out.size))
   clear hb3 X2 Y2 B2 c0 c1 c2 c3 d0 d1 d2 d3
   obtain ⟨c0,c1,c2,c3⟩:=box3 X3.out
   obtain ⟨d0,d1,d2,d3⟩:=box3 Y3.out
   by_cases hb:Pl.VL sg' mt' lp'
   ·rw [Pl.vb_true hb]
    go_wp2_with fail
    refine (path_bad sg mt lp A B n q cp cq sg' mt' lp' A' B' n' q' cp' cq' most nodes _ (HS.out.keep B3.out) (HM.out.keep B3.out) HNN.out.1 HNN.out.2 HLP.out (HS'.out.keep B3.out) (HM'.out.keep B3.out) HNN'.out.1 HNN'.out.2 HLP'.out (fun h => ha h.1) ).mono ?_
    rintro e w4 ⟨rfl,hb4⟩
    have X4:=hide (X3.out.below hb4)
    have Y4:=hide (Y3.out.below hb4)
    have B4:=hide (B3.out.trans (hb4.mono B3.out.size))
    clear hb4 X3 Y3 B3 c0 c1 c2 c3 d0 d1 d2 d3
    obtain ⟨c0,c1,c2,c3⟩:=box3 X4.out
    obtain ⟨d0,d1,d2,d3⟩:=box3 Y4.out
    go_wp2_with fail
    refine (untie_bad sg mt lp A B n q cp cq most nodes _ (HS.out.keep B4.out) (HM.out.keep B4.out) HNN.out.1 HNN.out.2 HLP.out ha ).mono ?_
    rintro e w5 ⟨rfl,hb5⟩
    have X5:=hide (X4.out.below hb5)
    have Y5:=hide (Y4.out.below hb5)
    have B5:=hide (B4.out.trans (hb5.mono B4.out.size))
    clear hb5 X4 Y4 B4 c0 c1 c2 c3 d0 d1 d2 d3
    obtain ⟨c0,c1,c2,c3⟩:=box3 X5.out
    obtain ⟨d0,d1,d2,d3⟩:=box3 Y5.out
    go_wp2
    go_ret
    exact ⟨rfl,B5.out⟩
   ·rw [Pl.vb_false hb]
    go_wp2_with fail
    refine (path_bad sg mt lp A B n q cp cq sg' mt' lp' A' B' n' q' cp' cq' most nodes _ (HS.out.keep B3.out) (HM.out.keep B3.out) HNN.out.1 HNN.out.2 HLP.out (HS'.out.keep B3.out) (HM'.out.keep B3.out) HNN'.out.1 HNN'.out.2 HLP'.out (fun h => ha h.1) ).mono ?_
    rintro e w4 ⟨rfl,hb4⟩
    have X4:=hide (X3.out.below hb4)
    have Y4:=hide (Y3.out.below hb4)
    have B4:=hide (B3.out.trans (hb4.mono B3.out.size))
    clear hb4 X3 Y3 B3 c0 c1 c2 c3 d0 d1 d2 d3
    obtain ⟨c0,c1,c2,c3⟩:=box3 X4.out
    obtain ⟨d0,d1,d2,d3⟩:=box3 Y4.out
    go_wp2_with fail
    refine (untie_bad sg mt lp A B n q cp cq most nodes _ (HS.out.keep B4.out) (HM.out.keep B4.out) HNN.out.1 HNN.out.2 HLP.out ha ).mono ?_
    rintro e w5 ⟨rfl,hb5⟩
    have X5:=hide (X4.out.below hb5)
    have Y5:=hide (Y4.out.below hb5)
    have B5:=hide (B4.out.trans (hb5.mono B4.out.size))
    clear hb5 X4 Y4 B4 c0 c1 c2 c3 d0 d1 d2 d3
    obtain ⟨c0,c1,c2,c3⟩:=box3 X5.out
    obtain ⟨d0,d1,d2,d3⟩:=box3 Y5.out
    go_wp2
    go_ret
    exact ⟨rfl,B5.out⟩
 by_cases o3:100000 < nodes
 ·skip
  have HR:=hide (show fitB n most = false ∨ nodes < 1 ∨ 100000 < nodes from .inr (.inr o3))
  go_wp2_with fail
  refine (r1valid_any sg mt lp A B n q cp cq _ (HS.out.keep B1.out) (HM.out.keep B1.out) HNN.out.1 HNN.out.2 HLP.out).mono ?_
  rintro e w2 ⟨rfl,hb2⟩
  have X2:=hide (X1.out.below hb2)
  have Y2:=hide (Y1.out.below hb2)
  have B2:=hide (B1.out.trans (hb2.mono B1.out.size))
  clear hb2 X1 Y1 B1 c0 c1 c2 c3 d0 d1 d2 d3
  obtain ⟨c0,c1,c2,c3⟩:=box3 X2.out
  obtain ⟨d0,d1,d2,d3⟩:=box3 Y2.out
  by_cases ha:Pl.VL sg mt lp
  ·rw [Pl.vb_true ha]
   go_wp2_with fail
   refine (r1valid_any sg' mt' lp' A' B' n' q' cp' cq' _ (HS'.out.keep B2.out) (HM'.out.keep B2.out) HNN'.out.1 HNN'.out.2 HLP'.out).mono ?_
   rintro e w3 ⟨rfl,hb3⟩
   have X3:=hide (X2.out.below hb3)
   have Y3:=hide (Y2.out.below hb3)
   have B3:=hide (B2.out.trans (hb3.mono B2.out.size))
   clear hb3 X2 Y2 B2 c0 c1 c2 c3 d0 d1 d2 d3
   obtain ⟨c0,c1,c2,c3⟩:=box3 X3.out
   obtain ⟨d0,d1,d2,d3⟩:=box3 Y3.out
   by_cases hb:Pl.VL sg' mt' lp'
   ·rw [Pl.vb_true hb]
    go_wp2_with fail
    refine (path_rng sg mt lp A B n q cp cq sg' mt' lp' A' B' n' q' cp' cq' most nodes _ (HS.out.keep B3.out) (HM.out.keep B3.out) HNN.out.1 HNN.out.2 HLP.out (HS'.out.keep B3.out) (HM'.out.keep B3.out) HNN'.out.1 HNN'.out.2 HLP'.out ⟨ha,hb⟩ (by rcases HR.out with h | h | h; exact .inl h; exact .inr (.inr (.inl h)); exact .inr (.inr (.inr h)))).mono ?_
    rintro e w4 ⟨rfl,hb4⟩
    have X4:=hide (X3.out.below hb4)
    have Y4:=hide (Y3.out.below hb4)
    have B4:=hide (B3.out.trans (hb4.mono B3.out.size))
    clear hb4 X3 Y3 B3 c0 c1 c2 c3 d0 d1 d2 d3
    obtain ⟨c0,c1,c2,c3⟩:=box3 X4.out
    obtain ⟨d0,d1,d2,d3⟩:=box3 Y4.out
    go_wp2_with fail
    refine (untie_rng sg mt lp A B n q cp cq most nodes _ (HS.out.keep B4.out) (HM.out.keep B4.out) HNN.out.1 HNN.out.2 HLP.out ha HR.out).mono ?_
    rintro e w5 ⟨rfl,hb5⟩
    have X5:=hide (X4.out.below hb5)
    have Y5:=hide (Y4.out.below hb5)
    have B5:=hide (B4.out.trans (hb5.mono B4.out.size))
    clear hb5 X4 Y4 B4 c0 c1 c2 c3 d0 d1 d2 d3
    obtain ⟨c0,c1,c2,c3⟩:=box3 X5.out
    obtain ⟨d0,d1,d2,d3⟩:=box3 Y5.out
    go_wp2
    go_ret
    exact ⟨rfl,B5.out⟩
   ·rw [Pl.vb_false hb]
    go_wp2_with fail
    refine (path_bad sg mt lp A B n q cp cq sg' mt' lp' A' B' n' q' cp' cq' most nodes _ (HS.out.keep B3.out) (HM.out.keep B3.out) HNN.out.1 HNN.out.2 HLP.out (HS'.out.keep B3.out) (HM'.out.keep B3.out) HNN'.out.1 HNN'.out.2 HLP'.out (fun h => hb h.2) ).mono ?_
    rintro e w4 ⟨rfl,hb4⟩
    have X4:=hide (X3.out.below hb4)
    have Y4:=hide (Y3.out.below hb4)
    have B4:=hide (B3.out.trans (hb4.mono B3.out.size))
    clear hb4 X3 Y3 B3 c0 c1 c2 c3 d0 d1 d2 d3
    obtain ⟨c0,c1,c2,c3⟩:=box3 X4.out
    obtain ⟨d0,d1,d2,d3⟩:=box3 Y4.out
    go_wp2_with fail
    refine (untie_rng sg mt lp A B n q cp cq most nodes _ (HS.out.keep B4.out) (HM.out.keep B4.out) HNN.out.1 HNN.out.2 HLP.out ha HR.out).mono ?_
    rintro e w5 ⟨rfl,hb5⟩
    have X5:=hide (X4.out.below hb5)
    have Y5:=hide (Y4.out.below hb5)
    have B5:=hide (B4.out.trans (hb5.mono B4.out.size))
    clear hb5 X4 Y4 B4 c0 c1 c2 c3 d0 d1 d2 d3
    obtain ⟨c0,c1,c2,c3⟩:=box3 X5.out
    obtain ⟨d0,d1,d2,d3⟩:=box3 Y5.out
    go_wp2
    go_ret
    exact ⟨rfl,B5.out⟩
  ·skip
   rw [Pl.vb_false ha]
   go_wp2_with fail
   refine (r1valid_any sg' mt' lp' A' B' n' q' cp' cq' _ (HS'.out.keep B2.out) (HM'.out.keep B2.out) HNN'.out.1 HNN'.out.2 HLP'.out).mono ?_
   rintro e w3 ⟨rfl,hb3⟩
   have X3:=hide (X2.out.below hb3)
   have Y3:=hide (Y2.out.below hb3)
   have B3:=hide (B2.out.trans (hb3.mono B2.out.size))
   clear hb3 X2 Y2 B2 c0 c1 c2 c3 d0 d1 d2 d3
   obtain ⟨c0,c1,c2,c3⟩:=box3 X3.out
   obtain ⟨d0,d1,d2,d3⟩:=box3 Y3.out
   by_cases hb:Pl.VL sg' mt' lp'
   ·rw [Pl.vb_true hb]
    go_wp2_with fail
    refine (path_bad sg mt lp A B n q cp cq sg' mt' lp' A' B' n' q' cp' cq' most nodes _ (HS.out.keep B3.out) (HM.out.keep B3.out) HNN.out.1 HNN.out.2 HLP.out (HS'.out.keep B3.out) (HM'.out.keep B3.out) HNN'.out.1 HNN'.out.2 HLP'.out (fun h => ha h.1) ).mono ?_
    rintro e w4 ⟨rfl,hb4⟩
    have X4:=hide (X3.out.below hb4)
    have Y4:=hide (Y3.out.below hb4)
    have B4:=hide (B3.out.trans (hb4.mono B3.out.size))
    clear hb4 X3 Y3 B3 c0 c1 c2 c3 d0 d1 d2 d3
    obtain ⟨c0,c1,c2,c3⟩:=box3 X4.out
    obtain ⟨d0,d1,d2,d3⟩:=box3 Y4.out
    go_wp2_with fail
    refine (untie_bad sg mt lp A B n q cp cq most nodes _ (HS.out.keep B4.out) (HM.out.keep B4.out) HNN.out.1 HNN.out.2 HLP.out ha ).mono ?_
    rintro e w5 ⟨rfl,hb5⟩
    have X5:=hide (X4.out.below hb5)
    have Y5:=hide (Y4.out.below hb5)
    have B5:=hide (B4.out.trans (hb5.mono B4.out.size))
    clear hb5 X4 Y4 B4 c0 c1 c2 c3 d0 d1 d2 d3
    obtain ⟨c0,c1,c2,c3⟩:=box3 X5.out
    obtain ⟨d0,d1,d2,d3⟩:=box3 Y5.out
    go_wp2
    go_ret
    exact ⟨rfl,B5.out⟩
   ·rw [Pl.vb_false hb]
    go_wp2_with fail
    refine (path_bad sg mt lp A B n q cp cq sg' mt' lp' A' B' n' q' cp' cq' most nodes _ (HS.out.keep B3.out) (HM.out.keep B3.out) HNN.out.1 HNN.out.2 HLP.out (HS'.out.keep B3.out) (HM'.out.keep B3.out) HNN'.out.1 HNN'.out.2 HLP'.out (fun h => ha h.1) ).mono ?_
    rintro e w4 ⟨rfl,hb4⟩
    have X4:=hide (X3.out.below hb4)
    have Y4:=hide (Y3.out.below hb4)
    have B4:=hide (B3.out.trans (hb4.mono B3.out.size))
    clear hb4 X3 Y3 B3 c0 c1 c2 c3 d0 d1 d2 d3
    obtain ⟨c0,c1,c2,c3⟩:=box3 X4.out
    obtain ⟨d0,d1,d2,d3⟩:=box3 Y4.out
    go_wp2_with fail
    refine (untie_bad sg mt lp A B n q cp cq most nodes _ (HS.out.keep B4.out) (HM.out.keep B4.out) HNN.out.1 HNN.out.2 HLP.out ha ).mono ?_
    rintro e w5 ⟨rfl,hb5⟩
    have X5:=hide (X4.out.below hb5)
    have Y5:=hide (Y4.out.below hb5)
    have B5:=hide (B4.out.trans (hb5.mono B4.out.size))
    clear hb5 X4 Y4 B4 c0 c1 c2 c3 d0 d1 d2 d3
    obtain ⟨c0,c1,c2,c3⟩:=box3 X5.out
    obtain ⟨d0,d1,d2,d3⟩:=box3 Y5.out
    go_wp2
    go_ret
    exact ⟨rfl,B5.out⟩
 go_wp2_with fail
 refine (r1valid_any sg mt lp A B n q cp cq _ (HS.out.keep B1.out) (HM.out.keep B1.out) HNN.out.1 HNN.out.2 HLP.out).mono ?_
 rintro e w2 ⟨rfl,hb2⟩
 have X2:=hide (X1.out.below hb2)
 have Y2:=hide (Y1.out.below hb2)
 have B2:=hide (B1.out.trans (hb2.mono B1.out.size))
 clear hb2 X1 Y1 B1 c0 c1 c2 c3 d0 d1 d2 d3
 obtain ⟨c0,c1,c2,c3⟩:=box3 X2.out
 obtain ⟨d0,d1,d2,d3⟩:=box3 Y2.out
 by_cases ha:Pl.VL sg mt lp
 ·rw [Pl.vb_true ha]
  by_cases hfa:most < (n:Int)
  ·have HR:=hide (show fitB n most = false ∨ nodes < 1 ∨ 100000 < nodes from .inl (by unfold fitB; simp; omega))
   go_wp2_with fail
   refine (r1valid_any sg' mt' lp' A' B' n' q' cp' cq' _ (HS'.out.keep B2.out) (HM'.out.keep B2.out) HNN'.out.1 HNN'.out.2 HLP'.out).mono ?_
   rintro e w3 ⟨rfl,hb3⟩
   have X3:=hide (X2.out.below hb3)
   have Y3:=hide (Y2.out.below hb3)
   have B3:=hide (B2.out.trans (hb3.mono B2.out.size))
   clear hb3 X2 Y2 B2 c0 c1 c2 c3 d0 d1 d2 d3
   obtain ⟨c0,c1,c2,c3⟩:=box3 X3.out
   obtain ⟨d0,d1,d2,d3⟩:=box3 Y3.out
   by_cases hb:Pl.VL sg' mt' lp'
   ·rw [Pl.vb_true hb]
    go_wp2_with fail
    refine (path_rng sg mt lp A B n q cp cq sg' mt' lp' A' B' n' q' cp' cq' most nodes _ (HS.out.keep B3.out) (HM.out.keep B3.out) HNN.out.1 HNN.out.2 HLP.out (HS'.out.keep B3.out) (HM'.out.keep B3.out) HNN'.out.1 HNN'.out.2 HLP'.out ⟨ha,hb⟩ (by rcases HR.out with h | h | h; exact .inl h; exact .inr (.inr (.inl h)); exact .inr (.inr (.inr h)))).mono ?_
    rintro e w4 ⟨rfl,hb4⟩
    have X4:=hide (X3.out.below hb4)
    have Y4:=hide (Y3.out.below hb4)
    have B4:=hide (B3.out.trans (hb4.mono B3.out.size))
    clear hb4 X3 Y3 B3 c0 c1 c2 c3 d0 d1 d2 d3
    obtain ⟨c0,c1,c2,c3⟩:=box3 X4.out
    obtain ⟨d0,d1,d2,d3⟩:=box3 Y4.out
    go_wp2_with fail
    refine (untie_rng sg mt lp A B n q cp cq most nodes _ (HS.out.keep B4.out) (HM.out.keep B4.out) HNN.out.1 HNN.out.2 HLP.out ha HR.out).mono ?_
    rintro e w5 ⟨rfl,hb5⟩
    have X5:=hide (X4.out.below hb5)
    have Y5:=hide (Y4.out.below hb5)
    have B5:=hide (B4.out.trans (hb5.mono B4.out.size))
    clear hb5 X4 Y4 B4 c0 c1 c2 c3 d0 d1 d2 d3
    obtain ⟨c0,c1,c2,c3⟩:=box3 X5.out
    obtain ⟨d0,d1,d2,d3⟩:=box3 Y5.out
    go_wp2
    go_ret
    exact ⟨rfl,B5.out⟩
   ·rw [Pl.vb_false hb]
    go_wp2_with fail
    refine (path_bad sg mt lp A B n q cp cq sg' mt' lp' A' B' n' q' cp' cq' most nodes _ (HS.out.keep B3.out) (HM.out.keep B3.out) HNN.out.1 HNN.out.2 HLP.out (HS'.out.keep B3.out) (HM'.out.keep B3.out) HNN'.out.1 HNN'.out.2 HLP'.out (fun h => hb h.2) ).mono ?_
    rintro e w4 ⟨rfl,hb4⟩
    have X4:=hide (X3.out.below hb4)
    have Y4:=hide (Y3.out.below hb4)
    have B4:=hide (B3.out.trans (hb4.mono B3.out.size))
    clear hb4 X3 Y3 B3 c0 c1 c2 c3 d0 d1 d2 d3
    obtain ⟨c0,c1,c2,c3⟩:=box3 X4.out
    obtain ⟨d0,d1,d2,d3⟩:=box3 Y4.out
    go_wp2_with fail
    refine (untie_rng sg mt lp A B n q cp cq most nodes _ (HS.out.keep B4.out) (HM.out.keep B4.out) HNN.out.1 HNN.out.2 HLP.out ha HR.out).mono ?_
    rintro e w5 ⟨rfl,hb5⟩
    have X5:=hide (X4.out.below hb5)
    have Y5:=hide (Y4.out.below hb5)
    have B5:=hide (B4.out.trans (hb5.mono B4.out.size))
    clear hb5 X4 Y4 B4 c0 c1 c2 c3 d0 d1 d2 d3
    obtain ⟨c0,c1,c2,c3⟩:=box3 X5.out
    obtain ⟨d0,d1,d2,d3⟩:=box3 Y5.out
    go_wp2
    go_ret
    exact ⟨rfl,B5.out⟩
  ·skip
   go_wp2_with fail
   refine (r1valid_any sg' mt' lp' A' B' n' q' cp' cq' _ (HS'.out.keep B2.out) (HM'.out.keep B2.out) HNN'.out.1 HNN'.out.2 HLP'.out).mono ?_
   rintro e w3 ⟨rfl,hb3⟩
   have X3:=hide (X2.out.below hb3)
   have Y3:=hide (Y2.out.below hb3)
   have B3:=hide (B2.out.trans (hb3.mono B2.out.size))
   clear hb3 X2 Y2 B2 c0 c1 c2 c3 d0 d1 d2 d3
   obtain ⟨c0,c1,c2,c3⟩:=box3 X3.out
   obtain ⟨d0,d1,d2,d3⟩:=box3 Y3.out
   by_cases hb:Pl.VL sg' mt' lp'
   ·rw [Pl.vb_true hb]
    by_cases hfb:most < (n':Int)
    ·skip
     go_wp2
     go_ret
     exact ⟨rfl,B3.out⟩
    ·skip
     go_wp2
     go_ret
     exact ⟨rfl,B3.out⟩
   ·rw [Pl.vb_false hb]
    go_wp2
    go_ret
    exact ⟨rfl,B3.out⟩
 ·skip
  rw [Pl.vb_false ha]
  go_wp2_with fail
  refine (r1valid_any sg' mt' lp' A' B' n' q' cp' cq' _ (HS'.out.keep B2.out) (HM'.out.keep B2.out) HNN'.out.1 HNN'.out.2 HLP'.out).mono ?_
  rintro e w3 ⟨rfl,hb3⟩
  have X3:=hide (X2.out.below hb3)
  have Y3:=hide (Y2.out.below hb3)
  have B3:=hide (B2.out.trans (hb3.mono B2.out.size))
  clear hb3 X2 Y2 B2 c0 c1 c2 c3 d0 d1 d2 d3
  obtain ⟨c0,c1,c2,c3⟩:=box3 X3.out
  obtain ⟨d0,d1,d2,d3⟩:=box3 Y3.out
  by_cases hb:Pl.VL sg' mt' lp'
  ·rw [Pl.vb_true hb]
   go_wp2_with fail
   refine (path_bad sg mt lp A B n q cp cq sg' mt' lp' A' B' n' q' cp' cq' most nodes _ (HS.out.keep B3.out) (HM.out.keep B3.out) HNN.out.1 HNN.out.2 HLP.out (HS'.out.keep B3.out) (HM'.out.keep B3.out) HNN'.out.1 HNN'.out.2 HLP'.out (fun h => ha h.1) ).mono ?_
   rintro e w4 ⟨rfl,hb4⟩
   have X4:=hide (X3.out.below hb4)
   have Y4:=hide (Y3.out.below hb4)
   have B4:=hide (B3.out.trans (hb4.mono B3.out.size))
   clear hb4 X3 Y3 B3 c0 c1 c2 c3 d0 d1 d2 d3
   obtain ⟨c0,c1,c2,c3⟩:=box3 X4.out
   obtain ⟨d0,d1,d2,d3⟩:=box3 Y4.out
   go_wp2_with fail
   refine (untie_bad sg mt lp A B n q cp cq most nodes _ (HS.out.keep B4.out) (HM.out.keep B4.out) HNN.out.1 HNN.out.2 HLP.out ha ).mono ?_
   rintro e w5 ⟨rfl,hb5⟩
   have X5:=hide (X4.out.below hb5)
   have Y5:=hide (Y4.out.below hb5)
   have B5:=hide (B4.out.trans (hb5.mono B4.out.size))
   clear hb5 X4 Y4 B4 c0 c1 c2 c3 d0 d1 d2 d3
   obtain ⟨c0,c1,c2,c3⟩:=box3 X5.out
   obtain ⟨d0,d1,d2,d3⟩:=box3 Y5.out
   go_wp2
   go_ret
   exact ⟨rfl,B5.out⟩
  ·rw [Pl.vb_false hb]
   go_wp2_with fail
   refine (path_bad sg mt lp A B n q cp cq sg' mt' lp' A' B' n' q' cp' cq' most nodes _ (HS.out.keep B3.out) (HM.out.keep B3.out) HNN.out.1 HNN.out.2 HLP.out (HS'.out.keep B3.out) (HM'.out.keep B3.out) HNN'.out.1 HNN'.out.2 HLP'.out (fun h => ha h.1) ).mono ?_
   rintro e w4 ⟨rfl,hb4⟩
   have X4:=hide (X3.out.below hb4)
   have Y4:=hide (Y3.out.below hb4)
   have B4:=hide (B3.out.trans (hb4.mono B3.out.size))
   clear hb4 X3 Y3 B3 c0 c1 c2 c3 d0 d1 d2 d3
   obtain ⟨c0,c1,c2,c3⟩:=box3 X4.out
   obtain ⟨d0,d1,d2,d3⟩:=box3 Y4.out
   go_wp2_with fail
   refine (untie_bad sg mt lp A B n q cp cq most nodes _ (HS.out.keep B4.out) (HM.out.keep B4.out) HNN.out.1 HNN.out.2 HLP.out ha ).mono ?_
   rintro e w5 ⟨rfl,hb5⟩
   have X5:=hide (X4.out.below hb5)
   have Y5:=hide (Y4.out.below hb5)
   have B5:=hide (B4.out.trans (hb5.mono B4.out.size))
   clear hb5 X4 Y4 B4 c0 c1 c2 c3 d0 d1 d2 d3
   obtain ⟨c0,c1,c2,c3⟩:=box3 X5.out
   obtain ⟨d0,d1,d2,d3⟩:=box3 Y5.out
   go_wp2
   go_ret
   exact ⟨rfl,B5.out⟩
end Go.Proofs.YtghdiolnonejaaaGreatDoor
end
