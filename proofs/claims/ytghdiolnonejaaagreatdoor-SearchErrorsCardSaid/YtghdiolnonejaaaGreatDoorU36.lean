/-
 The texts Jo.
-/
import Derived.Test.YtghdiolnonejaaaGreatDoorS00
import Derived.Test.YtghdiolnonejaaaGreatDoorS01
import Derived.Test.YtghdiolnonejaaaGreatDoorS02
import Derived.Test.YtghdiolnonejaaaGreatDoorS03
import Derived.Test.YtghdiolnonejaaaGreatDoorS04
import Derived.Test.YtghdiolnonejaaaGreatDoorS07
import Derived.Test.YtghdiolnonejaaaGreatDoorU00
import Derived.Test.YtghdiolnonejaaaGreatDoorU06
import Derived.Test.YtghdiolnonejaaaGreatDoorU12
import Derived.Test.YtghdiolnonejaaaGreatDoorU15
import Derived.Test.YtghdiolnonejaaaGreatDoorU17
import Derived.Test.YtghdiolnonejaaaGreatDoorU31
import Derived.Test.YtghdiolnonejaaaGreatDoorU32
import Derived.Test.YtghdiolnonejaaaGreatDoorU33
import Derived.BigQuiet
import Derived.Deep.AppendLies
import Derived.Deep.CutBlock
import Derived.Deep.CutRange
import Derived.Deep.DeepCutAuto
import Derived.Deep.DrawnRows
import Derived.Deep.Light
import Derived.Deep.LoopGhost
import Derived.Deep.QuietTactic
import Derived.Deep.RegionHeld3
import Derived.Deep.RegionLaw
import Derived.Deep.RegionWith
import Derived.Laws.AppendOwn
import Derived.Laws.MakeOwn
import Derived.Laws.OwnMore
import Derived.Laws.Rows
import Derived.Laws.Slices
import Derived.Lib.ItoaLen
import Derived.Lib.ItoaNum
import Derived.Lib.SmallJoins
import Derived.Maps.AppendAt
import Derived.Maps.OwnSet
import Derived.Outline
import Derived.RegionTactic
import Derived.Shelf.Spec.SlicesGrow
import Derived.StillTailTactics
import Derived.StringKeys
import Derived.Test.YtghdiolnonejaaaGreatDoorRows
import Derived.Test.YtghdiolnonejaaaGreatDoorShelf
import Derived.WalkKit
import Derived.WalkLawsBesides
import Derived.WalkMore
import Derived.WalkSpells
set_option linter.unusedVariables false
set_option linter.unusedSimpArgs false
section
namespace Go.Proofs.YtghdiolnonejaaaGreatDoor
open Go Go.RowKit
attribute [local go_sem ↓] Go.wp_at_zero Go.wp_at_succ
def fitB (n:Nat) (most:Int):Bool := decide (0 ≤ most) && decide (most ≤ 64) && decide ((n:Int) ≤ most)
set_option maxRecDepth 100000 in
set_option maxHeartbeats 2000000 in
theorem fits_any (A B:Option Addr) (n q cp cq:Nat) (lp most:Int) (w:World):Calls Tryz.prog 35 #[.agg #[.slice A n cp,.slice B q cq,.int .i64 lp],.int .i64 most] w fun e w' => e = .returned (.bool (fitB n most)) ∧ Below w.heap.size w w' := by
 have X0:=hide (row_at (W := w) (g := w.heap.size) (t := 24) (vs := [.slice A n cp,.slice B q cq,.int .i64 lp]) rfl)
 have B0:=hide (show Below w.heap.size w (w.alloc (.cells #[.slice A n cp,.slice B q cq,.int .i64 lp] 24)) from (Below.refl _ _).alloc (Nat.le_refl _) _)
 by_cases h1:0 ≤ most
 ·by_cases h2:most ≤ 64
  ·go_enter Tryz.func35,Tryz.ntmps35
   go_wp2
   go_ret
   exact ⟨by unfold fitB; simp [h1,h2],B0.out⟩
  ·go_enter Tryz.func35,Tryz.ntmps35
   go_wp2
   go_ret
   exact ⟨by unfold fitB; simp [h1]; omega,B0.out⟩
 ·go_enter Tryz.func35,Tryz.ntmps35
  go_wp2
  go_ret
  exact ⟨by unfold fitB; simp; omega,B0.out⟩
def Refuse (c:Int) (w:World) (e:Ending) (w':World):Prop := e = .returned (.tuple #[.slice none 0 0,.bool false,.int .i64 c]) ∧ Below w.heap.size w w'
section
variable (sg mt:List Int) (lp:Int) (A B:Option Addr) (n q cp cq:Nat) (most nodes:Int) (w:World) (hs:IntsAt w A n sg) (hm:IntsAt w B q mt) (hn:n ≤ maxLen) (hq:q ≤ maxLen) (hlp:-9223372036854775808 ≤ lp ∧ lp ≤ 9223372036854775807)
set_option maxRecDepth 100000 in
set_option maxHeartbeats 2000000 in
include hs hm hn hq hlp in
theorem untie_bad (hv:¬ Pl.VL sg mt lp):Calls Tryz.prog 19 #[.agg #[.slice A n cp,.slice B q cq,.int .i64 lp],.int .i64 most,.int .i64 nodes] w (Refuse 1 w) := by
 have HS:=hide hs
 have HM:=hide hm
 have B0:=hide (show Below w.heap.size w (w.alloc (.cells #[.slice A n cp,.slice B q cq,.int .i64 lp] 24)) from (Below.refl _ _).alloc (Nat.le_refl _) _)
 go_enter Tryz.func19,Tryz.ntmps19
 go_wp2_with fail
 refine (valid_any sg mt lp A B n q cp cq _ (HS.out.keep B0.out) (HM.out.keep B0.out) hn hq hlp).mono ?_
 rintro e w1 ⟨rfl,hb1⟩
 rw [Pl.vb_false hv]
 have B1:=hide (B0.out.trans (hb1.mono B0.out.size))
 clear hb1 B0
 go_wp2
 go_ret3
 exact ⟨rfl,B1.out⟩
set_option maxRecDepth 100000 in
set_option maxHeartbeats 4000000 in
include hs hm hn hq hlp in
theorem untie_rng (hv:Pl.VL sg mt lp) (hr:fitB n most = false ∨ nodes < 1 ∨ 100000 < nodes):Calls Tryz.prog 19 #[.agg #[.slice A n cp,.slice B q cq,.int .i64 lp],.int .i64 most,.int .i64 nodes] w (Refuse 2 w) := by
 have HS:=hide hs
 have HM:=hide hm
 have X0:=hide (row_at (W := w) (g := w.heap.size) (t := 24) (vs := [.slice A n cp,.slice B q cq,.int .i64 lp]) rfl)
 have B0:=hide (show Below w.heap.size w (w.alloc (.cells #[.slice A n cp,.slice B q cq,.int .i64 lp] 24)) from (Below.refl _ _).alloc (Nat.le_refl _) _)
 go_enter Tryz.func19,Tryz.ntmps19
 go_wp2_with fail
 refine (valid_any sg mt lp A B n q cp cq _ (HS.out.keep B0.out) (HM.out.keep B0.out) hn hq hlp).mono ?_
 rintro e w1 ⟨rfl,hb1⟩
 rw [Pl.vb_true hv]
 have B1:=hide (B0.out.trans (hb1.mono B0.out.size))
 have X1:=hide (X0.out.below hb1)
 clear hb1 B0 X0
 obtain ⟨d0,d1,d2,d3⟩:=box3 X1.out
 go_wp2_with fail
 refine (fits_any A B n q cp cq lp most _).mono ?_
 rintro e w2 ⟨rfl,hb2⟩
 have B2:=hide (B1.out.trans (hb2.mono B1.out.size))
 clear hb2 B1 X1 d0 d1 d2 d3
 by_cases h1:fitB n most = false
 ·rw [h1]
  go_wp2
  go_ret3
  exact ⟨rfl,B2.out⟩
 ·rw [show fitB n most = true by simpa using h1]
  by_cases h2:nodes < 1
  ·go_wp2
   go_ret3
   exact ⟨rfl,B2.out⟩
  ·have h3 : 100000 < nodes := by
    rcases hr with h | h | h
    ·exact absurd h h1
    ·exact absurd h h2
    ·exact h
   go_wp2
   go_ret3
   exact ⟨rfl,B2.out⟩
end
section
variable (sg mt:List Int) (lp:Int) (A B:Option Addr) (n q cp cq:Nat) (sg' mt':List Int) (lp':Int) (A' B':Option Addr) (n' q' cp' cq':Nat) (most nodes:Int) (w:World)
 (hs:IntsAt w A n sg) (hm:IntsAt w B q mt) (hn:n ≤ maxLen) (hq:q ≤ maxLen) (hlp:-9223372036854775808 ≤ lp ∧ lp ≤ 9223372036854775807)
 (hs':IntsAt w A' n' sg') (hm':IntsAt w B' q' mt') (hn':n' ≤ maxLen) (hq':q' ≤ maxLen) (hlp':-9223372036854775808 ≤ lp' ∧ lp' ≤ 9223372036854775807)
set_option maxRecDepth 100000 in
set_option maxHeartbeats 4000000 in
include hs hm hn hq hlp hs' hm' hn' hq' hlp' in
theorem path_bad (hv:¬ (Pl.VL sg mt lp ∧ Pl.VL sg' mt' lp')):Calls Tryz.prog 18 #[.agg #[.slice A n cp,.slice B q cq,.int .i64 lp],.agg #[.slice A' n' cp',.slice B' q' cq',.int .i64 lp'],.int .i64 most,.int .i64 nodes] w (Refuse 1 w) := by
 have HS:=hide hs
 have HM:=hide hm
 have HS':=hide hs'
 have HM':=hide hm'
 have Y0:=hide (show Row ((w.alloc (.cells #[.slice A n cp,.slice B q cq,.int .i64 lp] 24)).alloc (.cells #[.slice A' n' cp',.slice B' q' cq',.int .i64 lp'] 24)) (w.heap.size + 1) 24 [.slice A' n' cp',.slice B' q' cq',.int .i64 lp'] from row_at (vs := [_,_,_]) (by simp))
 have B0:=hide (show Below w.heap.size w ((w.alloc (.cells #[.slice A n cp,.slice B q cq,.int .i64 lp] 24)).alloc (.cells #[.slice A' n' cp',.slice B' q' cq',.int .i64 lp'] 24)) from ((Below.refl _ _).alloc (Nat.le_refl _) _).alloc (by simp) _)
 go_enter Tryz.func18,Tryz.ntmps18
 go_wp2_with fail
 refine (valid_any sg mt lp A B n q cp cq _ (HS.out.keep B0.out) (HM.out.keep B0.out) hn hq hlp).mono ?_
 rintro e w1 ⟨rfl,hb1⟩
 have B1:=hide (B0.out.trans (hb1.mono B0.out.size))
 have Y1:=hide (Y0.out.below hb1)
 clear hb1 B0 Y0
 by_cases h1:Pl.VL sg mt lp
 ·rw [Pl.vb_true h1]
  obtain ⟨d0,d1,d2,d3⟩:=box3 Y1.out
  go_wp2_with fail
  refine (valid_any sg' mt' lp' A' B' n' q' cp' cq' _ (HS'.out.keep B1.out) (HM'.out.keep B1.out) hn' hq' hlp').mono ?_
  rintro e w2 ⟨rfl,hb2⟩
  have B2:=hide (B1.out.trans (hb2.mono B1.out.size))
  rw [Pl.vb_false (fun h => hv ⟨h1,h⟩)]
  clear hb2 B1 Y1 d0 d1 d2 d3
  go_wp2
  go_ret3
  exact ⟨rfl,B2.out⟩
 ·rw [Pl.vb_false h1]
  go_wp2
  go_ret3
  exact ⟨rfl,B1.out⟩
set_option maxRecDepth 100000 in
set_option maxHeartbeats 4000000 in
include hs hm hn hq hlp hs' hm' hn' hq' hlp' in
theorem path_rng (hv:Pl.VL sg mt lp ∧ Pl.VL sg' mt' lp') (hr:fitB n most = false ∨ fitB n' most = false ∨ nodes < 1 ∨ 100000 < nodes):Calls Tryz.prog 18 #[.agg #[.slice A n cp,.slice B q cq,.int .i64 lp],.agg #[.slice A' n' cp',.slice B' q' cq',.int .i64 lp'],.int .i64 most,.int .i64 nodes] w (Refuse 2 w) := by
 have HS:=hide hs
 have HM:=hide hm
 have HS':=hide hs'
 have HM':=hide hm'
 have X0:=hide (show Row ((w.alloc (.cells #[.slice A n cp,.slice B q cq,.int .i64 lp] 24)).alloc (.cells #[.slice A' n' cp',.slice B' q' cq',.int .i64 lp'] 24)) w.heap.size 24 [.slice A n cp,.slice B q cq,.int .i64 lp] from (row_at (vs := [_,_,_]) rfl).alloc _)
 have Y0:=hide (show Row ((w.alloc (.cells #[.slice A n cp,.slice B q cq,.int .i64 lp] 24)).alloc (.cells #[.slice A' n' cp',.slice B' q' cq',.int .i64 lp'] 24)) (w.heap.size + 1) 24 [.slice A' n' cp',.slice B' q' cq',.int .i64 lp'] from row_at (vs := [_,_,_]) (by simp))
 have B0:=hide (show Below w.heap.size w ((w.alloc (.cells #[.slice A n cp,.slice B q cq,.int .i64 lp] 24)).alloc (.cells #[.slice A' n' cp',.slice B' q' cq',.int .i64 lp'] 24)) from ((Below.refl _ _).alloc (Nat.le_refl _) _).alloc (by simp) _)
 go_enter Tryz.func18,Tryz.ntmps18
 go_wp2_with fail
 refine (valid_any sg mt lp A B n q cp cq _ (HS.out.keep B0.out) (HM.out.keep B0.out) hn hq hlp).mono ?_
 rintro e w1 ⟨rfl,hb1⟩
 have B1:=hide (B0.out.trans (hb1.mono B0.out.size))
 have X1:=hide (X0.out.below hb1)
 have Y1:=hide (Y0.out.below hb1)
 clear hb1 B0 Y0 X0
 rw [Pl.vb_true hv.1]
 obtain ⟨d0,d1,d2,d3⟩:=box3 Y1.out
 go_wp2_with fail
 refine (valid_any sg' mt' lp' A' B' n' q' cp' cq' _ (HS'.out.keep B1.out) (HM'.out.keep B1.out) hn' hq' hlp').mono ?_
 rintro e w2 ⟨rfl,hb2⟩
 have B2:=hide (B1.out.trans (hb2.mono B1.out.size))
 have X2:=hide (X1.out.below hb2)
 have Y2:=hide (Y1.out.below hb2)
 rw [Pl.vb_true hv.2]
 clear hb2 B1 Y1 X1 d0 d1 d2 d3
 obtain ⟨d0,d1,d2,d3⟩:=box3 X2.out
 go_wp2_with fail
 refine (fits_any A B n q cp cq lp most _).mono ?_
 rintro e w3 ⟨rfl,hb3⟩
 have B3:=hide (B2.out.trans (hb3.mono B2.out.size))
 have Y3:=hide (Y2.out.below hb3)
 clear hb3 B2 Y2 X2 d0 d1 d2 d3
 by_cases h1:fitB n most = false
 ·rw [h1]
  go_wp2
  go_ret3
  exact ⟨rfl,B3.out⟩
 ·rw [show fitB n most = true by simpa using h1]
  obtain ⟨d0,d1,d2,d3⟩:=box3 Y3.out
  go_wp2_with fail
  refine (fits_any A' B' n' q' cp' cq' lp' most _).mono ?_
  rintro e w4 ⟨rfl,hb4⟩
  have B4:=hide (B3.out.trans (hb4.mono B3.out.size))
  clear hb4 B3 Y3 d0 d1 d2 d3
  by_cases h2:fitB n' most = false
  ·rw [h2]
   go_wp2
   go_ret3
   exact ⟨rfl,B4.out⟩
  ·rw [show fitB n' most = true by simpa using h2]
   by_cases h3:nodes < 1
   ·go_wp2
    go_ret3
    exact ⟨rfl,B4.out⟩
   ·have h4 : 100000 < nodes := by
     rcases hr with h | h | h | h
     ·exact absurd h h1
     ·exact absurd h h2
     ·exact absurd h h3
     ·exact h
    go_wp2
    go_ret3
    exact ⟨rfl,B4.out⟩
end
def kink:Pl.Dg := ⟨[1],[1,0,3,2],0⟩
theorem kink_is:∃ o,apD lone ⟨1,-1,0,1,o⟩ = kink := by
 first | exact ⟨false,by decide⟩ | exact ⟨true,by decide⟩
theorem knk_okV:Pl.Valid kink := by
 obtain ⟨o,h⟩:=kink_is
 rw [← h]
 exact (ap_ok lone_valid (lone_c 1 o (.inl rfl))).1
theorem kink_rem:remL kink = [⟨2,0,0,0,false⟩] := by
 unfold remL
 show sel kink [⟨2,(0:Nat),0,0,false⟩] ++ sel kink [] = _
 rw [sel_cons,sel_nil,un_code (d := kink) (c := 0) (by decide),one_yes (show uncC kink 0 = 0 by decide)]
 rfl
theorem kink_dn:dnD kink = lone ∧ dnM kink = [⟨2,0,0,0,false⟩] := by
 obtain ⟨h1,h2⟩:=dn_next knk_okV kink_rem
 have e:apD kink ⟨2,0,0,0,false⟩ = lone:=by decide
 obtain ⟨h3,h4⟩:=dn_stop (d := lone) (rem_flat rfl)
 rw [h1,h2,e,h3,h4]
 exact ⟨rfl,rfl⟩
set_option maxRecDepth 100000 in
set_option maxHeartbeats 2000000 in
theorem untie_kink (A B:Option Addr) (cp cq:Nat) (w:World) (hg:DgAt w A B kink) :
 Calls Tryz.prog 19 #[.agg #[.slice A 1 cp,.slice B 4 cq,.int .i64 0],.int .i64 1,.int .i64 10] w fun e w' => ∃ (AL:Option Addr) (cL:Nat),e = .returned (.tuple #[.slice AL 1 cL,.bool true,.int .i64 0]) ∧ MovesAt w' (.slice AL 1 cL) [⟨2,0,0,0,false⟩] ∧ Below w.heap.size w w' := by
 have HG:=hide hg
 have X0:=hide (row_at (W := w) (g := w.heap.size) (t := 24) (vs := [.slice A 1 cp,.slice B 4 cq,.int .i64 0]) rfl)
 have B0:=hide (show Below w.heap.size w (w.alloc (.cells #[.slice A 1 cp,.slice B 4 cq,.int .i64 0] 24)) from (Below.refl _ _).alloc (Nat.le_refl _) _)
 clear hg
 go_enter Tryz.func19,Tryz.ntmps19
 go_wp2_with fail
 refine (valid_yes kink knk_okV A B cp cq 4 _ rfl (HG.out.keep B0.out)).mono ?_
 rintro e w1 ⟨rfl,hb1⟩
 have B1:=hide (B0.out.trans (hb1.mono B0.out.size))
 have X1:=hide (X0.out.below hb1)
 clear hb1 B0 X0
 obtain ⟨d0,d1,d2,d3⟩:=box3 X1.out
 go_wp2_with fail
 refine (fits_any A B 1 4 cp cq 0 1 _).mono ?_
 rintro e w2 ⟨he,hb2⟩
 rw [show fitB 1 1 = true by decide] at he
 subst he
 have B2:=hide (B1.out.trans (hb2.mono B1.out.size))
 have X2:=hide (X1.out.below hb2)
 clear hb2 B1 X1 d0 d1 d2 d3
 obtain ⟨d0,d1,d2,d3⟩:=box3 X2.out
 go_wp2_with fail
 refine (down_e kink knk_okV A B 1 cp cq 4 0 _ rfl rfl rfl (HG.out.keep B2.out) lone [⟨2,0,0,0,false⟩] 0 0 1 1 kink_dn.1 kink_dn.2 rfl rfl rfl rfl).mono ?_
 rintro e w3 ⟨A9,B9,AL,c8,c9,cL,rfl,hD,hv,hb3⟩
 have B3:=hide (B2.out.trans (hb3.mono B2.out.size))
 have MV:=hide hv
 clear hb3 hv hD B2 X2 d0 d1 d2 d3
 go_wp2
 go_ret3
 exact ⟨AL,cL,rfl,MV.out.kp (.of_below ((Below.refl _ _).alloc (Nat.le_refl _) _)),B3.out.alloc B3.out.size _⟩
end Go.Proofs.YtghdiolnonejaaaGreatDoor
end
