/-
 The texts Jp.
-/
import Derived.Test.YtghdiolnonejaaaGreatDoorS00
import Derived.Test.YtghdiolnonejaaaGreatDoorS02
import Derived.Test.YtghdiolnonejaaaGreatDoorS03
import Derived.Test.YtghdiolnonejaaaGreatDoorS04
import Derived.Test.YtghdiolnonejaaaGreatDoorS07
import Derived.Test.YtghdiolnonejaaaGreatDoorU00
import Derived.Test.YtghdiolnonejaaaGreatDoorU06
import Derived.Test.YtghdiolnonejaaaGreatDoorU12
import Derived.Test.YtghdiolnonejaaaGreatDoorU14
import Derived.Test.YtghdiolnonejaaaGreatDoorU17
import Derived.Test.YtghdiolnonejaaaGreatDoorU20
import Derived.Test.YtghdiolnonejaaaGreatDoorU29
import Derived.Test.YtghdiolnonejaaaGreatDoorU30
import Derived.Test.YtghdiolnonejaaaGreatDoorU32
import Derived.Test.YtghdiolnonejaaaGreatDoorU36
import Derived.Test.YtghdiolnonejaaaGreatDoorU37
import Derived.BigQuiet
import Derived.Deep.AppendLies
import Derived.Deep.CutBlock
import Derived.Deep.CutRange
import Derived.Deep.DeepCutAuto
import Derived.Deep.DrawnRows
import Derived.Deep.Light
import Derived.Deep.LoopGhost
import Derived.Deep.QuietTactic
import Derived.Deep.RegionHeld3
import Derived.Deep.RegionLaw
import Derived.Deep.RegionWith
import Derived.Laws.AppendOwn
import Derived.Laws.MakeOwn
import Derived.Laws.OwnMore
import Derived.Laws.Rows
import Derived.Laws.Slices
import Derived.Lib.ItoaLen
import Derived.Lib.ItoaNum
import Derived.Lib.SmallJoins
import Derived.Maps.AppendAt
import Derived.Maps.OwnSet
import Derived.Outline
import Derived.RegionTactic
import Derived.Shelf.Spec.SlicesGrow
import Derived.StillTailTactics
import Derived.StringKeys
import Derived.Test.YtghdiolnonejaaaGreatDoorRows
import Derived.Test.YtghdiolnonejaaaGreatDoorShelf
import Derived.WalkKit
import Derived.WalkLawsBesides
import Derived.WalkMore
import Derived.WalkSpells
set_option linter.unusedVariables false
set_option linter.unusedSimpArgs false
section
namespace Go.Proofs.YtghdiolnonejaaaGreatDoor
open Go Go.RowKit
attribute [local go_sem ↓] Go.wp_at_zero Go.wp_at_succ
theorem ex_lone:EX 1 lone := by
 refine ⟨lone_valid,by decide,fun A B n cp cq m lp W hn hm hl hg => ?_,fun k x y s o hz A B n cp cq m lp W hn hm hl hg => ?_,fun z hz => ?_⟩
 ·subst hn hl
  refine (steps_lt lone lone_valid A B cp cq m 1 W hm hg (by decide)).mono ?_
  rintro e w' ⟨v,h1,h2,h3⟩
  exact ⟨v,h1,by
   have e9:stL lone 1 = keepZ lone.n 1 (allL lone):=by unfold stL; rw [if_pos (by decide)]
   rw [e9]
   exact h2.at,h3⟩
 ·rw [lone_st] at hz
  have hc:=(lone_v hz).1
  obtain ⟨rfl,rfl,rfl,hs⟩:k = 1 ∧ x = -1 ∧ y = 0 ∧ (s = 1 ∨ s = -1) := by
   simp only [cuN,List.mem_cons,List.not_mem_nil,or_false,Mv.mk.injEq] at hz
   rcases hz with h | h | h | h
   ·exact ⟨h.1,h.2.1,h.2.2.1,.inr h.2.2.2.1⟩
   ·exact ⟨h.1,h.2.1,h.2.2.1,.inr h.2.2.2.1⟩
   ·exact ⟨h.1,h.2.1,h.2.2.1,.inl h.2.2.2.1⟩
   ·exact ⟨h.1,h.2.1,h.2.2.1,.inl h.2.2.2.1⟩
  subst hn hl
  refine (apply_1 lone lone_valid A B cp cq m (-1) 0 s o W hm hg (by unfold inR; simp; rcases hs with rfl | rfl <;> decide)).mono ?_
  rintro e w' ⟨_,h2,h3⟩
  obtain ⟨A8,B8,b8,b9,k9,x9,y9,s9,o9,_,he,hT⟩:=(h2 (by
   have:=hc
   rw [cu_code (by decide) hs] at this
   exact this)).split
  exact ⟨A8,B8,b8,b9,k9,x9,y9,s9,o9,he,hT,h3⟩
 ·rw [lone_st] at hz
  obtain ⟨_,h1,h2⟩:=lone_v hz
  exact ⟨h1,by rw [h2]; omega⟩
theorem ball_lone (A B:Option Addr) (cp cq:Nat) (w:World) (hg:DgAt w A B lone) (ht:GT w) :
 Calls Tryz.prog 31 #[.agg #[.slice A 0 cp,.slice B 0 cq,.int .i64 1],.int .i64 1,.int .i64 1] w fun e w' => ∃ (a:Option Addr) (c:Nat),e = .returned (.tuple #[.slice a 3 c,.int .i64 0]) ∧ Below w.heap.size w w' := by
 refine (ball_any lone lone_valid (by decide) 1 1 (by decide) (by decide) (by decide) A B 0 cp cq 0 1 w rfl rfl rfl hg ht (fun r i l ks x hr hb hx hs => ?_) (fun r i l ks x j l' ks' hr hb hx hs h => ?_)).mono ?_
 ·have e:=fmo_lone hr
  subst e
  rcases bo_lone hb with ⟨rfl,rfl,_⟩ | ⟨rfl,t,rfl,ht2,h4⟩
  ·injection hx with hx
   subst hx
   exact ex_lone
  ·match t,ht2,h4,hx with
   | [a, b], _, h4, hx =>
     injection hx with hx
     subst hx
     have:=h4 a (by simp)
     omega
 ·have e:=fmo_lone hr
  subst e
  rcases bo_lone hb with ⟨rfl,rfl,rfl⟩ | ⟨rfl,t,rfl,ht2,h4⟩
  ·injection hx with hx
   subst hx
   change BR 0 (nd0 lone) (stL lone 1) [nd0 lone] [keyD lone] j l' ks' at h
   show l'.length ≤ 300 ∧ (stL lone 1).length ≤ 100000
   rw [lone_st] at h ⊢
   obtain ⟨h1,⟨t,h2,h3,_⟩,_⟩:=br_lone h
   refine ⟨?_,by decide⟩
   rw [h2,List.length_cons,h3]
   omega
  ·match t,ht2,h4,hx with
   | [a, b], _, h4, hx =>
     injection hx with hx
     subst hx
     have:=h4 a (by simp)
     omega
 ·rintro e w' ⟨r,i,l,ks,a,c,hr,hb,hE,rfl,hbl⟩
  have e:=fmo_lone hr
  subst e
  rcases bo_lone hb with ⟨rfl,rfl,rfl⟩ | ⟨rfl,t,rfl,ht2,h4⟩
  ·have:=hE (nd0 lone) rfl
   exact absurd this (by decide)
  ·refine ⟨a,c,?_,hbl⟩
   rw [List.length_cons,ht2]
set_option maxRecDepth 100000 in
set_option maxHeartbeats 4000000 in
theorem awake48 (w:World) (ht:GT w):Calls Tryz.prog 16 #[] w fun e w' => e = .returned (.bool true) ∧ Below w.heap.size w w' := by
 have HT:=hide ht
 clear ht
 go_enter Tryz.func16,Tryz.ntmps16
 go_wp2_with fail
 refine (ball_lone none none 0 0 w (none_at _ 1) HT.out).mono ?_
 rintro e w1 ⟨a,c,rfl,hb1⟩
 have B1:=hide hb1
 clear hb1
 go_upto_region 3 with fail
 obtain ⟨W1,hW1⟩:∃ W:World,W = ((w1.alloc (.cells #[.int .i64 1] 3)).alloc (.cells #[.int .i64 1,.int .i64 0,.int .i64 3,.int .i64 2] 3)).alloc (.cells #[.slice (some ⟨w1.heap.size,0,none⟩) 1 1,.slice (some ⟨w1.heap.size + 1,0,none⟩) 4 4,.int .i64 0] 24) := ⟨_,rfl⟩
 have I1:=hide (show IRow W1 w1.heap.size [1] by rw [hW1]; exact ((row_at (vs := [.int .i64 1]) rfl).alloc _).alloc _)
 have I2:=hide (show IRow W1 (w1.heap.size + 1) [1,0,3,2] by rw [hW1]; exact (row_at (vs := [.int .i64 1,.int .i64 0,.int .i64 3,.int .i64 2]) (by simp)).alloc _)
 have R1:=hide (show Row W1 (w1.heap.size + 1 + 1) 24 [.slice (some ⟨w1.heap.size,0,none⟩) 1 1,.slice (some ⟨w1.heap.size + 1,0,none⟩) 4 4,.int .i64 0] by rw [hW1]; exact row_at (vs := [_,_,_]) (by simp))
 have b1:Below w1.heap.size w1 W1:=by rw [hW1]; exact (((Below.refl _ _).alloc (Nat.le_refl _) _).alloc (by simp) _).alloc (by simp; omega) _
 have B2:=hide (B1.out.trans (b1.mono B1.out.size))
 have D1:=hide (show DgAt W1 (some ⟨w1.heap.size,0,none⟩) (some ⟨w1.heap.size + 1,0,none⟩) kink from ⟨I1.out.ints,I2.out.ints⟩)
 rw [← hW1]
 clear hW1 b1 B1 I1 I2
 obtain ⟨d0,d1,d2,d3⟩:=box3 R1.out
 go_wp2_with fail
 refine (untie_kink _ _ 1 4 _ D1.out).mono ?_
 rintro e w3 ⟨AL,cL,rfl,hv,hb3⟩
 have B3:=hide (B2.out.trans (hb3.mono B2.out.size))
 obtain ⟨A5,c5,he5,hV⟩:=hv.mv
 injection he5 with e1 e2 e3
 subst e1
 subst e3
 obtain ⟨g8,zk,zx,zy,zs,zo,rfl,hgl,hz,c0,c1,c2,c3,c4⟩:=hV.at_ (j := 0) (by decide)
 obtain ⟨rfl,rfl,rfl,rfl,rfl⟩:(2:Int) = zk ∧ (0:Int) = zx ∧ (0:Int) = zy ∧ (0:Int) = zs ∧ false = zo := by simpa using hz
 simp only [Nat.zero_mul,Nat.zero_add] at c0 c1 c2 c3 c4
 clear hv hV hb3 B2 D1 R1 d0 d1 d2 d3 e2 hz
 go_wp2
 go_ret
 exact ⟨rfl,B3.out⟩
end Go.Proofs.YtghdiolnonejaaaGreatDoor
end
