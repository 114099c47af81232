/-
 The texts Lg.
-/
import Derived.Test.YtghdiolnonejaaaGreatDoorS00
import Derived.Test.YtghdiolnonejaaaGreatDoorS01
import Derived.Test.YtghdiolnonejaaaGreatDoorS02
import Derived.Test.YtghdiolnonejaaaGreatDoorS03
import Derived.Test.YtghdiolnonejaaaGreatDoorS12
import Derived.Test.YtghdiolnonejaaaGreatDoorU07
import Derived.BigQuiet
import Derived.Deep.AppendLies
import Derived.Deep.DrawnRows
import Derived.Deep.Light
import Derived.Deep.LoopGhost
import Derived.Deep.QuietTactic
import Derived.Deep.RegionHeld3
import Derived.Deep.RegionLaw
import Derived.Deep.RegionWith
import Derived.Laws.AppendOwn
import Derived.Laws.MakeOwn
import Derived.Laws.OwnMore
import Derived.Laws.Rows
import Derived.Maps.AppendAt
import Derived.Shelf.Spec.SlicesGrow
import Derived.StillTailTactics
import Derived.Test.YtghdiolnonejaaaGreatDoorRows
import Derived.Test.YtghdiolnonejaaaGreatDoorShelf
import Derived.WalkKit
import Derived.WalkLawsBesides
import Derived.WalkSpells
set_option linter.unusedVariables false
set_option linter.unusedSimpArgs false
section
namespace Go.Proofs.YtghdiolnonejaaaGreatDoor
open Go Go.RowKit
theorem r1turn3 (h:Nat) (w:World) (hh:h ≤ 1000000) :
 Calls Tryz.prog 101 #[.int .i64 (h:Int),.int .i64 (-1)] w fun e w' => e = .returned (.int .i64 (Pl.tn h 3:Nat)) ∧ w' = w := by
 have t1:decide ((h:Int) < 0) = false:=by simp
 have h4:h % 4 = 0 ∨ h % 4 = 1 ∨ h % 4 = 2 ∨ h % 4 = 3:=by omega
 go_enter Tryz.func101,Tryz.ntmps101
 go_wp2
 go_ret
 refine ⟨ret_int ?_,rfl⟩
 rcases h4 with h4 | h4 | h4 | h4
 ·have e:(h:Int) % 4 = 0:=by omega
  rw [e,show (wrap64 (((0:Int) + -1).tmod 4 + 4)).tmod 4 = 3 by simp [wrap64]]
  unfold Pl.tn wrap64; omega
 ·have e:(h:Int) % 4 = 1:=by omega
  rw [e,show (wrap64 (((1:Int) + -1).tmod 4 + 4)).tmod 4 = 0 by simp [wrap64]]
  unfold Pl.tn wrap64; omega
 ·have e:(h:Int) % 4 = 2:=by omega
  rw [e,show (wrap64 (((2:Int) + -1).tmod 4 + 4)).tmod 4 = 1 by simp [wrap64]]
  unfold Pl.tn wrap64; omega
 ·have e:(h:Int) % 4 = 3:=by omega
  rw [e,show (wrap64 (((3:Int) + -1).tmod 4 + 4)).tmod 4 = 2 by simp [wrap64]]
  unfold Pl.tn wrap64; omega
set_option maxRecDepth 100000 in
set_option maxHeartbeats 2000000 in
theorem r1face_any (d:Pl.Dg) (hd:Pl.Wf d) (B:Option Addr) (cq m:Nat) (h p:Nat) (w:World) (hm:m = 4 * d.n) (hb:IntsAt w B m (nats d.mt)) (hh:h < 4 * d.n) (hp:Pl.Per (Pl.nx d) h p) (hpN:p ≤ 4 * d.n) :
 Calls Tryz.prog 65 #[.slice B m cq,.int .i64 (h:Int)] w (fun e w' => ∃ (A5:Option Addr) (c5:Nat),e = .returned (.slice A5 p c5) ∧ w'.ownsRow w.heap.size 3 1 (.slice A5 p c5) p ((Pl.cyc (Pl.nx d) h p).map (fun k:Nat => Value.int .i64 k)) ∧ Below w.heap.size w w') := by
 have hn:=hd.few
 have HD:=hide hd
 have HP:=hide hp
 have HM:=hide hm
 have HB:=hide hb
 have hp0:=hp.1
 have HPN:=hide hpN
 have hp4:p ≤ 256:=by omega
 have hm4:m ≤ 256:=by omega
 have hpm:p ≤ m:=by omega
 clear hp hm hb hd hpN
 obtain ⟨W1,hW1⟩:∃ W1:World,W1 = w.alloc (.cells #[.int .i64 (h:Int)] 3) := ⟨_,rfl⟩
 have B1:=hide (show Below w.heap.size w W1 by rw [hW1]; exact (Below.refl _ _).alloc (Nat.le_refl _) _)
 have O1:=hide (show W1.ownsRow w.heap.size 3 1 (.slice (some ⟨w.heap.size,0,none⟩) 1 1) 1 [.int .i64 (h:Int)] by
  rw [hW1]
  have:=own_one w (.int .i64 (h:Int))
  simpa using this)
 have lth:=HD.out.lt h hh
 obtain ⟨mb,mo,rfl,mc⟩:=mate_at (by rw [← HM.out]; exact HB.out.keep B1.out) hh
 obtain ⟨u,hu⟩:∃ u,u = d.m h := ⟨_,rfl⟩
 have HU:=hide hu
 rw [← hu] at mc lth
 clear hu
 have hhm:h < m:=by rw [HM.out]; exact hh
 go_enter Tryz.func65,Tryz.ntmps65
 rw [hW1] at mc
 go_wp2_with fail
 rw [← hW1]
 clear hW1 mc
 refine (r1turn3 u _ (by omega)).mono ?_
 rintro e w2 ⟨rfl,rfl⟩
 go_wp2_with fail
 go_loopg [5,6] (p - 1) (fun g v i wx => ∃ j:Nat,j + 1 + g = p ∧ i = .int .i64 (Pl.it (Pl.nx d) (j + 1) h:Nat) ∧ wx.ownsRow w.heap.size 3 1 v (j + 1) ((Pl.cyc (Pl.nx d) h (j + 1)).map (fun k:Nat => Value.int .i64 k)) ∧ Below w.heap.size w wx)
 case atStart => exact ⟨0,by omega,by rw [HU.out]; rfl,O1.out,B1.out⟩
 case round =>
  clear B1 O1
  obtain ⟨j,hjg,rfl,own,hb⟩:=hrel
  have HJ:=hide hjg
  have hjp:j + 1 ≤ p:=by omega
  have OWN:=hide own
  have HBL:=hide hb
  have hbs:=hb.size
  obtain ⟨x,hx⟩:∃ x,x = Pl.it (Pl.nx d) (j + 1) h := ⟨_,rfl⟩
  rw [← hx]
  have HX:=hide hx
  have hxN:x < 4 * d.n:=by rw [hx]; exact it_lt (fun y hy => HD.out.nxb.maps y hy) hh (j + 1)
  clear hjg own hb hx
  obtain ⟨A0,c0,hv0⟩:=owns_slice OWN.out
  by_cases he:x = h
  ·have hjj:¬ j + 1 < p:=fun hlt => HP.out.2.2 (j + 1) (by omega) hlt (by rw [← HX.out,he])
   have t1:((x:Int) != (h:Int)) = false:=by rw [bne_eq_false_iff_eq]; omega
   have HE:=hide he
   obtain rfl:j + 1 = p := by omega
   subst hv0
   clear he hjj
   go_wp2
   go_ret
   exact ⟨A0,c0,rfl,own_keep OWN.out (Below.refl _ _) (by omega),HBL.out⟩
  ·have t1:((x:Int) != (h:Int)) = true:=by rw [bne_iff_ne]; omega
   have hjj:j + 1 < p:=by
    rcases Nat.lt_or_ge (j + 1) p with h1 | h1
    ·exact h1
    ·have:j + 1 = p:=by omega
     exact absurd (by rw [HX.out,this]; exact HP.out.2.1) he
   clear he
   subst hv0
   obtain ⟨i0,hi0,hz0,hz1,hz2⟩:=info_parts intInfo
   have hwz1:w.heap.size ≤ wr.heap.size:=hbs
   go_wp2_with (at_builtin; refine wpList_append_lies _ (by rfl) _ _ 22 (by rfl) w.heap.size 3 i0 (.int .i64 0) 1 8 Tryz.underlying22 hi0 hz0 hz1 hz2 rfl (by omega) _ (j + 1) _ (by rfl) (OWN.out.alloc _) ⟨wr.heap.size,0,none⟩ 1 1 [.int .i64 (x:Int)] (by rfl) (by rfl) (one_news wr (.int .i64 (x:Int))) (by simp [Value.oneCell']) (by omega) (by unfold maxLen; omega) (by omega) (by simp; omega) (wr.heap.size + 1) (by simp) ?_; intro g3 c3 w3 own3 grow3 at3 lt3; have OWN3 := hide own3; have GR3 := hide grow3; have B3 := hide ((HBL.out.alloc hbs (.cells #[.int .i64 (x:Int)] 3)).grown GR3.out (by simp; omega) (fun k hk => by have := (OWN.out.lt k hk).1; omega)); obtain ⟨mb',mo',e',mc⟩:=mate_at (by rw [← HM.out]; exact HB.out.keep B3.out) hxN; injection e' with e'; injection e' with e1' e2'; subst e1'; subst e2'; have ltx := HD.out.lt x hxN; obtain ⟨y,hy⟩:∃ y,y = d.m x := ⟨_,rfl⟩; have HY := hide hy; rw [← hy] at mc ltx; have hxm:x < m := (by rw [HM.out]; exact hxN); clear own3 grow3 at3 hy)
   refine (r1turn3 y _ (by omega)).mono ?_
   rintro e w4 ⟨rfl,rfl⟩
   clear mc
   go_wp2_with fail
   go_roundg (gk - 1)
   case measure => have := HJ.out; omega
   case rel =>
    refine ⟨j + 1,by have := HJ.out; omega,?_,?_,B3.out⟩
    ·rw [HY.out,HX.out]; rfl
    ·have:=OWN3.out
     rw [Pl.cyc_succ,List.map_append,← HX.out]
     exact this
def FcL (d:Pl.Dg) (k:Nat) (fs:List (List Nat)):Prop := fs.map (fun l => l.getD 0 0) = Pl.hds d k ∧ ∀ l,l ∈ fs → 0 < l.length
theorem FcL.len {d:Pl.Dg} {k:Nat} {fs:List (List Nat)} (h:FcL d k fs):fs.length = (Pl.hds d k).length := by rw [← h.1,List.length_map]
theorem FcL.add {d:Pl.Dg} {k p:Nat} {fs:List (List Nat)} (h:FcL d k fs) (hl:Pl.Least (Pl.nx d) k) (hp:0 < p):FcL d (k + 1) (fs ++ [Pl.cyc (Pl.nx d) k p]) := by
 refine ⟨?_,fun l hl2 => ?_⟩
 ·rw [List.map_append,h.1,Pl.hds_pos hl,List.map_singleton,Pl.cyc_get hp]
  rfl
 ·rcases List.mem_append.1 hl2 with h2 | h2
  ·exact h.2 l h2
  ·rw [List.mem_singleton] at h2; subst h2; rw [Pl.cyc_len]; exact hp
theorem FcL.skip {d:Pl.Dg} {k:Nat} {fs:List (List Nat)} (h:FcL d k fs) (hl:¬ Pl.Least (Pl.nx d) k):FcL d (k + 1) fs := ⟨by rw [h.1,Pl.hds_neg hl],h.2⟩
set_option maxRecDepth 100000 in
set_option maxHeartbeats 4000000 in
theorem r1faces_any (d:Pl.Dg) (hd:Pl.Wf d) (B:Option Addr) (cq m:Nat) (w:World) (hm:m = 4 * d.n) (hb:IntsAt w B m (nats d.mt)) :
 Calls Tryz.prog 34 #[.slice B m cq] w (fun e w' => ∃ (A5:Option Addr) (c5:Nat) (vs:List Value) (fs:List (List Nat)),e = .returned (.slice A5 fs.length c5) ∧ FcL d (4 * d.n) fs ∧ RowT w' 22 A5 fs.length vs ∧ Vs w' vs fs ∧ Below w.heap.size w w') := by
 have hn:=hd.few
 have HD:=hide hd
 have HM:=hide hm
 have HB:=hide hb
 have hm4:m ≤ 256:=by omega
 clear hm hb hd
 go_enter Tryz.func34,Tryz.ntmps34
 go_wp2
 go_loopg [3,4] m (fun g v i wx => ∃ (k:Nat) (vs:List Value) (fs:List (List Nat)),k + g = m ∧ i = .int .i64 k ∧ FcL d k fs ∧ wx.ownsRow w.heap.size 22 1 v fs.length vs ∧ Vs wx vs fs ∧ Below w.heap.size w wx)
 case atStart => exact ⟨0,[],[],by omega,rfl,⟨rfl,fun l h => by simp at h⟩,World.ownsRow_nil _ _ _ _,Vs.nil _,Below.refl _ _⟩
 case round =>
  obtain ⟨k,vs,fs,hkg,rfl,hfl,hown,hvs,hb⟩:=hrel
  have HKG:=hide hkg
  have hkm:k ≤ m:=by omega
  have HFL:=hide hfl
  have OWN:=hide hown
  have HVS:=hide hvs
  have HBL:=hide hb
  have hbs:=hb.size
  obtain ⟨A7,c7,rfl⟩:=owns_slice hown
  have hfn:fs.length ≤ 256:=by have := hfl.len; have := Pl.hds_len d k; omega
  clear hkg hfl hown hvs hb
  by_cases hlt:k < m
  ·have hk4:k < 4 * d.n:=by have := HM.out; omega
   obtain ⟨p,hpN,hper⟩:=HD.out.nxb.per (x := k) hk4
   have HPER:=hide hper
   have HL:=hide (Pl.least_cyc HD.out hk4 hper)
   have hp0:=hper.1
   clear hper
   go_wp2_with fail
   refine (r1face_any d HD.out B cq m k p _ HM.out (HB.out.keep HBL.out) hk4 HPER.out hpN).mono ?_
   rintro e w2 ⟨A5,c5,rfl,own5,hb5⟩
   have FA:=hide (show FaceAt w2 (.slice A5 p c5) (Pl.cyc (Pl.nx d) k p) from ⟨A5,c5,by rw [Pl.cyc_len],by rw [Pl.cyc_len]; exact own_rowT own5⟩)
   have O2:=hide (own_keep OWN.out hb5 (Nat.le_refl _))
   have V2:=hide (HVS.out.below hb5)
   have B2:=hide (HBL.out.trans (hb5.mono hbs))
   clear own5 hb5
   go_wp2_with fail
   obtain ⟨b5,o5,rfl,_⟩:=nats_at FA.out.ints.2 (k := 0) hp0
   go_loopg [6,7] p (fun g b i wx => ∃ j:Nat,j + g = p ∧ i = .int .i64 j ∧ b = .bool (Pl.vb (∀ i,i < j → k ≤ Pl.it (Pl.nx d) i k)) ∧ wx = w2)
   case atStart => exact ⟨0,by omega,rfl,by rw [Pl.vb_true (fun i hi => absurd hi (by omega))],rfl⟩
   case round =>
    obtain ⟨j,hjg,rfl,rfl,rfl⟩:=hrel
    have HJG:=hide hjg
    have hjp:j ≤ p:=by omega
    clear hjg
    by_cases hlj:j < p
    ·obtain ⟨b',o',e',hcj⟩:=nats_at FA.out.ints.2 (k := j) hlj
     injection e' with e'
     injection e' with e1 e2
     subst e1
     subst e2
     rw [Pl.cyc_get hlj] at hcj
     obtain ⟨y,hy⟩:∃ y,y = Pl.it (Pl.nx d) j k := ⟨_,rfl⟩
     rw [← hy] at hcj
     have HS:=hide (vb_step (P := fun i => k ≤ Pl.it (Pl.nx d) i k) j)
     have HY:=hide hy
     clear hy
     cases hv:Pl.vb (∀ i,i < j → k ≤ Pl.it (Pl.nx d) i k) with
     | false =>
       have HV:=hide hv
       clear hv
       go_wp2
       go_roundg (gk - 1)
       case measure => have := HJG.out; omega
       case rel => exact ⟨j + 1,by have := HJG.out; omega,by go_num,by rw [HS.out,HV.out]; rfl,rfl⟩
     | true =>
       have HV:=hide hv
       clear hv
       by_cases hky:k ≤ y
       ·have t1:decide ((k:Int) ≤ (y:Int)) = true:=by simp; omega
        go_wp2
        go_roundg (gk - 1)
        case measure => have := HJG.out; omega
        case rel => exact ⟨j + 1,by have := HJG.out; omega,by go_num,by rw [HS.out,HV.out,Pl.vb_true (show k ≤ Pl.it (Pl.nx d) j k by rw [← HY.out]; exact hky)]; rfl,rfl⟩
       ·have t1:decide ((k:Int) ≤ (y:Int)) = false:=by simp; omega
        go_wp2
        go_roundg (gk - 1)
        case measure => have := HJG.out; omega
        case rel => exact ⟨j + 1,by have := HJG.out; omega,by go_num,by rw [HS.out,HV.out,Pl.vb_false (show ¬ k ≤ Pl.it (Pl.nx d) j k by rw [← HY.out]; exact hky)]; rfl,rfl⟩
    ·have hjj:j = p:=by omega
     have HE:=hide hjj
     obtain ⟨b,hb⟩:∃ b,b = Pl.vb (∀ i,i < j → k ≤ Pl.it (Pl.nx d) i k) := ⟨_,rfl⟩
     rw [← hb]
     have HBB:=hide (show (b = true ↔ Pl.Least (Pl.nx d) k) by rw [hb,Pl.vb_iff,HE.out]; exact HL.out.symm)
     clear hb hjj
     cases b with
     | false =>
       have HN:=hide (HFL.out.skip (fun h => absurd (HBB.out.2 h) (by decide)))
       go_wp2
       go_roundg (m - (k + 1))
       case measure => have := HKG.out; omega
       case rel => exact ⟨k + 1,vs,fs,by have := HKG.out; omega,by go_num,HN.out,O2.out,V2.out,B2.out⟩
     | true =>
       have HN:=hide (HFL.out.add (HBB.out.1 rfl) hp0)
       obtain ⟨i0,hi0,hz0,hz1,hz2⟩:=info_parts rowInfo
       have P1:∀ u ∈ [Value.slice (some ⟨b5,o5,none⟩) p c5],u.oneCell' = true:=by simp [Value.oneCell']
       have hb2s:=B2.out.size
       go_wp2_with (at_builtin; refine wpList_append_lies _ (by rfl) _ _ 59 (by rfl) w.heap.size 22 i0 (.slice none 0 0) 1 24 Tryz.underlying59 hi0 hz0 hz1 hz2 rfl (by omega) _ fs.length vs (by rfl) (O2.out.alloc _) ⟨wr.heap.size,0,none⟩ 1 1 [.slice (some ⟨b5,o5,none⟩) p c5] (by rfl) (by rfl) (World.news_of_block (cs := #[.slice (some ⟨b5,o5,none⟩) p c5]) (t := 22) (fr := (0,0)) (heap_alloc_new wr _)) P1 (by omega) (by unfold maxLen; omega) (by omega) (by simp; omega) (wr.heap.size + 1) (by simp) ?_; intro g3 c3 w3 own3 grow3 at3 lt3)
       go_roundg (m - (k + 1))
       case measure => have := HKG.out; omega
       case rel =>
        have hbk:=fun g (hg:(Value.slice A7 fs.length c7).ownBlock = some g) => ownsRow_block (O2.out.alloc (.cells #[.slice (some ⟨b5,o5,none⟩) p c5] 22)) g hg
        have hba:Below wr.heap.size wr (wr.alloc (.cells #[.slice (some ⟨b5,o5,none⟩) p c5] 22)):=(Below.refl _ _).alloc (Nat.le_refl _) _
        refine ⟨k + 1,vs ++ [.slice (some ⟨b5,o5,none⟩) p c5],fs ++ [Pl.cyc (Pl.nx d) k p],by have := HKG.out; omega,by go_num,HN.out,by simpa using own3,?_,?_⟩
        ·exact ((V2.out.below hba).grown grow3 hbk (by decide)).add ((FA.out.below hba).grown grow3 hbk (by decide))
        ·exact (B2.out.alloc hb2s _).grown grow3 (by simp; omega) (fun k hk => by have := (O2.out.lt k hk).1; omega)
  ·have hkm':k = m:=by omega
   have E:=hide (show FcL d (4 * d.n) fs by rw [← HM.out,← hkm']; exact HFL.out)
   go_wp2
   go_ret
   exact ⟨A7,c7,vs,fs,rfl,E.out,own_rowT OWN.out,HVS.out,HBL.out⟩
end Go.Proofs.YtghdiolnonejaaaGreatDoor
end
