/-
 The texts Jg.
-/
import Derived.Test.YtghdiolnonejaaaGreatDoorS00
import Derived.Test.YtghdiolnonejaaaGreatDoorS01
import Derived.Test.YtghdiolnonejaaaGreatDoorS02
import Derived.Test.YtghdiolnonejaaaGreatDoorS03
import Derived.Test.YtghdiolnonejaaaGreatDoorS04
import Derived.Test.YtghdiolnonejaaaGreatDoorS07
import Derived.Test.YtghdiolnonejaaaGreatDoorS12
import Derived.Test.YtghdiolnonejaaaGreatDoorU01
import Derived.Test.YtghdiolnonejaaaGreatDoorU05
import Derived.Test.YtghdiolnonejaaaGreatDoorU21
import Derived.Test.YtghdiolnonejaaaGreatDoorU22
import Derived.Test.YtghdiolnonejaaaGreatDoorU23
import Derived.Test.YtghdiolnonejaaaGreatDoorU24
import Derived.Test.YtghdiolnonejaaaGreatDoorU25
import Derived.Test.YtghdiolnonejaaaGreatDoorU26
import Derived.Test.YtghdiolnonejaaaGreatDoorU27
import Derived.Test.YtghdiolnonejaaaGreatDoorU28
import Derived.BigQuiet
import Derived.Deep.AppendLies
import Derived.Deep.CutBlock
import Derived.Deep.CutRange
import Derived.Deep.DeepCutAuto
import Derived.Deep.DrawnRows
import Derived.Deep.Light
import Derived.Deep.LoopGhost
import Derived.Deep.QuietTactic
import Derived.Deep.RegionHeld3
import Derived.Deep.RegionLaw
import Derived.Deep.RegionWith
import Derived.Laws.AppendOwn
import Derived.Laws.MakeOwn
import Derived.Laws.OwnMore
import Derived.Laws.Rows
import Derived.Laws.Slices
import Derived.Maps.AppendAt
import Derived.Outline
import Derived.RegionTactic
import Derived.Shelf.Spec.SlicesGrow
import Derived.StillTailTactics
import Derived.Test.YtghdiolnonejaaaGreatDoorRows
import Derived.Test.YtghdiolnonejaaaGreatDoorShelf
import Derived.WalkKit
import Derived.WalkLawsBesides
import Derived.WalkSpells
set_option linter.unusedVariables false
set_option linter.unusedSimpArgs false
section
namespace Go.Proofs.YtghdiolnonejaaaGreatDoor
open Go Go.RowKit
attribute [local go_sem ↓] Go.wp_at_zero Go.wp_at_succ
def foL (ps:List Pl.Pc) (j:Nat):List Nat := (ps.take j).flatMap Pl.Pc.order
theorem foL_succ {ps:List Pl.Pc} {j:Nat} {p:Pl.Pc} (h:ps[j]? = some p):foL ps (j + 1) = foL ps j ++ p.order := by
 unfold foL
 rw [Pl.take_one h,List.flatMap_append]
 simp
theorem foL_all {ps:List Pl.Pc} {j:Nat} (h:ps.length ≤ j):foL ps j = ps.flatMap Pl.Pc.order := by
 unfold foL
 rw [List.take_of_length_le h]
theorem fo_all {d:Pl.Dg} (hd:Pl.Wf d) {ps:List Pl.Pc} (h:Pl.Pcs d ps):(∀ c,c ∈ ps.flatMap Pl.Pc.order → c < d.n) ∧ (ps.flatMap Pl.Pc.order).length = d.n := by
 have h1:∀ c,c ∈ ps.flatMap Pl.Pc.order → c < d.n:=fun c hc => by
  obtain ⟨p,hp,hm⟩:=List.mem_flatMap.1 hc
  obtain ⟨r,hr,_,e,_⟩:=h.ok p hp
  rw [e] at hm
  exact ((Pl.ord_ok hd hr).mem c hm).1
 refine ⟨h1,?_⟩
 have h2:=Pl.left_idx h.nd d.n
 rw [List.filter_eq_self.2 fun c hc => decide_eq_true (h1 c hc)] at h2
 have h3:Pl.left d.n (ps.flatMap Pl.Pc.order) = []:=by
  unfold Pl.left
  refine List.filter_eq_nil_iff.2 fun c hc => ?_
  obtain ⟨p,hp,hm⟩:=h.all c (List.mem_range.1 hc)
  have:c ∈ ps.flatMap Pl.Pc.order:=List.mem_flatMap.2 ⟨p,hp,hm⟩
  simp only [List.contains_iff_mem.2 this]; decide
 rw [h3] at h2
 simpa using h2
theorem foL_len {d:Pl.Dg} (hd:Pl.Wf d) {ps:List Pl.Pc} (h:Pl.Pcs d ps) (j:Nat):(foL ps j).length ≤ d.n := by
 have h1:=(fo_all hd h).2
 have h2:(ps.flatMap Pl.Pc.order) = foL ps j ++ (ps.drop j).flatMap Pl.Pc.order:=by
  unfold foL
  rw [← List.flatMap_append,List.take_append_drop]
 rw [h2,List.length_append] at h1
 omega
def fsg (ps:List Pl.Pc) (i:Nat):Nat := (ps.flatMap Pl.Pc.order).getD i 0
theorem pv_fsg (ps:List Pl.Pc) (i:Nat):Pl.pv (nats (ps.flatMap Pl.Pc.order)) i = (fsg ps i:Nat) := by
 unfold Pl.pv nats fsg
 rw [List.getD_eq_getElem?_getD,List.getElem?_map,List.getD_eq_getElem?_getD]
 cases (ps.flatMap Pl.Pc.order)[i]? <;> rfl
theorem fsg_ok {d:Pl.Dg} (hd:Pl.Wf d) {ps:List Pl.Pc} (h:Pl.Pcs d ps):(∀ i,i < d.n → fsg ps i < d.n) ∧ ∀ i j,i < d.n → j < d.n → fsg ps i = fsg ps j → i = j := by
 obtain ⟨h1,h2⟩:=fo_all hd h
 have g:∀ i,i < d.n → ∃ hi:i < (ps.flatMap Pl.Pc.order).length,fsg ps i = (ps.flatMap Pl.Pc.order)[i]:=fun i hi => ⟨by omega,by
  unfold fsg
  rw [List.getD_eq_getElem?_getD,List.getElem?_eq_getElem (by omega)]; rfl⟩
 refine ⟨fun i hi => ?_,fun i j hi hj e => ?_⟩
 ·obtain ⟨q,e⟩:=g i hi
  rw [e]; exact h1 _ (List.getElem_mem q)
 ·obtain ⟨q,e1⟩:=g i hi
  obtain ⟨q',e2⟩:=g j hj
  rw [e1,e2] at e
  exact (List.getElem_inj h.nd).1 e
def FmO (d r:Pl.Dg):Prop := ∃ ps,Pl.Pcs d ps ∧ Pl.Srt ps ∧ r = rnF d (fsg ps)
theorem FmO.ok {d r:Pl.Dg} (hd:Pl.Valid d) (h:FmO d r):Pl.Valid r ∧ (∃ σ,Pl.Iso r d σ) ∧ r.n = d.n ∧ r.lp = d.lp := by
 obtain ⟨ps,h1,_,rfl⟩:=h
 obtain ⟨f1,f2⟩:=fsg_ok hd.wf h1
 have hi:=inv_tau f1 f2
 exact ⟨rnE_valid hd hi,⟨_,rnE_iso hd.wf hi⟩,rnE_n _ _ _,rfl⟩
set_option maxRecDepth 100000 in
set_option maxHeartbeats 8100000 in
theorem form_any (d:Pl.Dg) (hd:Pl.Valid d) (h20:d.n ≤ 20) (A B:Option Addr) (n0 cp cq m lp:Nat) (w:World) (hn0:n0 = d.n) (hm:m = 4 * d.n) (hl:lp = d.lp) (hg:DgAt w A B d) :
 Calls Tryz.prog 61 #[.agg #[.slice A n0 cp,.slice B m cq,.int .i64 (lp:Int)]] w fun e w' => ∃ (r:Pl.Dg) (A9 B9:Option Addr) (c8 c9:Nat),FmO d r ∧ e = .returned (.tuple #[.agg #[.slice A9 n0 c8,.slice B9 m c9,.int .i64 (lp:Int)],.int .i64 0]) ∧ DgT w' A9 B9 r ∧ Below w.heap.size w w' := by
 subst hn0
 subst hl
 have hlp:=hd.wf.lp
 have HM:=hide hm
 have HG:=hide hg
 have HD:=hide hd
 clear hm hg
 have X0:=hide ((row_at (W := w) (g := w.heap.size) (t := 24) (vs := [.slice A d.n cp,.slice B m cq,.int .i64 (d.lp:Int)]) rfl).alloc (.cells #[.slice none 0 0,.slice none 0 0,.int .i64 0] 24))
 have S0:=hide (row_at (W := w.alloc (.cells #[.slice A d.n cp,.slice B m cq,.int .i64 (d.lp:Int)] 24)) (g := w.heap.size + 1) (t := 24) (vs := [.slice none 0 0,.slice none 0 0,.int .i64 0]) (by simp))
 have B0:=hide (show Below w.heap.size w ((w.alloc (.cells #[.slice A d.n cp,.slice B m cq,.int .i64 (d.lp:Int)] 24)).alloc (.cells #[.slice none 0 0,.slice none 0 0,.int .i64 0] 24)) from ((Below.refl _ _).alloc (Nat.le_refl _) _).alloc (by simp) _)
 go_enter Tryz.func61,Tryz.ntmps61
 obtain ⟨d0,d1,d2,d3⟩:=box3 X0.out
 go_wp2_with fail
 refine (valid_yes d HD.out A B cp cq m _ HM.out (HG.out.keep B0.out)).mono ?_
 rintro e w1 ⟨rfl,hb1⟩
 have Y0:=hide (X0.out.below hb1)
 have S1:=hide (S0.out.below hb1)
 have B1:=hide (B0.out.trans (hb1.mono B0.out.size))
 clear X0 B0 S0 hb1 d0 d1 d2 d3
 obtain ⟨d0,d1,d2,d3⟩:=box3 Y0.out
 go_wp2_with fail
 refine (pieces_any d HD.out A B cp cq m _ HM.out (HG.out.keep B1.out) h20).mono ?_
 rintro e w2 ⟨aLst,n,cL,cs,ps,rfl,hown,hpv,hlen,hnd,hpcs,hsrt,hb2⟩
 have Z0:=hide (Y0.out.below hb2)
 have S2:=hide (S1.out.below hb2)
 have B2:=hide (B1.out.trans (hb2.mono B1.out.size))
 have OW:=hide hown
 have HPV:=hide hpv
 have HLEN:=hide hlen
 have HPS:=hide (show Pl.Pcs d ps ∧ Pl.Srt ps from ⟨hpcs,hsrt⟩)
 have HSZ:=hide (pcs_sz HD.out.wf hpcs)
 have hn20:n ≤ 20:=by omega
 clear hown hpv hlen hpcs hsrt hb2 d0 d1 d2 d3 Y0 B1 S1 hnd
 go_wp2_with fail
 go_loopg [4,6,14] n (fun g s4 s6 s14 wx => ∃ (j m:Nat) (xs:List Int),j + g = n ∧ s14 = .int .i64 (j:Int) ∧ xs = nats (foL ps j) ∧ CL w2 xs m s4 wx)
 case atStart => exact ⟨0,0,_,by omega,rfl,rfl,⟨⟨rfl,.inl ⟨rfl,rfl⟩⟩,rfl,Below.refl _ _⟩⟩
 case round =>
  obtain ⟨j,k,xs,hjg,rfl,hxs,hk⟩:=hrel
  have HJG:=hide hjg
  have K0:=hide hk
  have HXS:=hide hxs
  have hjn:j ≤ n:=by omega
  have hkl:k ≤ 20:=by
   rw [← hk.len,hxs,nats_len]
   exact Nat.le_trans (foL_len HD.out.wf HPS.out.1 j) h20
  clear hk hxs
  obtain ⟨A4,c4,rfl⟩:=owns_slice K0.out.own
  by_cases hj:j < n
  ·have hji:(j:Int) < (n:Int):=by omega
   have j0:(0:Int) ≤ (j:Int):=by omega
   have hnA:0 < n:=by omega
   obtain ⟨g,cap,hA,hcap,hgl⟩:=World.ownsRow.form OW.out hnA
   injection hA with hA _ hcc
   subst hA
   subst hcc
   obtain ⟨p,hp⟩:∃ p,ps[j]? = some p := ⟨_,List.getElem?_eq_getElem (by rw [HLEN.out]; exact hj)⟩
   have HXN:=hide (show nats (foL ps (j + 1)) = nats (foL ps j) ++ nats p.order by rw [foL_succ hp]; unfold nats; rw [List.map_append])
   have hpsz:=HSZ.out p (List.mem_of_getElem? hp)
   obtain ⟨a0,a1,a2,hpx,ca0,ca1,ca2⟩:=HPV.out.at_ hp
   have CA:=fun (t:Nat) (u:Value) (ht:j * 3 + t < n * 3) (e:cs[j * 3 + t]? = some u) => (show wr.cell? ⟨g,j * 3 + t,none⟩ = some u by exact cell_below (by rw [World.ownsRow.cellAt OW.out _ ht]; exact e) K0.out.bel)
   have x0:=CA 0 a0 (by omega) ca0
   have x1:=CA 1 a1 (by omega) ca1
   have x2:=CA 2 _ (by omega) ca2
   rw [Nat.add_zero] at x0
   clear CA ca0 ca1 ca2 hp hjg
   obtain ⟨A1,e1,h1,h1b⟩:=hpx.c
   obtain ⟨A2,e2,h2,h2b⟩:=hpx.o
   have HC2:=hide (show IntsAt w2 A2 (nats p.order).length (nats p.order) from h2b.2.row)
   subst h1
   subst h2
   clear h1b h2b hpx
   obtain ⟨L1,hL1⟩:∃ n,n = p.code.length := ⟨_,rfl⟩
   obtain ⟨L2,hL2⟩:∃ n,n = (nats p.order).length := ⟨_,rfl⟩
   rw [← hL1] at x0
   rw [← hL2] at x1 HC2
   have HL2:=hide hL2
   have hL2b:L2 ≤ 64:=by rw [hL2,nats_len]; exact hpsz.1
   clear hpsz hL1 hL2
   have KA:=hide (K0.out.alloc (.cells #[.slice A1 L1 e1,.slice A2 L2 e2,.int .i64 a2] 146))
   have XB:=hide (row_at (W := wr) (g := wr.heap.size) (t := 146) (vs := [.slice A1 L1 e1,.slice A2 L2 e2,.int .i64 a2]) rfl)
   obtain ⟨f0,f1,f2,f3⟩:=box3 XB.out
   go_upto_region 7 with fail
   obtain ⟨V,hV⟩:∃ V,V = wr.alloc (.cells #[.slice A1 L1 e1,.slice A2 L2 e2,.int .i64 a2] 146) := ⟨_,rfl⟩
   obtain ⟨gb,hgb⟩:∃ g,g = wr.heap.size := ⟨_,rfl⟩
   rw [← hV] at KA XB f0 f1 f2 f3 ⊢
   rw [← hgb] at XB f0 f1 f2 f3 ⊢
   clear hV hgb x0 x1 x2 K0
   obtain ⟨i0,hi0,hz0,hz1,hz2⟩:=info_parts intInfo
   go_wp2_with (at_builtin; refine wpList_append_int _ (by rfl) _ _ 22 (by rfl) w2.heap.size 3 i0 (.int .i64 0) 8 Tryz.underlying22 hi0 hz0 hz1 hz2 rfl _ k _ (by rfl) KA.out.own A2 L2 e2 (nats p.order) (by rfl) (HC2.out.keep KA.out.bel) (by unfold maxLen; omega) (by omega) KA.out.bel.size ?_; intro v4 w4 own4 gr4; have OWN4 := hide own4; have GR4 := hide gr4; clear own4 gr4)
   go_roundg (gk - 1)
   case measure => have := HJG.out; omega
   case rel => exact ⟨j + 1,_,_,by have := HJG.out; omega,by go_num,rfl,by
    rw [HXN.out,← HXS.out]
    exact KA.out.app OWN4.out GR4.out (by rw [HL2.out])⟩
  ·have hji:¬ ((j:Int) < (n:Int)):=by omega
   have HIA:=hide (show xs = nats (ps.flatMap Pl.Pc.order) by rw [HXS.out,foL_all (by rw [HLEN.out]; omega)])
   have HKN:=hide (show k = d.n by rw [← K0.out.len,HIA.out,nats_len]; exact (fo_all HD.out.wf HPS.out.1).2)
   have HII:=hide (show IntsAt wr A4 k (nats (ps.flatMap Pl.Pc.order)) by rw [← HIA.out]; exact (own_rowT K0.out.own).row)
   have HPM:=hide (show PmL d.n (nats (ps.flatMap Pl.Pc.order)) by
    obtain ⟨q1,q2⟩:=fsg_ok HD.out.wf HPS.out.1
    refine ⟨fun i hi => ?_,fun i j hi hj e => ?_⟩
    ·rw [pv_fsg]; have := q1 i hi; omega
    ·rw [pv_fsg,pv_fsg] at e; exact q2 i j hi hj (by omega))
   have Z3:=hide (Z0.out.below K0.out.bel)
   have S3:=hide (S2.out.below K0.out.bel)
   have B3:=hide (B2.out.trans (K0.out.bel.mono B2.out.size))
   clear K0 HXS HJG HSZ HPV OW HLEN Z0 S2 B2 HIA
   obtain ⟨d0,d1,d2,d3⟩:=box3 Z3.out
   go_wp2_with fail
   refine (renumber_pm d HD.out A B A4 cp cq m k c4 _ _ HM.out (HG.out.keep B3.out) HII.out HKN.out HPM.out).mono ?_
   rintro e w5 ⟨A9,B9,c8,c9,rfl,hT,hb5⟩
   rw [show (fun i => (Pl.pv (nats (ps.flatMap Pl.Pc.order)) i).toNat) = fsg ps from funext fun i => by rw [pv_fsg]; rfl] at hT
   have HT:=hide hT
   have S5:=hide (S3.out.below hb5)
   have B5:=hide (B3.out.trans (hb5.mono B3.out.size))
   clear hT hb5 d0 d1 d2 d3 Z3 S3 B3
   obtain ⟨f0,f1,f2,f3⟩:=box3 S5.out
   have hs5:=S5.out.lt
   rw [← HM.out]
   go_wp2
   refine bodyPost_ret (v := .tuple #[.agg #[.slice A9 d.n c8,.slice B9 m c9,.int .i64 (d.lp:Int)],.int .i64 0]) ?_ rfl ?_
   ·obtain ⟨r0,r1,r2,r3⟩:=box3 (row3 S5.out rfl (.slice A9 d.n c8) (.slice B9 m c9) (.int .i64 (d.lp:Int)))
    simp [results,Tryz.results61,go_sem,r0,r1,r2]
   ·exact ⟨rnF d (fsg ps),A9,B9,c8,c9,⟨ps,HPS.out.1,HPS.out.2,rfl⟩,rfl,HT.out.set3 S5.out _ _ _,below3 B5.out (by omega) _ _ _⟩
end Go.Proofs.YtghdiolnonejaaaGreatDoor
end
