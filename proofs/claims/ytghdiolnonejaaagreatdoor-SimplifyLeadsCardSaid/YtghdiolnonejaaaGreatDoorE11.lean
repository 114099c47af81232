/-
 The texts Uc, Fcl, Ud, Drp, Rza, Lbq, Nh.
-/
import Derived.Test.YtghdiolnonejaaaGreatDoorE01
import Derived.Deep.CutBlock
import Derived.Deep.CutRange
import Derived.Laws.EntriesVeiled
import Derived.Laws.Slices
set_option linter.unusedVariables false
set_option linter.unusedSimpArgs false
section
namespace Go.Proofs.YtghdiolnonejaaaGreatDoor
open Go Go.RowKit
theorem nextS_any (d:Pl.Dg) (B:Option Addr) (cq m g h:Nat) (x0 x2:Value) (w:World) (hm:m = 4 * d.n) (hd:Pl.Wf d) (hr:Row w g 24 [x0,.slice B m cq,x2]) (hb:IntsAt w B m (nats d.mt)) (hh:h < 4 * d.n) :
 Calls Tryz.prog 59 #[.int .i64 (h:Int),.pointer (some ⟨g,0,none⟩)] w fun e w' => e = .returned (.int .i64 (Pl.st d h:Nat)) ∧ w' = w := by
 have hn:=hd.few
 have lt:=hd.lt h hh
 obtain ⟨b,o,rfl,hc⟩:=mate_at (by rw [← hm]; exact hb) hh
 obtain ⟨f0,f1,f2,f3⟩:=box3 hr
 have hhm:h < m:=by omega
 have HM:=hide hm
 clear hm
 obtain ⟨u,hu⟩:∃ u,u = d.m h := ⟨_,rfl⟩
 have HU:=hide (show Pl.st d h = Pl.tn u 2 by rw [hu]; rfl)
 rw [← hu] at hc lt
 clear hu
 go_enter Tryz.func59,Tryz.ntmps59
 go_wp2_with fail
 refine (opposite_any u _ (by omega)).mono ?_
 rintro e w1 ⟨rfl,rfl⟩
 go_wp2
 go_ret
 exact ⟨by rw [HU.out]; rfl,rfl⟩
theorem nextS_steps (d:Pl.Dg) (B:Option Addr) (cq m g:Nat) (x0 x2:Value) (w:World) (hm:m = 4 * d.n) (hd:Pl.Wf d) (hr:Row w g 24 [x0,.slice B m cq,x2]) (hb:IntsAt w B m (nats d.mt)) :
 Steps 59 (.pointer (some ⟨g,0,none⟩)) (4 * d.n) (Pl.st d) w := fun w' h hbl hh =>
 (nextS_any d B cq m g h x0 x2 w' hm hd (hr.below hbl) (hb.keep hbl) hh).mono fun _ _ ⟨he,hw⟩ => ⟨he,by rw [hw]; exact Below.refl _ _⟩
def Asks (k:Nat) (c:Value) (N:Nat) (f:Nat → Bool) (w:World):Prop := ∀ w' h,Below w.heap.size w w' → h < N → Calls Tryz.prog k #[.int .i64 (h:Int),c] w' fun e w'' => e = .returned (.bool (f h)) ∧ Below w'.heap.size w' w''
theorem outS_any (d:Pl.Dg) (A B:Option Addr) (cp cq q g h:Nat) (l:Value) (w:World) (hn:d.n ≤ 1000) (hr:Row w g 24 [.slice A d.n cp,.slice B q cq,l]) (hs:IntsAt w A d.n d.sg) (hh:h < 4 * d.n) :
 Calls Tryz.prog 57 #[.int .i64 (h:Int),.pointer (some ⟨g,0,none⟩)] w fun e w' => e = .returned (.bool (Pl.out d h)) ∧ Below w.heap.size w w' := by
 obtain ⟨f0,f1,f2,f3⟩:=box3 hr
 have HS:=hide hs
 go_enter Tryz.func57,Tryz.ntmps57
 go_wp2_with fail
 refine (out_any d A B cp q cq l h _ hh hn HS.out).mono ?_
 rintro e w1 ⟨rfl,hb⟩
 have HB:=hide hb
 clear hb
 go_wp2
 go_ret
 exact ⟨rfl,HB.out⟩
theorem outS_asks (d:Pl.Dg) (A B:Option Addr) (cp cq q g:Nat) (l:Value) (w:World) (hn:d.n ≤ 1000) (hr:Row w g 24 [.slice A d.n cp,.slice B q cq,l]) (hs:IntsAt w A d.n d.sg) :
 Asks 57 (.pointer (some ⟨g,0,none⟩)) (4 * d.n) (Pl.out d) w := fun w' h hbl hh =>
 outS_any d A B cp cq q g h l w' hn (hr.below hbl) (hs.keep hbl) hh
set_option maxRecDepth 100000 in
set_option maxHeartbeats 2000000 in
theorem cycleS_any (c:Value) (N:Nat) (f:Nat → Nat) (h p:Nat) (w:World) (hst:Steps 59 c N f w) (hf:∀ x,x < N → f x < N) (hh:h < N) (hp:Pl.Per f h p) (hpN:p ≤ N) (hN:N ≤ 1000) :
 Calls Tryz.prog 95 #[.int .i64 (h:Int),fv1 59 c] w (CycPost f h p w) := by
 unfold fv1
 have HST:=hide hst
 have HF:=hide hf
 have HP:=hide hp
 have hp0:=hp.1
 clear hst hf hp
 have B1:=hide (show Below w.heap.size w (w.alloc (.cells #[.int .i64 (h:Int)] 3)) from (Below.refl _ _).alloc (Nat.le_refl _) _)
 go_enter Tryz.func95,Tryz.ntmps95
 go_wp2_with fail
 refine (HST.out _ h B1.out hh).mono ?_
 rintro e w2 ⟨rfl,hb2⟩
 have B2:=hide (B1.out.trans (hb2.mono B1.out.size))
 have O2:=hide (own_keep (own_one w (.int .i64 (h:Int))) hb2 (Nat.le_refl _))
 clear hb2
 go_wp2_with fail
 go_loopg [5,6] (p - 1) (fun g v i wx => ∃ j:Nat,j + 1 + g = p ∧ i = .int .i64 (Pl.it f (j + 1) h:Nat) ∧ wx.ownsRow w.heap.size 3 1 v (j + 1) ((Pl.cyc f h (j + 1)).map (fun k:Nat => Value.int .i64 k)) ∧ Below w.heap.size w wx)
 case atStart => exact ⟨0,by omega,rfl,O2.out,B2.out⟩
 case round =>
  clear O2 B2 B1
  obtain ⟨j,hjg,rfl,own,hb⟩:=hrel
  have HJ:=hide hjg
  have hjp:j + 1 ≤ p:=by omega
  have OWN:=hide own
  have HB:=hide hb
  have hbs:=hb.size
  obtain ⟨x,hx⟩:∃ x,x = Pl.it f (j + 1) h := ⟨_,rfl⟩
  rw [← hx]
  have HX:=hide hx
  have hxN:x < N:=by rw [hx]; exact it_lt HF.out hh (j + 1)
  clear hjg own hb hx
  by_cases he:x = h
  ·have hjj:¬ j + 1 < p:=fun hlt => HP.out.2.2 (j + 1) (by omega) hlt (by rw [← HX.out,he])
   have t1:((x:Int) != (h:Int)) = false:=by rw [bne_eq_false_iff_eq]; omega
   have HE:=hide he
   obtain rfl:j + 1 = p := by omega
   obtain ⟨A5,c5,rfl⟩:=owns_slice OWN.out
   clear he hjj
   go_wp2
   go_ret
   exact ⟨A5,c5,rfl,OWN.out,HB.out⟩
  ·have t1:((x:Int) != (h:Int)) = true:=by rw [bne_iff_ne]; omega
   have hjj:j + 1 < p:=by
    rcases Nat.lt_or_ge (j + 1) p with h1 | h1
    ·exact h1
    ·have:j + 1 = p:=by omega
     exact absurd (by rw [HX.out,this]; exact HP.out.2.1) he
   clear he
   obtain ⟨i0,hi0,hz0,hz1,hz2⟩:=info_parts intInfo
   go_wp2_with (at_builtin; refine wpList_append_lies _ (by rfl) _ _ 22 (by rfl) w.heap.size 3 i0 (.int .i64 0) 1 8 Tryz.underlying22 hi0 hz0 hz1 hz2 rfl (by omega) _ (j + 1) _ (by rfl) (OWN.out.alloc _) ⟨wr.heap.size,0,none⟩ 1 1 [.int .i64 (x:Int)] (by rfl) (by rfl) (one_news wr (.int .i64 (x:Int))) (by simp [Value.oneCell']) (by omega) (by unfold maxLen; omega) (by omega) (by simp; omega) (wr.heap.size + 1) (by simp) ?_; intro g3 c3 w3 own3 grow3 at3 lt3; have OWN3 := hide own3; have GR3 := hide grow3; clear own3 grow3 at3)
   have B3:=hide ((HB.out.alloc hbs (.cells #[.int .i64 (x:Int)] 3)).grown GR3.out (by simp; omega) (fun k hk => (OWN.out.lt k hk).1))
   refine (HST.out _ x B3.out hxN).mono ?_
   rintro e w4 ⟨rfl,hb4⟩
   go_wp2_with fail
   go_roundg (gk - 1)
   case measure => have := HJ.out; omega
   case rel =>
    refine ⟨j + 1,by have := HJ.out; omega,?_,?_,B3.out.trans (hb4.mono B3.out.size)⟩
    ·rw [HX.out]; rfl
    ·have:=own_keep OWN3.out hb4 (Nat.le_refl _)
     rw [Pl.cyc_succ,List.map_append,← HX.out]
     exact this
end Go.Proofs.YtghdiolnonejaaaGreatDoor
end
section
namespace Go.Proofs.YtghdiolnonejaaaGreatDoor.Pl
variable {N:Nat} {S:Nat → Prop} {f:Nat → Nat}
open Classical in
noncomputable def fcI (fs:List (List Nat)) (x:Nat):Nat := if h:∃ (i:Nat),∃ (l:List Nat),fs[i]? = some l ∧ x ∈ l then h.choose else 0
theorem fcI_is {W:Nat → Prop} {fs:List (List Nat)} {bs:List Bool} (h:Fcs f W N N fs bs) {i x:Nat} {l:List Nat} (e:fs[i]? = some l) (hx:x ∈ l):fcI fs x = i := by
 have hh:∃ (i:Nat),∃ (l:List Nat),fs[i]? = some l ∧ x ∈ l:=⟨i,l,e,hx⟩
 unfold fcI
 rw [dif_pos hh]
 obtain ⟨m,e2,h2⟩:=hh.choose_spec
 exact h.one _ _ m l x e2 e h2 hx
theorem Fcs.cls {W:Nat → Prop} (hb:Bij N S f) (hS:∀ x,x < N → S x) {fs:List (List Nat)} {bs:List Bool} (h:Fcs f W N N fs bs):Cls (fun x => x < N ∧ W x) (Orb f) fs.length := by
 have hin:∀ x,x < N ∧ W x → ∃ (i:Nat) (l:List Nat),fs[i]? = some l ∧ x ∈ l:=by
  intro x hx
  obtain ⟨l,h1,h2⟩:=(h.seen x hx.1).1 (h.all x hx.1 hx.2)
  obtain ⟨i,hi⟩:=List.getElem?_of_mem h1
  exact ⟨i,l,hi,h2⟩
 refine ⟨fcI fs,fun x hx => ?_,fun x y hx hy => ?_,fun i hi => ?_⟩
 ·obtain ⟨i,l,e,hm⟩:=hin x hx
  rw [fcI_is h e hm]
  exact (List.getElem?_eq_some_iff.1 e).1
 ·obtain ⟨i,l,e,hm⟩:=hin x hx
  obtain ⟨j,m,e2,hm2⟩:=hin y hy
  rw [fcI_is h e hm,fcI_is h e2 hm2]
  obtain ⟨a,p,a1,a2,a3,rfl⟩:=h.is l (List.mem_of_getElem? e)
  have ox:=(mem_cyc a3).1 hm
  constructor
  ·intro ee
   subst ee
   rw [e] at e2
   injection e2 with e2
   subst e2
   have oy:=(mem_cyc a3).1 hm2
   exact (hb.symm (hS a a1) ox).trans oy
  ·intro ee
   exact h.one i j _ m y e e2 ((mem_cyc a3).2 (ox.trans ee)) hm2
 ·have e:fs[i]? = some fs[i]:=List.getElem?_eq_getElem hi
  obtain ⟨a,p,a1,a2,a3,e2⟩:=h.is fs[i] (List.mem_of_getElem? e)
  refine ⟨a,⟨a1,a2⟩,fcI_is h e ?_⟩
  rw [e2]
  exact (mem_cyc a3).2 (Orb.refl _ _)
end Go.Proofs.YtghdiolnonejaaaGreatDoor.Pl
end
section
namespace Go.Proofs.YtghdiolnonejaaaGreatDoor
open Go Go.RowKit
structure CyS (w:World) (o:Nat → Bool) (N:Nat) (f:Nat → Nat) (k:Nat) (fs:List (List Nat)) (bs:List Bool) (vs:List Value) (vA:Value) (W:World):Prop where
 fc:Pl.Fcs f (fun h => o h = true) N k fs bs
 few:fs.length ≤ k
 seen:BRow W w.heap.size bs
 own:W.ownsRow (w.heap.size + 1) 22 1 vA fs.length vs
 fa:Vs W vs fs
 bel:Below w.heap.size w W
 far:Far w.heap.size vs
theorem CyS.below {w:World} {o:Nat → Bool} {N:Nat} {f:Nat → Nat} {k:Nat} {fs:List (List Nat)} {bs:List Bool} {vs:List Value} {vA:Value} {W W':World} (h:CyS w o N f k fs bs vs vA W) (hb:Below W.heap.size W W'):CyS w o N f k fs bs vs vA W' :=
 ⟨h.fc,h.few,Row.below h.seen hb,own_keep h.own hb (Nat.le_refl _),h.fa.below hb,h.bel.trans (hb.mono h.bel.size),h.far⟩
def StrandsPost (o:Nat → Bool) (f:Nat → Nat) (N:Nat) (w:World) (e:Ending) (w':World):Prop :=
 ∃ (A:Option Addr) (c:Nat) (fs:List (List Nat)) (bs:List Bool) (vs:List Value),e = .returned (.slice A fs.length c) ∧ Pl.Fcs f (fun h => o h = true) N N fs bs ∧ fs.length ≤ N ∧ RowT w' 22 A fs.length vs ∧ Vs w' vs fs ∧ Below w.heap.size w w' ∧ Far w.heap.size vs
set_option maxRecDepth 100000 in
set_option maxHeartbeats 3000000 in
theorem cyclesS_any (c:Value) (o:Nat → Bool) (N:Nat) (S:Nat → Prop) (f:Nat → Nat) (w:World) (hst:Steps 59 c N f w) (hot:Asks 57 c N o w) (hbij:Pl.Bij N S f) (hS:∀ x,x < N → S x) (hSN:∀ x,S x → x < N) (hN:N ≤ 1000) :
 Calls Tryz.prog 58 #[.int .i64 (N:Int),fv1 57 c,fv1 59 c] w (StrandsPost o f N w) := by
 unfold fv1
 have HST:=hide hst
 have HOT:=hide hot
 have HBI:=hide hbij
 have HSS:=hide hS
 have HSN:=hide hSN
 have hmk:=fun W:World => run_bools N (by omega) W
 have HF:=hide (show ∀ x,x < N → f x < N from fun x hx => hSN _ (hbij.maps x (hS x hx)))
 have H0:=hide (show CyS w o N f 0 [] (List.replicate N false) [] (.slice none 0 0) (w.alloc (.cells (Array.replicate N (Value.bool false)) 4)) from
  ⟨Pl.Fcs.start f _ N,Nat.le_refl _,BRow.made w N,World.ownsRow_nil _ _ _ _,Vs.nil _,(Below.refl _ _).alloc (Nat.le_refl _) _,fun v hv => by simp at hv⟩)
 clear hst hot hbij hS hSN
 go_enter Tryz.func58,Tryz.ntmps58
 go_wp2
 clear hmk
 go_loopg [7,16] N (fun g v i wx => ∃ (k:Nat) (fs:List (List Nat)) (bs:List Bool) (vs:List Value),k + g = N ∧ i = .int .i64 k ∧ CyS w o N f k fs bs vs v wx)
 case atStart => exact ⟨0,_,_,_,by omega,rfl,H0.out⟩
 case round =>
  clear H0
  obtain ⟨k,fs,bs,vs,hkg,rfl,hk⟩:=hrel
  have HKG:=hide hkg
  have hkN:k ≤ N:=by omega
  have HK:=hide hk
  clear hkg hk
  obtain ⟨go,rfl⟩:∃ go,go = gk := ⟨_,rfl⟩
  obtain ⟨A7,c7,rfl⟩:=owns_slice HK.out.own
  by_cases hlt:k < N
  ·have hbl:k < bs.length:=by rw [HK.out.fc.len]; exact hlt
   have hc:=HK.out.seen.cell hbl
   have ik:(0:Int) ≤ (k:Int):=by omega
   have jk:(k:Int) < (N:Int):=by omega
   cases hg:Pl.gb bs k with
   | true =>
     have HGB:=hide hg
     have hc':wr.cell? ⟨w.heap.size,k,none⟩ = some (.bool true):=by rw [hc]; unfold Pl.gb at hg; rw [hg]
     clear hc hg
     go_wp2
     go_roundg (go - 1)
     case measure => have := HKG.out; omega
     case rel => exact ⟨k + 1,fs,bs,vs,by have := HKG.out; omega,by go_num,HK.out.fc.skip (.inl HGB.out),by have := HK.out.few; omega,HK.out.seen,HK.out.own,HK.out.fa,HK.out.bel,HK.out.far⟩
   | false =>
     have HGB:=hide hg
     have hc':wr.cell? ⟨w.heap.size,k,none⟩ = some (.bool false):=by rw [hc]; unfold Pl.gb at hg; rw [hg]
     clear hc hg
     go_wp2_with fail
     refine (HOT.out _ k HK.out.bel hlt).mono ?_
     rintro e w1 ⟨rfl,hb1⟩
     have HK1:=hide (HK.out.below hb1)
     clear hb1 HK hc'
     have HK:=HK1
     clear HK1
     cases hok:o k with
     | false =>
       have HOK:=hide hok
       clear hok
       go_wp2
       go_roundg (go - 1)
       case measure => have := HKG.out; omega
       case rel => exact ⟨k + 1,fs,bs,vs,by have := HKG.out; omega,by go_num,HK.out.fc.skip (.inr (by rw [HOK.out]; decide)),by have := HK.out.few; omega,HK.out.seen,HK.out.own,HK.out.fa,HK.out.bel,HK.out.far⟩
     | true =>
     have HOK:=hide hok
     clear hok
     go_wp2_with fail
     obtain ⟨p,hpN,hper⟩:=HBI.out.per (HSS.out k hlt)
     have HPER:=hide hper
     clear hper
     refine (cycleS_any c N f k p _ (HST.out.keep HK.out.bel) HF.out hlt HPER.out hpN hN).mono ?_
     rintro e w2 ⟨A5,c5,rfl,own5,hb5⟩
     have HK2:=hide (HK.out.below hb5)
     have FA2:=hide (show FaceAt w2 (.slice A5 p c5) (Pl.cyc f k p) from ⟨A5,c5,by rw [Pl.cyc_len],by rw [Pl.cyc_len]; exact own_rowT own5⟩)
     have HFR:=hide (show ∀ g,(Value.slice A5 p c5).ownBlock = some g → w.heap.size ≤ g from fun g hg => by have := (own5.lt g hg).1; have := HK.out.bel.size; omega)
     have HFA0:=hide HK.out.far
     clear own5 hb5
     have hp0:=HPER.out.1
     obtain ⟨b5,o5,rfl,_⟩:=nats_at FA2.out.ints.2 (k := 0) hp0
     have HFC:=hide HK.out.fc
     have hfew:=HK.out.few
     have HM0:=hide (show BRow w2 w.heap.size (Pl.mark bs ((Pl.cyc f k p).take 0)) from HK2.out.seen)
     go_wp2_with fail
     go_loopg [34] p (fun g i wx => ∃ j:Nat,j + g = p ∧ i = .int .i64 j ∧ BRow wx w.heap.size (Pl.mark bs ((Pl.cyc f k p).take j)) ∧ wx.ownsRow (w.heap.size + 1) 22 1 (.slice A7 fs.length c7) fs.length vs ∧ Vs wx vs fs ∧ FaceAt wx (.slice (some ⟨b5,o5,none⟩) p c5) (Pl.cyc f k p) ∧ Below w.heap.size w wx)
     case atStart => exact ⟨0,by omega,rfl,HM0.out,HK2.out.own,HK2.out.fa,FA2.out,HK2.out.bel⟩
     case round =>
      clear HM0 FA2 HK2 HK
      obtain ⟨j,hjg,rfl,hbr,hown,hvs,hfa,hbel⟩:=hrel
      have HJG:=hide hjg
      have hjp:j ≤ p:=by omega
      have HBR:=hide hbr
      have HOWN:=hide hown
      have HVS:=hide hvs
      have HFA:=hide hfa
      have HBEL:=hide hbel
      have hsz:=hbr.lt
      clear hjg hbr hown hvs hfa hbel
      by_cases hlj:j < p
      ·obtain ⟨b',o',e',hcj⟩:=nats_at HFA.out.ints.2 (k := j) hlj
       injection e' with e'
       injection e' with e1 e2
       subst e1
       subst e2
       rw [Pl.cyc_get hlj] at hcj
       obtain ⟨y,hy⟩:∃ y,y = Pl.it f j k := ⟨_,rfl⟩
       have hyN:y < N:=by rw [hy]; exact it_lt HF.out hlt j
       rw [← hy] at hcj
       have HY:=hide hy
       clear hy
       have hyl:y < (Pl.mark bs ((Pl.cyc f k p).take j)).length:=by rw [Pl.mark_len,HFC.out.len]; exact hyN
       have cy:=HBR.out.cell hyl
       have fy:=Row.free HBR.out y
       have iy:(0:Int) ≤ (y:Int):=by omega
       have jy:(y:Int) < (N:Int):=by omega
       go_wp2_with fail
       go_roundg (gk - 1)
       case measure => have := HJG.out; omega
       case rel =>
        refine ⟨j + 1,by have := HJG.out; omega,by go_num,?_,?_,HVS.out.store HBR.out (by decide) _,HFA.out.store HBR.out (by decide) _,HBEL.out.setCell (Nat.le_refl _) _⟩
        ·have h1:=HBR.out.set y true
         have h2:(Pl.cyc f k p).take (j + 1) = (Pl.cyc f k p).take j ++ [y]:=by
          rw [List.take_succ_eq_append_getElem (by rw [Pl.cyc_len]; exact hlj)]
          congr 2
          have:=Pl.cyc_get (f := f) (x := k) hlj
          rw [List.getD_eq_getElem?_getD,List.getElem?_eq_getElem (by rw [Pl.cyc_len]; exact hlj)] at this
          rw [HY.out]
          exact this
         rw [h2,Pl.mark_append]
         exact h1
        ·exact ownsRow_setCell_below HOWN.out (by show w.heap.size < w.heap.size + 1; omega) _
      ·have hjj:j = p:=by omega
       subst hjj
       obtain ⟨i0,hi0,hz0,hz1,hz2⟩:=info_parts rowInfo
       have P1:∀ u ∈ [Value.slice (some ⟨b5,o5,none⟩) j c5],u.oneCell' = true:=by simp [Value.oneCell']
       go_wp2_with (at_builtin; refine wpList_append_lies _ (by rfl) _ _ 59 (by rfl) (w.heap.size + 1) 22 i0 (.slice none 0 0) 1 24 Tryz.underlying59 hi0 hz0 hz1 hz2 rfl (by omega) _ fs.length vs (by rfl) (HOWN.out.alloc _) ⟨wr.heap.size,0,none⟩ 1 1 [.slice (some ⟨b5,o5,none⟩) j c5] (by rfl) (by rfl) (World.news_of_block (cs := #[.slice (some ⟨b5,o5,none⟩) j c5]) (t := 22) (fr := (0,0)) (heap_alloc_new wr _)) P1 (by omega) (by unfold maxLen; omega) (by omega) (by simp; omega) (wr.heap.size + 1) (by simp) ?_; intro g3 c3 w3 own3 grow3 at3 lt3)
       go_roundg (go - 1)
       case measure => have := HKG.out; omega
       case rel =>
        have hbk:=fun g (hg:(Value.slice A7 fs.length c7).ownBlock = some g) => ownsRow_block (HOWN.out.alloc (.cells #[.slice (some ⟨b5,o5,none⟩) j c5] 22)) g hg
        have hba:Below wr.heap.size wr (wr.alloc (.cells #[.slice (some ⟨b5,o5,none⟩) j c5] 22)):=(Below.refl _ _).alloc (Nat.le_refl _) _
        refine ⟨k + 1,fs ++ [Pl.cyc f k j],Pl.mark bs (Pl.cyc f k j),vs ++ [.slice (some ⟨b5,o5,none⟩) j c5],by have := HKG.out; omega,by go_num,?_⟩
        refine ⟨HFC.out.add HBI.out HSS.out HSN.out hlt HOK.out HGB.out HPER.out,by simp; omega,?_,by simpa using own3,?_,?_,HFA0.out.add HFR.out⟩
        ·have h1:=HBR.out
         rw [List.take_of_length_le (by rw [Pl.cyc_len]; omega)] at h1
         refine Row.grown (Row.alloc h1 (.cells #[.slice (some ⟨b5,o5,none⟩) j c5] 22)) grow3 ?_
         intro e
         obtain ⟨cs,fr,h3⟩:=hbk _ e.symm
         have h4:=Row.alloc h1 (.cells #[.slice (some ⟨b5,o5,none⟩) j c5] 22)
         rw [h4] at h3
         injection h3 with h3
         injection h3 with _ h5
         exact absurd h5 (by decide)
        ·exact ((HVS.out.below hba).grown grow3 hbk (by decide)).add ((HFA.out.below hba).grown grow3 hbk (by decide))
        ·exact (HBEL.out.alloc (by omega) _).grown grow3 (by simp; omega) (fun k hk => by have := (HOWN.out.lt k hk).1; omega)
  ·go_wp2
   go_ret
   have:k = N:=by omega
   subst this
   exact ⟨A7,c7,fs,bs,vs,rfl,HK.out.fc,HK.out.few,own_rowT HK.out.own,HK.out.fa,HK.out.bel,HK.out.far⟩
end Go.Proofs.YtghdiolnonejaaaGreatDoor
end
section
namespace Go.Proofs.YtghdiolnonejaaaGreatDoor.Pl
def up (y c:Nat):Nat := if c < y then c else c + 1
end Go.Proofs.YtghdiolnonejaaaGreatDoor.Pl
end
section
namespace Go.Proofs.YtghdiolnonejaaaGreatDoor
open Go Go.RowKit
attribute [local go_sem ↓] Go.wp_at_zero Go.wp_at_succ
def fE (E:Nat → Nat) (x k:Nat):Bool := (List.range k).any (fun j => E (2 * j) == x || E (2 * j + 1) == x)
end Go.Proofs.YtghdiolnonejaaaGreatDoor
end
section
namespace Go.Proofs.YtghdiolnonejaaaGreatDoor.Pl
open Classical in
noncomputable def cl (p:Nat → Prop):List Nat → Nat
 | [] => 0
 | x :: l => (if p x then 1 else 0) + cl p l
end Go.Proofs.YtghdiolnonejaaaGreatDoor.Pl
end
section
namespace Go.Proofs.YtghdiolnonejaaaGreatDoor
open Go Go.RowKit
attribute [local go_sem ↓] Go.wp_at_zero Go.wp_at_succ
set_option maxRecDepth 100000 in
set_option maxHeartbeats 4000000 in
theorem half_any (h:Int) (n c gb:Nat) (A:Option Addr) (xs:List Int) (w:World) (hb:w.cell? ⟨gb,0,none⟩ = some (.slice A n c)) (hx:IntsAt w A n xs) (hn:n ≤ 1000) (hh:h < 4 * (n:Int)) (h0:-9223372036854775808 ≤ h) :
 Calls Tryz.prog 92 #[.int .i64 h,.pointer (some ⟨gb,0,none⟩)] w fun e w' => (∃ v:Int,e = .returned (.int .i64 v)) ∧ w = w' := by
 have HX:=hide hx
 clear hx
 by_cases hneg:h < 0
 ·go_enter Tryz.func92,Tryz.ntmps92
  go_wp2
  go_ret
  exact ⟨⟨_,rfl⟩,rfl⟩
 ·obtain ⟨u,hu⟩:∃ u:Nat,h / 4 = (u:Int) := ⟨(h / 4).toNat,by omega⟩
  have hun:u < n:=by omega
  have hq:h.tdiv 4 = (u:Int):=by rw [Int.tdiv_eq_ediv_of_nonneg (by omega)]; exact hu
  have hui:(u:Int) < (n:Int):=by omega
  have hu0:(0:Int) ≤ (u:Int):=by omega
  obtain ⟨b,o,rfl,c0⟩:=HX.out.at_ hun
  obtain ⟨xv,hxv⟩:∃ z,z = xs.getD u 0 := ⟨_,rfl⟩
  rw [← hxv] at c0
  clear hxv
  go_enter Tryz.func92,Tryz.ntmps92
  go_wp2
  go_ret
  exact ⟨⟨_,rfl⟩,rfl⟩
theorem below5s {w W:World} (h:Below w.heap.size w W) {g:Nat} (hg:w.heap.size ≤ g) (a b c d e:Value):Below w.heap.size w (((((W.setCell ⟨g,0,none⟩ a).setCell ⟨g,1,none⟩ b).setCell ⟨g,2,none⟩ c).setCell ⟨g,3,none⟩ d).setCell ⟨g,4,none⟩ e) :=
 ((((h.setCell (by show _ ≤ g; omega) _).setCell (by show _ ≤ g; omega) _).setCell (by show _ ≤ g; omega) _).setCell (by show _ ≤ g; omega) _).setCell (by show _ ≤ g; omega) _
theorem row5h {W:World} {g:Nat} {t:TypeId} {p q r u v:Value} (h:Row W g t [p,q,r,u,v]) (a b c d e:Value):Row (((((W.setCell ⟨g,0,none⟩ a).setCell ⟨g,1,none⟩ b).setCell ⟨g,2,none⟩ c).setCell ⟨g,3,none⟩ d).setCell ⟨g,4,none⟩ e) g t [a,b,c,d,e] :=
 ((((h.set 0 a).set 1 b).set 2 c).set 3 d).set 4 e
def TrIn (n:Nat) (z:Mv):Prop :=
 (z.kind = 2 → 0 ≤ z.x ∧ z.x < n) ∧ (z.kind = 4 → 0 ≤ z.x ∧ z.x < n ∧ 0 ≤ z.y ∧ z.y < n) ∧ (z.kind = 3 → -9223372036854775808 ≤ z.x ∧ z.x < 4 * n ∧ -9223372036854775808 ≤ z.y ∧ z.y < 4 * n) ∧ (z.kind ≠ 2 → z.kind ≠ 4 → z.kind ≠ 3 → -9223372036854775808 ≤ z.x ∧ z.x < 4 * n)
def TrPost (k s:Int) (o:Bool) (w:World) (e:Ending) (w':World):Prop :=
 (∃ x y:Int,e = .returned (.agg #[.int .i64 k,.int .i64 x,.int .i64 y,.int .i64 s,.bool o])) ∧ Below w.heap.size w w'
set_option maxRecDepth 100000 in
set_option maxHeartbeats 4000000 in
theorem translate_any (k x y s:Int) (o:Bool) (n c:Nat) (A:Option Addr) (xs:List Int) (w:World) (hx:IntsAt w A n xs) (hn:n ≤ 1000) (ht:TrIn n ⟨k,x,y,s,o⟩) :
 Calls Tryz.prog 52 #[.agg #[.int .i64 k,.int .i64 x,.int .i64 y,.int .i64 s,.bool o],.slice A n c] w (TrPost k s o w) := by
 have HX:=hide hx
 clear hx
 obtain ⟨V,hV⟩:∃ V,V = ((w.alloc (.cells #[.int .i64 k,.int .i64 x,.int .i64 y,.int .i64 s,.bool o] 43)).alloc (.cells #[.slice A n c] 22)).alloc (.cells #[.int .i64 0,.int .i64 0,.int .i64 0,.int .i64 0,.bool false] 43) := ⟨_,rfl⟩
 obtain ⟨gm,hgm⟩:∃ g,g = w.heap.size := ⟨_,rfl⟩
 obtain ⟨gn,hgn⟩:∃ g,g = w.heap.size + 1 := ⟨_,rfl⟩
 obtain ⟨gr,hgr⟩:∃ g,g = w.heap.size + 1 + 1 := ⟨_,rfl⟩
 have M0:=hide (show Row V gm 43 [.int .i64 k,.int .i64 x,.int .i64 y,.int .i64 s,.bool o] by rw [hV,hgm]; exact ((row_at (vs := [.int .i64 k,.int .i64 x,.int .i64 y,.int .i64 s,.bool o]) rfl).alloc _).alloc _)
 have N0:=hide (show Row V gn 22 [.slice A n c] by rw [hV,hgn]; exact (row_at (vs := [.slice A n c]) (by simp)).alloc _)
 have R0:=hide (show Row V gr 43 [.int .i64 0,.int .i64 0,.int .i64 0,.int .i64 0,.bool false] by rw [hV,hgr]; exact row_at (vs := [.int .i64 0,.int .i64 0,.int .i64 0,.int .i64 0,.bool false]) (by simp))
 have B0:=hide (show Below w.heap.size w V by rw [hV]; exact (((Below.refl _ _).alloc (Nat.le_refl _) _).alloc (by simp) _).alloc (by simp; omega) _)
 have HXV:=hide (HX.out.keep B0.out)
 have e1:gm ≠ gr:=by omega
 have e2:gm ≠ gn:=by omega
 have l1:w.heap.size ≤ gm:=by omega
 have l2:w.heap.size ≤ gr:=by omega
 obtain ⟨m0,m1,m2,m3,m4,m5⟩:=box5 M0.out
 obtain ⟨r0,r1,r2,r3,r4,r5⟩:=box5 R0.out
 have n0:V.cell? ⟨gn,0,none⟩ = some (.slice A n c):=N0.out.cell (i := 0) (by simp)
 have HV:=hide hV
 have HM:=hide hgm
 have HN:=hide hgn
 have HRR:=hide hgr
 clear hV hgm hgn hgr
 by_cases k2:k = 2
 ·subst k2
  obtain ⟨hx0,hx1⟩:=ht.1 rfl
  obtain ⟨u,rfl⟩:=Int.eq_ofNat_of_zero_le hx0
  have hui:(u:Int) < (n:Int):=hx1
  obtain ⟨b,oo,rfl,c0⟩:=HXV.out.at_ (show u < n by omega)
  obtain ⟨xv,hxv⟩:∃ z,z = xs.getD u 0 := ⟨_,rfl⟩
  rw [← hxv] at c0
  clear hxv ht hx1
  go_enter Tryz.func52,Tryz.ntmps52
  go_upto_region 1 with fail
  rw [← HV.out,← HRR.out,← HN.out,← HM.out]
  go_upto_region 11 with fail
  obtain ⟨U,hU⟩:∃ U,U = V.setCell ⟨gm,1,none⟩ (.int .i64 xv) := ⟨_,rfl⟩
  have MU:=hide (show Row U gm 43 [.int .i64 2,.int .i64 xv,.int .i64 y,.int .i64 s,.bool o] by rw [hU]; exact M0.out.set 1 (.int .i64 xv))
  have RU:=hide (show Row U gr 43 [.int .i64 0,.int .i64 0,.int .i64 0,.int .i64 0,.bool false] by rw [hU]; exact R0.out.other (a := ⟨gm,1,none⟩) (show gr ≠ gm from fun e => e1 e.symm) _)
  have BU:=hide (show Below w.heap.size w U by rw [hU]; exact B0.out.setCell (show w.heap.size ≤ gm from l1) _)
  rw [← hU]
  clear hU m0 m1 m2 m3 m4 m5 r0 r1 r2 r3 r4 r5 n0
  obtain ⟨m0,m1,m2,m3,m4,m5⟩:=box5 MU.out
  obtain ⟨r0,r1,r2,r3,r4,r5⟩:=box5 RU.out
  obtain ⟨q0,q1,q2,q3,q4,q5⟩:=box5 (row5h RU.out (.int .i64 2) (.int .i64 xv) (.int .i64 y) (.int .i64 s) (.bool o))
  have BF:=hide (below5s BU.out l2 (.int .i64 2) (.int .i64 xv) (.int .i64 y) (.int .i64 s) (.bool o))
  go_wp2_with fail
  refine bodyPost_ret (v := .agg #[.int .i64 2,.int .i64 xv,.int .i64 y,.int .i64 s,.bool o]) (by simp [results,Tryz.results52,go_sem,q0,q1,q2,q3,q4]) rfl ?_
  exact ⟨⟨_,_,rfl⟩,BF.out⟩
 by_cases k4:k = 4
 ·subst k4
  obtain ⟨hx0,hx1,hy0,hy1⟩:=ht.2.1 rfl
  obtain ⟨u,rfl⟩:=Int.eq_ofNat_of_zero_le hx0
  obtain ⟨v,rfl⟩:=Int.eq_ofNat_of_zero_le hy0
  have hui:(u:Int) < (n:Int):=hx1
  have hvi:(v:Int) < (n:Int):=hy1
  obtain ⟨b,oo,rfl,c0⟩:=HXV.out.at_ (show u < n by omega)
  obtain ⟨b',oo',hbe,c1⟩:=HXV.out.at_ (show v < n by omega)
  obtain ⟨rfl,rfl⟩:b = b' ∧ oo = oo' := by injection hbe with h; injection h with h1 h2; exact ⟨h1,h2⟩
  obtain ⟨xv,hxv⟩:∃ z,z = xs.getD u 0 := ⟨_,rfl⟩
  obtain ⟨yv,hyv⟩:∃ z,z = xs.getD v 0 := ⟨_,rfl⟩
  rw [← hxv] at c0
  rw [← hyv] at c1
  clear hxv hyv ht hx1 hy1 hbe
  go_enter Tryz.func52,Tryz.ntmps52
  go_upto_region 1 with fail
  rw [← HV.out,← HRR.out,← HN.out,← HM.out]
  go_upto_region 7 with fail
  go_quiet (fail)
  obtain ⟨W1,hW1⟩:∃ W,W = V.drewN nq := ⟨_,rfl⟩
  have b1:Below V.heap.size V W1:=by rw [hW1]; exact below_drewN (Below.refl _ _) _
  have M1:=hide (M0.out.below b1)
  have R1:=hide (R0.out.below b1)
  have B1:=hide (B0.out.trans (b1.mono B0.out.size))
  rw [← hW1]
  clear hW1 b1 m0 m1 m2 m3 m4 m5 r0 r1 r2 r3 r4 r5 n0 c0 c1
  obtain ⟨m0,m1,m2,m3,m4,m5⟩:=box5 M1.out
  obtain ⟨r0,r1,r2,r3,r4,r5⟩:=box5 R1.out
  have n0:True:=trivial
  go_upto_region 11 with fail
  obtain ⟨U,hU⟩:∃ U,U = (W1.setCell ⟨gm,1,none⟩ (.int .i64 (min xv yv))).setCell ⟨gm,2,none⟩ (.int .i64 (max xv yv)) := ⟨_,rfl⟩
  have MU:=hide (show Row U gm 43 [.int .i64 4,.int .i64 (min xv yv),.int .i64 (max xv yv),.int .i64 s,.bool o] by rw [hU]; exact (M1.out.set 1 _).set 2 _)
  have RU:=hide (show Row U gr 43 [.int .i64 0,.int .i64 0,.int .i64 0,.int .i64 0,.bool false] by rw [hU]; exact (R1.out.other (a := ⟨gm,1,none⟩) (show gr ≠ gm from fun e => e1 e.symm) _).other (a := ⟨gm,2,none⟩) (show gr ≠ gm from fun e => e1 e.symm) _)
  have BU:=hide (show Below w.heap.size w U by rw [hU]; exact (B1.out.setCell (show w.heap.size ≤ gm from l1) _).setCell (show w.heap.size ≤ gm from l1) _)
  rw [← hU]
  clear hU m0 m1 m2 m3 m4 m5 r0 r1 r2 r3 r4 r5 n0
  obtain ⟨m0,m1,m2,m3,m4,m5⟩:=box5 MU.out
  obtain ⟨r0,r1,r2,r3,r4,r5⟩:=box5 RU.out
  obtain ⟨q0,q1,q2,q3,q4,q5⟩:=box5 (row5h RU.out (.int .i64 4) (.int .i64 (min xv yv)) (.int .i64 (max xv yv)) (.int .i64 s) (.bool o))
  have BF:=hide (below5s BU.out l2 (.int .i64 4) (.int .i64 (min xv yv)) (.int .i64 (max xv yv)) (.int .i64 s) (.bool o))
  go_wp2_with fail
  refine bodyPost_ret (v := .agg #[.int .i64 4,.int .i64 (min xv yv),.int .i64 (max xv yv),.int .i64 s,.bool o]) (by simp [results,Tryz.results52,go_sem,q0,q1,q2,q3,q4]) rfl ?_
  exact ⟨⟨_,_,rfl⟩,BF.out⟩
 by_cases k3:k = 3
 ·subst k3
  obtain ⟨hx0,hx1,hy0,hy1⟩:=ht.2.2.1 rfl
  have HXD:=hide (HXV.out.keep (Below.refl V.heap.size V).drew)
  have hx1':x < 4 * (n:Int):=hx1
  have hy1':y < 4 * (n:Int):=hy1
  have hx0':-9223372036854775808 ≤ x:=hx0
  have hy0':-9223372036854775808 ≤ y:=hy0
  clear ht hx0 hx1 hy0 hy1
  go_enter Tryz.func52,Tryz.ntmps52
  go_upto_region 1 with fail
  rw [← HV.out,← HRR.out,← HN.out,← HM.out]
  go_upto_region 10 with fail
  have M1:=hide (M0.out.below (Below.refl V.heap.size V).drew)
  have R1:=hide (R0.out.below (Below.refl V.heap.size V).drew)
  have B1:=hide (B0.out.trans ((Below.refl V.heap.size V).drew.mono B0.out.size))
  have n0':V.drew.cell? ⟨gn,0,none⟩ = some (.slice A n c):=n0
  go_region_with (first
   | (go_at_call 92
      with_reducible refine (half_any x n c gn A xs _ n0' HXD.out hn hx1' hx0').mono ?_
      rintro e w2 ⟨⟨xv,rfl⟩,rfl⟩)
   | (go_at_call 92
      with_reducible refine (half_any y n c gn A xs _ n0' HXD.out hn hy1' hy0').mono ?_
      rintro e w3 ⟨⟨yv,rfl⟩,rfl⟩))
  all_goals (go_upto_region 11 with fail)
  all_goals first
   | (obtain ⟨U, hU⟩ : ∃ U, U = ((V.setCell ⟨gm, 1, none⟩ (.int .i64 xv)).setCell ⟨gm, 2, none⟩ (.int .i64 yv)).drew := ⟨_, rfl⟩
      have MU:=hide (show Row U gm 43 [.int .i64 3,.int .i64 xv,.int .i64 yv,.int .i64 s,.bool o] by rw [hU]; exact ((M0.out.set 1 _).set 2 _).drew)
      have RU:=hide (show Row U gr 43 [.int .i64 0,.int .i64 0,.int .i64 0,.int .i64 0,.bool false] by rw [hU]; exact ((R0.out.other (a := ⟨gm,1,none⟩) (show gr ≠ gm from fun e => e1 e.symm) _).other (a := ⟨gm,2,none⟩) (show gr ≠ gm from fun e => e1 e.symm) _).drew)
      have BU:=hide (show Below w.heap.size w U by rw [hU]; exact ((B0.out.setCell (show w.heap.size ≤ gm from l1) _).setCell (show w.heap.size ≤ gm from l1) _).drew)
      rw [← hU]
      clear hU m0 m1 m2 m3 m4 m5 r0 r1 r2 r3 r4 r5 n0
      obtain ⟨m0,m1,m2,m3,m4,m5⟩:=box5 MU.out
      obtain ⟨r0,r1,r2,r3,r4,r5⟩:=box5 RU.out
      obtain ⟨q0,q1,q2,q3,q4,q5⟩:=box5 (row5h RU.out (.int .i64 3) (.int .i64 xv) (.int .i64 yv) (.int .i64 s) (.bool o))
      have BF:=hide (below5s BU.out l2 (.int .i64 3) (.int .i64 xv) (.int .i64 yv) (.int .i64 s) (.bool o))
      go_wp2_with fail
      refine bodyPost_ret (v := .agg #[.int .i64 3,.int .i64 xv,.int .i64 yv,.int .i64 s,.bool o]) (by simp [results,Tryz.results52,go_sem,q0,q1,q2,q3,q4]) rfl ?_
      exact ⟨⟨_,_,rfl⟩,BF.out⟩)
   | (obtain ⟨U, hU⟩ : ∃ U, U = ((V.setCell ⟨gm, 2, none⟩ (.int .i64 yv)).setCell ⟨gm, 1, none⟩ (.int .i64 xv)).drew := ⟨_, rfl⟩
      have MU:=hide (show Row U gm 43 [.int .i64 3,.int .i64 xv,.int .i64 yv,.int .i64 s,.bool o] by rw [hU]; exact ((M0.out.set 2 _).set 1 _).drew)
      have RU:=hide (show Row U gr 43 [.int .i64 0,.int .i64 0,.int .i64 0,.int .i64 0,.bool false] by rw [hU]; exact ((R0.out.other (a := ⟨gm,2,none⟩) (show gr ≠ gm from fun e => e1 e.symm) _).other (a := ⟨gm,1,none⟩) (show gr ≠ gm from fun e => e1 e.symm) _).drew)
      have BU:=hide (show Below w.heap.size w U by rw [hU]; exact ((B0.out.setCell (show w.heap.size ≤ gm from l1) _).setCell (show w.heap.size ≤ gm from l1) _).drew)
      rw [← hU]
      clear hU m0 m1 m2 m3 m4 m5 r0 r1 r2 r3 r4 r5 n0
      obtain ⟨m0,m1,m2,m3,m4,m5⟩:=box5 MU.out
      obtain ⟨r0,r1,r2,r3,r4,r5⟩:=box5 RU.out
      obtain ⟨q0,q1,q2,q3,q4,q5⟩:=box5 (row5h RU.out (.int .i64 3) (.int .i64 xv) (.int .i64 yv) (.int .i64 s) (.bool o))
      have BF:=hide (below5s BU.out l2 (.int .i64 3) (.int .i64 xv) (.int .i64 yv) (.int .i64 s) (.bool o))
      go_wp2_with fail
      refine bodyPost_ret (v := .agg #[.int .i64 3,.int .i64 xv,.int .i64 yv,.int .i64 s,.bool o]) (by simp [results,Tryz.results52,go_sem,q0,q1,q2,q3,q4]) rfl ?_
      exact ⟨⟨_,_,rfl⟩,BF.out⟩)
 ·have ht2:=ht.2.2.2 k2 k4 k3
  obtain ⟨hx0,hx1⟩:=ht2
  have hx1':x < 4 * (n:Int):=hx1
  have hx0':-9223372036854775808 ≤ x:=hx0
  have q2:(k == 2) = false:=by rw [beq_eq_false_iff_ne]; exact k2
  have q3:(k == 3) = false:=by rw [beq_eq_false_iff_ne]; exact k3
  have q4:(k == 4) = false:=by rw [beq_eq_false_iff_ne]; exact k4
  clear ht hx0 hx1
  go_enter Tryz.func52,Tryz.ntmps52
  go_upto_region 1 with fail
  rw [← HV.out,← HRR.out,← HN.out,← HM.out]
  go_wp2_with fail
  refine (half_any x n c gn A xs _ n0 HXV.out hn hx1' hx0').mono ?_
  rintro e w2 ⟨⟨xv,rfl⟩,rfl⟩
  go_upto_region 11 with fail
  obtain ⟨U,hU⟩:∃ U,U = V.setCell ⟨gm,1,none⟩ (.int .i64 xv) := ⟨_,rfl⟩
  have MU:=hide (show Row U gm 43 [.int .i64 k,.int .i64 xv,.int .i64 y,.int .i64 s,.bool o] by rw [hU]; exact M0.out.set 1 (.int .i64 xv))
  have RU:=hide (show Row U gr 43 [.int .i64 0,.int .i64 0,.int .i64 0,.int .i64 0,.bool false] by rw [hU]; exact R0.out.other (a := ⟨gm,1,none⟩) (show gr ≠ gm from fun e => e1 e.symm) _)
  have BU:=hide (show Below w.heap.size w U by rw [hU]; exact B0.out.setCell (show w.heap.size ≤ gm from l1) _)
  rw [← hU]
  clear hU m0 m1 m2 m3 m4 m5 r0 r1 r2 r3 r4 r5 n0
  obtain ⟨m0,m1,m2,m3,m4,m5⟩:=box5 MU.out
  obtain ⟨r0,r1,r2,r3,r4,r5⟩:=box5 RU.out
  obtain ⟨q0,q1,q2,q3,q4,q5⟩:=box5 (row5h RU.out (.int .i64 k) (.int .i64 xv) (.int .i64 y) (.int .i64 s) (.bool o))
  have BF:=hide (below5s BU.out l2 (.int .i64 k) (.int .i64 xv) (.int .i64 y) (.int .i64 s) (.bool o))
  go_wp2_with fail
  refine bodyPost_ret (v := .agg #[.int .i64 k,.int .i64 xv,.int .i64 y,.int .i64 s,.bool o]) (by simp [results,Tryz.results52,go_sem,q0,q1,q2,q3,q4]) rfl ?_
  exact ⟨⟨_,_,rfl⟩,BF.out⟩
end Go.Proofs.YtghdiolnonejaaaGreatDoor
end
