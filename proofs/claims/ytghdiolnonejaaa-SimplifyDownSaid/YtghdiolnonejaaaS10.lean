/-
 The texts Rj.
-/
import Derived.Test.YtghdiolnonejaaaS08
set_option linter.unusedVariables false
set_option linter.unusedSimpArgs false
section
namespace Go.Proofs.Ytghdiolnonejaaa
open Go Go.RowKit
def isB (d:Pl.Dg) (a b h:Nat):Prop := ((h / 4 = a ∧ d.m h / 4 = b) ∨ (h / 4 = b ∧ d.m h / 4 = a)) ∧ Pl.nx d (Pl.nx d h) = h ∧ h % 2 = d.m h % 2
def bigV (d:Pl.Dg) (a b:Nat):Int := match lensI d a b with
 | some i => (lnH a b i:Nat)
 | none => -1
theorem nx_div (d:Pl.Dg) (h:Nat):Pl.nx d h / 4 = d.m h / 4 := by unfold Pl.nx; exact Pl.tn_div _ _
theorem isB_L {d:Pl.Dg} {a b i:Nat} (hab:a < b) (hi:i < 8):isB d a b (lnH a b i) ↔ isL d a b i := by
 unfold isB isL
 rw [nx_div]
 by_cases h:i < 4
 ·have e1:lnH a b i / 4 = a:=by unfold lnH; rw [if_pos h]; omega
  have e2:lnO a b i = b:=by unfold lnO; rw [if_pos h]
  rw [e1,e2]
  constructor
  ·rintro ⟨h1 | h1,h2,h3⟩
   ·exact ⟨h1.2,h2,h3⟩
   ·omega
  ·rintro ⟨h1,h2,h3⟩; exact ⟨.inl ⟨rfl,h1⟩,h2,h3⟩
 ·have e1:lnH a b i / 4 = b:=by unfold lnH; rw [if_neg h]; omega
  have e2:lnO a b i = a:=by unfold lnO; rw [if_neg h]
  rw [e1,e2]
  constructor
  ·rintro ⟨h1 | h1,h2,h3⟩
   ·omega
   ·exact ⟨h1.2,h2,h3⟩
  ·rintro ⟨h1,h2,h3⟩; exact ⟨.inr ⟨rfl,h1⟩,h2,h3⟩
theorem isB_i {d:Pl.Dg} {a b h:Nat} (hB:isB d a b h):∃ i,i < 8 ∧ lnH a b i = h := by
 rcases hB.1 with h1 | h1
 ·exact ⟨h - 4 * a,by omega,by unfold lnH; rw [if_pos (by omega)]; omega⟩
 ·exact ⟨h - 4 * b + 4,by omega,by unfold lnH; rw [if_neg (by omega)]; omega⟩
theorem lnH_mono {a b i j:Nat} (hab:a < b) (hij:i < j) (hj:j < 8):lnH a b i < lnH a b j := by
 unfold lnH; split <;> split <;> omega
theorem bigV_at {d:Pl.Dg} {a b h:Nat} (hab:a < b) (hB:isB d a b h) (hn:∀ g,g < h → ¬ isB d a b g):bigV d a b = h := by
 obtain ⟨i,hi,rfl⟩:=isB_i hB
 unfold bigV
 rw [lens_at hi ((isB_L hab hi).1 hB) (fun j hj t => hn _ (lnH_mono hab hj hi) ((isB_L hab (by omega)).2 t))]
theorem bigV_no {d:Pl.Dg} {a b:Nat} (hab:a < b) (hb:b < d.n) (hn:∀ g,g < 4 * d.n → ¬ isB d a b g):bigV d a b = -1 := by
 unfold bigV
 rw [lens_no (fun j hj t => hn (lnH a b j) (by unfold lnH; split <;> omega) ((isB_L hab hj).2 t))]
set_option maxRecDepth 100000 in
set_option maxHeartbeats 4000000 in
theorem rbigon_any (d:Pl.Dg) (hd:Pl.Wf d) (A B:Option Addr) (cp cq m:Nat) (l:Value) (a b:Nat) (w:World) (hm:m = 4 * d.n) (hb:IntsAt w B m (nats d.mt)) (hab:a < b) (hbn:b < d.n) :
 Calls Try.prog 122 #[.agg #[.slice A d.n cp,.slice B m cq,l],.int .i64 (a:Int),.int .i64 (b:Int)] w fun e w' => e = .returned (.int .i64 (bigV d a b)) ∧ Below w.heap.size w w' := by
 have hn:=hd.few
 have HD:=hide hd
 have HM:=hide hm
 have HB:=hide hb
 have hm2:m ≤ 256:=by omega
 have X0:=hide (row_at (W := w) (g := w.heap.size) (t := 24) (vs := [.slice A d.n cp,.slice B m cq,l]) rfl)
 have B0:=hide (show Below w.heap.size w (w.alloc (.cells #[.slice A d.n cp,.slice B m cq,l] 24)) from (Below.refl _ _).alloc (Nat.le_refl _) _)
 clear hm hb hd
 go_enter Try.func122,Try.ntmps122
 go_wp2
 go_loopg [7] m (fun g i wx => ∃ k:Nat,k + g = m ∧ i = .int .i64 k ∧ (∀ j,j < k → ¬ isB d a b j) ∧ Row wx w.heap.size 24 [.slice A d.n cp,.slice B m cq,l] ∧ Below w.heap.size w wx)
 case atStart => exact ⟨0,by omega,rfl,fun j hj => absurd hj (by omega),X0.out,B0.out⟩
 case round =>
  clear X0 B0
  obtain ⟨h,hkg,rfl,hno,hx,hb⟩:=hrel
  have HKG:=hide hkg
  have HN:=hide hno
  have X:=hide hx
  have BL:=hide hb
  have hkm:h ≤ m:=by omega
  clear hkg hno hx hb
  obtain ⟨d0,d1,d2,d3⟩:=box3 X.out
  by_cases hlt:h < m
  ·have hh:h < 4 * d.n:=by have := HM.out; omega
   obtain ⟨bb,bo,rfl,mc⟩:=mate_at (by rw [← HM.out]; exact HB.out.keep BL.out) hh
   have HIB:=hide (show isB d a b h ↔ ((h / 4 = a ∧ d.m h / 4 = b) ∨ (h / 4 = b ∧ d.m h / 4 = a)) ∧ Pl.nx d (Pl.nx d h) = h ∧ h % 2 = d.m h % 2 from Iff.rfl)
   have hy4:=HD.out.lt h hh
   obtain ⟨y,hy⟩:∃ y,y = d.m h := ⟨_,rfl⟩
   have HY:=hide hy
   rw [← hy] at mc hy4 HIB
   clear hy
   have h0:(0:Int) ≤ (h:Int):=by omega
   have h1:(h:Int) < (m:Int):=by omega
   have key:(¬ isB d a b h → ∀ j,j < h + 1 → ¬ isB d a b j):=fun hn j hj => by
    by_cases e:j = h
    ·rw [e]; exact hn
    ·exact HN.out j (by omega)
   have KEY:=hide key
   clear key
   by_cases hg:(h / 4 = a ∧ y / 4 = b) ∨ (h / 4 = b ∧ y / 4 = a)
   ·have hu4:Pl.nx d h < 4 * d.n:=th_lt HD.out hh 1
    obtain ⟨u,hu⟩:∃ u,u = Pl.nx d h := ⟨_,rfl⟩
    obtain ⟨v,hv⟩:∃ v,v = Pl.nx d u := ⟨_,rfl⟩
    rw [← hu] at hu4
    have HU:=hide hu
    have HV:=hide (show v = Pl.nx d (Pl.nx d h) by rw [hv,hu])
    have hvu:Pl.nx d u = v:=hv.symm
    have hv4:v < 4 * d.n:=by rw [HV.out]; exact th_lt HD.out hh 2
    have hNX:∀ (p:Cls (DC w [.slice A d.n cp,.slice (some ⟨bb,bo,none⟩) m cq,l])) (x z:Nat),x < 4 * d.n → Pl.nx d x = z → Calls Try.prog 123 #[.agg #[.slice A d.n cp,.slice (some ⟨bb,bo,none⟩) m cq,l],.int .i64 (x:Int)] p.w fun e w'' => e = .returned (.int .i64 (z:Nat)) ∧ ∃ p:Cls (DC w [.slice A d.n cp,.slice (some ⟨bb,bo,none⟩) m cq,l]),w'' = p.w:=fun p x z hx hz =>
     calls_cls (rnext_any d HD.out A (some ⟨bb,bo,none⟩) cp cq m l x p.w HM.out (HB.out.keep p.ok.2) hx) (fun e w' h => ⟨by rw [h.1,hz],p.ok.1.below h.2,p.ok.2.trans (h.2.mono p.ok.2.size)⟩)
    have HSS:=hide hNX
    have c30:∀ p:Cls (DC w [.slice A d.n cp,.slice (some ⟨bb,bo,none⟩) m cq,l]),p.w.cell? ⟨w.heap.size,0,none⟩ = some (.slice A d.n cp):=fun p => p.ok.1.cell (i := 0) (by show 0 < 3; omega)
    have c31:∀ p:Cls (DC w [.slice A d.n cp,.slice (some ⟨bb,bo,none⟩) m cq,l]),p.w.cell? ⟨w.heap.size,1,none⟩ = some (.slice (some ⟨bb,bo,none⟩) m cq):=fun p => p.ok.1.cell (i := 1) (by show 1 < 3; omega)
    have c32:∀ p:Cls (DC w [.slice A d.n cp,.slice (some ⟨bb,bo,none⟩) m cq,l]),p.w.cell? ⟨w.heap.size,2,none⟩ = some l:=fun p => p.ok.1.cell (i := 2) (by show 2 < 3; omega)
    have c33:∀ p:Cls (DC w [.slice A d.n cp,.slice (some ⟨bb,bo,none⟩) m cq,l]),p.w.cell? ⟨bb,bo + h,none⟩ = some (.int .i64 (y:Nat)):=fun p => by
     obtain ⟨_,_,e1,mc'⟩:=mate_at (by rw [← HM.out]; exact HB.out.keep p.ok.2) hh
     injection e1 with e1
     injection e1 with e1 e2
     subst e1; subst e2
     rw [HY.out]; exact mc'
    have HVU:=hide hvu
    have HG:=hide hg
    clear hNX hu hv hvu
    have DC0:=hide (show DC w [.slice A d.n cp,.slice (some ⟨bb,bo,none⟩) m cq,l] wr.drew from ⟨X.out.drew,BL.out.drew⟩)
    by_cases hvh:v = h
    ·have hx2:h % 2 = 0 ∨ h % 2 = 1:=by omega
     have hy2:y % 2 = 0 ∨ y % 2 = 1:=by omega
     have tv:((v:Int) == (h:Int)) = true:=by rw [beq_iff_eq]; omega
     have HVH:=hide hvh
     clear hvh
     rcases hg with ⟨g1,g2⟩ | ⟨g1,g2⟩
     ·have t1:((h:Int) / 4 == (a:Int)) = true:=by rw [beq_iff_eq]; omega
      have t2:((y:Int) / 4 == (b:Int)) = true:=by rw [beq_iff_eq]; omega
      rcases hx2 with hx2 | hx2 <;> rcases hy2 with hy2 | hy2
      all_goals
       have XX:=hide hx2
       have YY:=hide hy2
       have ex:(h:Int) % 2 = ((h % 2:Nat):Int):=by omega
       have ey:(y:Int) % 2 = ((y % 2:Nat):Int):=by omega
       rw [hx2] at ex
       rw [hy2] at ey
       clear hx2 hy2 g1 g2
       go_wp2_with fail
       refine wp_region_cls (DC w [.slice A d.n cp,.slice (some ⟨bb,bo,none⟩) m cq,l]) (by kernel_rfl) (by kernel_rfl) DC0.out (fun hne => ?_)
       repeat (go_big_quiet_step ((go_at_call 123; first | exact HSS.out _ _ u (by omega) HU.out.symm | exact HSS.out _ _ v (by omega) HVU.out)))
       refine wpQuiet_nil ?_
       rintro _ ⟨p,rfl⟩
       have hp1:=hide p.ok.1
       have hp2:=hide p.ok.2
       clear HSS c30 c31 c32 c33
       go_wp2
       first
        | (go_ret
           refine ⟨ret_int ?_,hp2.out⟩
           exact (bigV_at hab (HIB.out.2 ⟨HG.out,by rw [← HV.out,HVH.out],by have := XX.out; have := YY.out; omega⟩) HN.out).symm)
        | (go_roundg (gk - 1)
           case measure => have := HKG.out; omega
           case rel => exact ⟨h + 1,by have := HKG.out; omega,by go_num,KEY.out (fun t => by have := (HIB.out.1 t).2.2; have := XX.out; have := YY.out; omega),hp1.out,hp2.out⟩)
     ·have t0:((h:Int) / 4 == (a:Int)) = false:=by rw [beq_eq_false_iff_ne]; omega
      have t1:((h:Int) / 4 == (b:Int)) = true:=by rw [beq_iff_eq]; omega
      have t2:((y:Int) / 4 == (a:Int)) = true:=by rw [beq_iff_eq]; omega
      rcases hx2 with hx2 | hx2 <;> rcases hy2 with hy2 | hy2
      all_goals
       have XX:=hide hx2
       have YY:=hide hy2
       have ex:(h:Int) % 2 = ((h % 2:Nat):Int):=by omega
       have ey:(y:Int) % 2 = ((y % 2:Nat):Int):=by omega
       rw [hx2] at ex
       rw [hy2] at ey
       clear hx2 hy2 g1 g2
       go_wp2_with fail
       refine wp_region_cls (DC w [.slice A d.n cp,.slice (some ⟨bb,bo,none⟩) m cq,l]) (by kernel_rfl) (by kernel_rfl) DC0.out (fun hne => ?_)
       repeat (go_big_quiet_step ((go_at_call 123; first | exact HSS.out _ _ u (by omega) HU.out.symm | exact HSS.out _ _ v (by omega) HVU.out)))
       refine wpQuiet_nil ?_
       rintro _ ⟨p,rfl⟩
       have hp1:=hide p.ok.1
       have hp2:=hide p.ok.2
       clear HSS c30 c31 c32 c33
       go_wp2
       first
        | (go_ret
           refine ⟨ret_int ?_,hp2.out⟩
           exact (bigV_at hab (HIB.out.2 ⟨HG.out,by rw [← HV.out,HVH.out],by have := XX.out; have := YY.out; omega⟩) HN.out).symm)
        | (go_roundg (gk - 1)
           case measure => have := HKG.out; omega
           case rel => exact ⟨h + 1,by have := HKG.out; omega,by go_num,KEY.out (fun t => by have := (HIB.out.1 t).2.2; have := XX.out; have := YY.out; omega),hp1.out,hp2.out⟩)
    ·have tv:((v:Int) == (h:Int)) = false:=by rw [beq_eq_false_iff_ne]; omega
     have HVH:=hide hvh
     clear hvh
     rcases hg with ⟨g1,g2⟩ | ⟨g1,g2⟩
     ·have t1:((h:Int) / 4 == (a:Int)) = true:=by rw [beq_iff_eq]; omega
      have t2:((y:Int) / 4 == (b:Int)) = true:=by rw [beq_iff_eq]; omega
      clear g1 g2
      go_wp2_with fail
      refine wp_region_cls (DC w [.slice A d.n cp,.slice (some ⟨bb,bo,none⟩) m cq,l]) (by kernel_rfl) (by kernel_rfl) DC0.out (fun hne => ?_)
      repeat (go_big_quiet_step ((go_at_call 123; first | exact HSS.out _ _ u (by omega) HU.out.symm | exact HSS.out _ _ v (by omega) HVU.out)))
      refine wpQuiet_nil ?_
      rintro _ ⟨p,rfl⟩
      have hp1:=hide p.ok.1
      have hp2:=hide p.ok.2
      clear HSS c30 c31 c32 c33
      go_wp2
      go_roundg (gk - 1)
      case measure => have := HKG.out; omega
      case rel => exact ⟨h + 1,by have := HKG.out; omega,by go_num,KEY.out (fun t => HVH.out (by rw [HV.out]; exact (HIB.out.1 t).2.1)),hp1.out,hp2.out⟩
     ·have t0:((h:Int) / 4 == (a:Int)) = false:=by rw [beq_eq_false_iff_ne]; omega
      have t1:((h:Int) / 4 == (b:Int)) = true:=by rw [beq_iff_eq]; omega
      have t2:((y:Int) / 4 == (a:Int)) = true:=by rw [beq_iff_eq]; omega
      clear g1 g2
      go_wp2_with fail
      refine wp_region_cls (DC w [.slice A d.n cp,.slice (some ⟨bb,bo,none⟩) m cq,l]) (by kernel_rfl) (by kernel_rfl) DC0.out (fun hne => ?_)
      repeat (go_big_quiet_step ((go_at_call 123; first | exact HSS.out _ _ u (by omega) HU.out.symm | exact HSS.out _ _ v (by omega) HVU.out)))
      refine wpQuiet_nil ?_
      rintro _ ⟨p,rfl⟩
      have hp1:=hide p.ok.1
      have hp2:=hide p.ok.2
      clear HSS c30 c31 c32 c33
      go_wp2
      go_roundg (gk - 1)
      case measure => have := HKG.out; omega
      case rel => exact ⟨h + 1,by have := HKG.out; omega,by go_num,KEY.out (fun t => HVH.out (by rw [HV.out]; exact (HIB.out.1 t).2.1)),hp1.out,hp2.out⟩
   ·have HNB:=hide (KEY.out (fun t => hg (HIB.out.1 t).1))
    by_cases g1:h / 4 = a
    ·have t1:((h:Int) / 4 == (a:Int)) = true:=by rw [beq_iff_eq]; omega
     have t2:((y:Int) / 4 == (b:Int)) = false:=by rw [beq_eq_false_iff_ne]; omega
     have t3:((h:Int) / 4 == (b:Int)) = false:=by rw [beq_eq_false_iff_ne]; omega
     clear g1 hg
     go_wp2_with fail
     go_quiet (fail)
     go_wp2
     go_roundg (gk - 1)
     case measure => have := HKG.out; omega
     case rel => exact ⟨h + 1,by have := HKG.out; omega,by go_num,HNB.out,X.out,Below.drewN' BL.out _⟩
    ·have t1:((h:Int) / 4 == (a:Int)) = false:=by rw [beq_eq_false_iff_ne]; omega
     by_cases g2:h / 4 = b
     ·have t2:((h:Int) / 4 == (b:Int)) = true:=by rw [beq_iff_eq]; omega
      have t3:((y:Int) / 4 == (a:Int)) = false:=by rw [beq_eq_false_iff_ne]; omega
      clear g1 g2 hg
      go_wp2_with fail
      go_quiet (fail)
      go_wp2
      go_roundg (gk - 1)
      case measure => have := HKG.out; omega
      case rel => exact ⟨h + 1,by have := HKG.out; omega,by go_num,HNB.out,X.out,Below.drewN' BL.out _⟩
     ·have t2:((h:Int) / 4 == (b:Int)) = false:=by rw [beq_eq_false_iff_ne]; omega
      clear g1 g2 hg
      go_wp2_with fail
      go_quiet (fail)
      go_wp2
      go_roundg (gk - 1)
      case measure => have := HKG.out; omega
      case rel => exact ⟨h + 1,by have := HKG.out; omega,by go_num,HNB.out,X.out,Below.drewN' BL.out _⟩
  ·have HF:=hide (bigV_no hab hbn (fun g hg => HN.out g (by have := HM.out; omega)))
   go_wp2
   go_ret
   exact ⟨ret_int HF.out.symm,BL.out⟩
end Go.Proofs.Ytghdiolnonejaaa
end
