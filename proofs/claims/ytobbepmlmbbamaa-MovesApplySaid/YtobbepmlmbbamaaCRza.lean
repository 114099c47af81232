/-
 The text Rza.
-/
import Derived.Test.YtobbepmlmbbamaaB00
import Derived.Test.YtobbepmlmbbamaaB01
import Derived.Test.YtobbepmlmbbamaaB02
import Derived.Test.YtobbepmlmbbamaaB03
import Derived.Test.YtobbepmlmbbamaaB05
set_option linter.unusedVariables false
set_option linter.unusedSimpArgs false
section
namespace Go.Proofs.Ytobbepmlmbbamaa
open Go Go.RowKit
attribute [local go_sem ↓] Go.wp_at_zero Go.wp_at_succ
def fE (E:Nat → Nat) (x k:Nat):Bool := (List.range k).any (fun j => E (2 * j) == x || E (2 * j + 1) == x)
theorem fE_s (E:Nat → Nat) (x k:Nat):fE E x (k + 1) = (fE E x k || (E (2 * k) == x || E (2 * k + 1) == x)) := by
 unfold fE
 rw [List.range_succ,List.any_append]
 simp
theorem fE_iff (E:Nat → Nat) (x:Nat):fE E x 3 = true ↔ ∃ j,j < 6 ∧ x = E j := by
 rw [fE_s,fE_s,fE_s]
 have:fE E x 0 = false:=rfl
 rw [this]
 simp only [Bool.or_eq_true,beq_iff_eq,Bool.false_eq_true,false_or]
 constructor
 ·rintro ((h | h) | h)
  ·rcases h with h | h
   ·exact ⟨0,by omega,h.symm⟩
   ·exact ⟨1,by omega,h.symm⟩
  ·rcases h with h | h
   ·exact ⟨2,by omega,h.symm⟩
   ·exact ⟨3,by omega,h.symm⟩
  ·rcases h with h | h
   ·exact ⟨4,by omega,h.symm⟩
   ·exact ⟨5,by omega,h.symm⟩
 ·rintro ⟨j,hj,h⟩
  have:j = 0 ∨ j = 1 ∨ j = 2 ∨ j = 3 ∨ j = 4 ∨ j = 5:=by omega
  rcases this with rfl | rfl | rfl | rfl | rfl | rfl <;> simp [h]
theorem per_uniq {f:Nat → Nat} {x p q:Nat} (hp:Pl.Per f x p) (hq:Pl.Per f x q):p = q := by
 rcases Nat.lt_trichotomy p q with h | h | h
 ·exact absurd hp.2.1 (hq.2.2 p hp.1 h)
 ·exact h
 ·exact absurd hq.2.1 (hp.2.2 q hq.1 h)
theorem own_form1 {w:World} {base n cap:Nat} {A:Option Addr} {xs:List Value} (h:w.ownsRow base 3 1 (.slice A n cap) n xs) (hn:0 < n):∃ g,A = some ⟨g,0,none⟩:=by
 obtain ⟨g,c,e,_⟩:=World.ownsRow.form h hn
 injection e with e
 exact ⟨g,e⟩
structure INb (w:World) (dv:List Value) (gf:Nat) (F:List Nat) (W:World):Prop where
 x:Row W w.heap.size 24 dv
 f:∀ i,i < F.length → W.cell? ⟨gf,i,none⟩ = some (.int .i64 (F.getD i 0:Nat))
 bel:Below w.heap.size w W
theorem INb.drewN {w:World} {dv:List Value} {gf:Nat} {F:List Nat} {W:World} (h:INb w dv gf F W) (n:Nat):INb w dv gf F (W.drewN n) := ⟨h.x.drewN n,h.f,Below.drewN' h.bel n⟩
set_option maxRecDepth 100000 in
set_option maxHeartbeats 4000000 in
theorem rinner_any (d:Pl.Dg) (hd:Pl.Wf d) (A B:Option Addr) (cp cq m:Nat) (l:Value) (h ge ce:Nat) (E:Nat → Nat) (w:World) (hm:m = 4 * d.n) (hb:IntsAt w B m (nats d.mt)) (hh:h < 4 * d.n) (hE:∀ j,j < 6 → w.cell? ⟨ge,j,none⟩ = some (.int .i64 (E j:Nat))) :
 Calls Try.prog 106 #[.agg #[.slice A d.n cp,.slice B m cq,l],.int .i64 (h:Int),.slice (some ⟨ge,0,none⟩) 3 ce] w fun e w' => e = .returned (.bool (Pl.vb (Pl.Per (Pl.nx d) h 3 ∧ ∀ i,i < 3 → ∃ j,j < 6 ∧ Pl.it (Pl.nx d) i h = E j))) ∧ Below w.heap.size w w' := by
 have hn:=hd.few
 have HD:=hide hd
 have HM:=hide hm
 have HB:=hide hb
 have HE:=hide hE
 have hm2:m ≤ 256:=by omega
 obtain ⟨p,hpN,hper⟩:=hd.nxb.per (x := h) hh
 have HPER:=hide hper
 have hp0:=hper.1
 have X0:=hide (row_at (W := w) (g := w.heap.size) (t := 24) (vs := [.slice A d.n cp,.slice B m cq,l]) rfl)
 have B0:=hide (show Below w.heap.size w (w.alloc (.cells #[.slice A d.n cp,.slice B m cq,l] 24)) from (Below.refl _ _).alloc (Nat.le_refl _) _)
 clear hm hb hd hper hE
 go_enter Try.func106,Try.ntmps106
 go_wp2_with fail
 refine (rface_any d HD.out A B cp cq m l h p _ HM.out (HB.out.keep B0.out) hh HPER.out hpN).mono ?_
 rintro e w1 ⟨A5,c5,rfl,own5,hb1⟩
 obtain ⟨gf,rfl⟩:=own_form1 own5 hp0
 have I1:=hide (show INb w [.slice A d.n cp,.slice B m cq,l] gf (Pl.cyc (Pl.nx d) h p) w1 from ⟨X0.out.below hb1,fun i hi => by
  have h2:=OwnN.cell (show OwnN w1 _ gf p c5 (Pl.cyc (Pl.nx d) h p) from own5) (k := i) (by rw [Pl.cyc_len] at hi; exact hi)
  exact h2,B0.out.trans (hb1.mono B0.out.size)⟩)
 clear own5 hb1 X0 B0
 by_cases hp3:p = 3
 ·subst hp3
  have HV:=hide (show (Pl.Per (Pl.nx d) h 3 ∧ ∀ i,i < 3 → ∃ j,j < 6 ∧ Pl.it (Pl.nx d) i h = E j) ↔ ∀ i,i < 3 → fE E (Pl.it (Pl.nx d) i h) 3 = true from ⟨fun h i hi => (fE_iff E _).2 (h.2 i hi),fun h => ⟨HPER.out,fun i hi => (fE_iff E _).1 (h i hi)⟩⟩)
  have HF:=hide (show ∀ i,i < 3 → (Pl.cyc (Pl.nx d) h 3).getD i 0 = Pl.it (Pl.nx d) i h from fun i hi => by
   unfold Pl.cyc
   rw [List.getD_eq_getElem?_getD,List.getElem?_map,List.getElem?_range hi]; rfl)
  have HL:=hide (show (Pl.cyc (Pl.nx d) h 3).length = 3 from Pl.cyc_len _ _ _)
  obtain ⟨F,hF⟩:∃ F,F = Pl.cyc (Pl.nx d) h 3 := ⟨_,rfl⟩
  rw [← hF] at I1 HF HL
  clear hF hpN hp0
  go_wp2_with fail
  go_loopg [8,9,10] 3 (fun g s8 s9 s10 wx => ∃ q:Nat,q + g = 3 ∧ s8 = .int .i64 (q:Int) ∧ (∀ i,i < q → fE E (F.getD i 0) 3 = true) ∧ INb w [.slice A d.n cp,.slice B m cq,l] gf F wx)
  case atStart => exact ⟨0,by omega,rfl,fun i hi => absurd hi (by omega),I1.out⟩
  case round =>
   clear I1
   obtain ⟨q,hkg,rfl,hall,hin⟩:=hrel
   obtain ⟨go1,hgo1⟩:∃ g,g = gk := ⟨_,rfl⟩
   rw [← hgo1] at hkg
   have HGO:=hide hgo1
   clear hgo1
   have HKG:=hide hkg
   have HALL:=hide hall
   have IN:=hide hin
   clear hall hin
   by_cases hq:q < 3
   ·have hqi:(q:Int) < 3:=by omega
    clear hkg
    go_wp2_with fail
    go_loopg [9,10] 3 (fun g s9 s10 wx => ∃ k:Nat,k + g = 3 ∧ s10 = .int .i64 (k:Int) ∧ s9 = .bool (fE E (F.getD q 0) k) ∧ INb w [.slice A d.n cp,.slice B m cq,l] gf F wx)
    case atStart => exact ⟨0,by omega,rfl,rfl,IN.out⟩
    case round =>
     clear IN
     obtain ⟨k,hkg2,rfl,rfl,hin⟩:=hrel
     have HKG2:=hide hkg2
     have IN:=hide hin
     clear hin
     by_cases hk:k < 3
     ·have hki:(k:Int) < (3:Int):=by omega
      have hk0:(0:Int) ≤ (k:Int):=by omega
      have hq0:(0:Int) ≤ (q:Int):=by omega
      have c0:=cell_below (HE.out (2 * k) (by omega)) IN.out.bel
      have c1:=cell_below (HE.out (2 * k + 1) (by omega)) IN.out.bel
      have cf:=IN.out.f q (by rw [HL.out]; exact hq)
      have FS:=hide (fE_s E (F.getD q 0) k)
      obtain ⟨a,ha⟩:∃ a,a = E (2 * k) := ⟨_,rfl⟩
      obtain ⟨b,hb⟩:∃ a,a = E (2 * k + 1) := ⟨_,rfl⟩
      obtain ⟨x,hx⟩:∃ a,a = F.getD q 0 := ⟨_,rfl⟩
      obtain ⟨f,hf⟩:∃ f,f = fE E (F.getD q 0) k := ⟨_,rfl⟩
      rw [← hf,← ha,← hb,← hx] at FS
      rw [← ha] at c0
      rw [← hb] at c1
      rw [← hx] at cf
      rw [← hf]
      rw [show 2 * k = k * 2 by omega] at c0 c1
      have HX:=hide hx
      clear ha hb hx hf hkg2
      go_upto_region 11 with fail
      cases f with
      | true =>
        have FE:=hide (show fE E x (k + 1) = true by rw [FS.out]; rfl)
        go_quiet (fail)
        go_wp2
        go_roundg (gk - 1)
        case measure => have := HKG2.out; omega
        case rel => exact ⟨k + 1,by have := HKG2.out; omega,by go_num,by rw [← HX.out,FE.out],IN.out.drewN _⟩
      | false =>
        by_cases e1:a = x
        ·have t1:((a:Int) == (x:Int)) = true:=by rw [beq_iff_eq]; omega
         have FE:=hide (show fE E x (k + 1) = true by rw [FS.out]; simp [e1])
         clear e1
         go_quiet (fail)
         go_wp2
         go_roundg (gk - 1)
         case measure => have := HKG2.out; omega
         case rel => exact ⟨k + 1,by have := HKG2.out; omega,by go_num,by rw [← HX.out,FE.out],IN.out.drewN _⟩
        ·have t1:((a:Int) == (x:Int)) = false:=by rw [beq_eq_false_iff_ne]; omega
         by_cases e2:b = x
         ·have t2:((b:Int) == (x:Int)) = true:=by rw [beq_iff_eq]; omega
          have FE:=hide (show fE E x (k + 1) = true by rw [FS.out]; simp [e2])
          clear e1 e2
          go_quiet (fail)
          go_wp2
          go_roundg (gk - 1)
          case measure => have := HKG2.out; omega
          case rel => exact ⟨k + 1,by have := HKG2.out; omega,by go_num,by rw [← HX.out,FE.out],IN.out.drewN _⟩
         ·have t2:((b:Int) == (x:Int)) = false:=by rw [beq_eq_false_iff_ne]; omega
          have FE:=hide (show fE E x (k + 1) = false by rw [FS.out]; simp [e1,e2])
          clear e1 e2
          go_quiet (fail)
          go_wp2
          go_roundg (gk - 1)
          case measure => have := HKG2.out; omega
          case rel => exact ⟨k + 1,by have := HKG2.out; omega,by go_num,by rw [← HX.out,FE.out],IN.out.drewN _⟩
     ·have hki:¬ ((k:Int) < (3:Int)):=by omega
      obtain rfl:k = 3 := by omega
      clear hkg2 HKG2
      cases hf:fE E (F.getD q 0) 3 with
      | true =>
        have HFT:=hide hf
        clear hf
        go_wp2_with fail
        go_roundg (go1 - 1)
        case measure => have := HKG.out; have := HGO.out; omega
        case rel => exact ⟨q + 1,by have := HKG.out; omega,by go_num,fun i hi => by
         by_cases e:i = q
         ·rw [e]; exact HFT.out
         ·exact HALL.out i (by omega),IN.out⟩
      | false =>
        have HN:=hide (show ¬ (Pl.Per (Pl.nx d) h 3 ∧ ∀ i,i < 3 → ∃ j,j < 6 ∧ Pl.it (Pl.nx d) i h = E j) from fun h => by
         have:=HV.out.1 h q hq
         rw [← HF.out q hq,hf] at this
         cases this)
        clear hf
        go_wp2_with fail
        go_ret
        exact ⟨ret_bool (Pl.vb_false HN.out).symm,IN.out.bel⟩
   ·have hqi:¬ ((q:Int) < 3):=by omega
    have HY:=hide (show Pl.Per (Pl.nx d) h 3 ∧ ∀ i,i < 3 → ∃ j,j < 6 ∧ Pl.it (Pl.nx d) i h = E j from HV.out.2 fun i hi => by rw [← HF.out i hi]; exact HALL.out i (by omega))
    clear hkg
    go_wp2_with fail
    go_ret
    exact ⟨ret_bool (Pl.vb_true HY.out).symm,IN.out.bel⟩
 ·have HN:=hide (show ¬ (Pl.Per (Pl.nx d) h 3 ∧ ∀ i,i < 3 → ∃ j,j < 6 ∧ Pl.it (Pl.nx d) i h = E j) from fun h => hp3 (per_uniq HPER.out h.1))
  have t1:((p:Int) != 3) = true:=by rw [bne_iff_ne]; omega
  clear hp3
  go_wp2_with fail
  go_ret
  exact ⟨ret_bool (Pl.vb_false HN.out).symm,I1.out.bel⟩
end Go.Proofs.Ytobbepmlmbbamaa
end
