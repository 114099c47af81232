/-
 The texts Val, Wj, Wl, Wm, Wr, Ws, Wt, Wu, Xa, Xe, Slt, Wp, Wx, Wy.
-/
import Derived.Test.YtghdiolnonejaaaGreatDoorShelf
import Derived.Test.YtghdiolnonejaaaGreatDoorS02
import Derived.Deep.AppendLies
import Derived.Deep.CutBlock
import Derived.Deep.DeepCutAuto
import Derived.Deep.RegionLaw
import Derived.Maps.AppendAt
import Derived.Outline
import Derived.RegionTactic
set_option linter.unusedVariables false
set_option linter.unusedSimpArgs false
section
namespace Go.Proofs.YtghdiolnonejaaaGreatDoor
open Go.RowKit
theorem ints_pv {w:World} {A:Option Addr} {n k:Nat} {zs:List Int} (h:IntsAt w A n zs) (hk:k < n) :
 ∃ b o,A = some ⟨b,o,none⟩ ∧ w.cell? ⟨b,o + k,none⟩ = some (.int .i64 (Pl.pv zs k)) := h.at_ hk
set_option maxRecDepth 100000 in
set_option maxHeartbeats 1500000 in
theorem valid_any (sg mt:List Int) (lp:Int) (A B:Option Addr) (n q cp cq:Nat) (w:World) (hs:IntsAt w A n sg) (hm:IntsAt w B q mt) (hn:n ≤ maxLen) (hq:q ≤ maxLen) (hlp:-9223372036854775808 ≤ lp ∧ lp ≤ 9223372036854775807) :
 Calls Tryz.prog 8 #[.agg #[.slice A n cp,.slice B q cq,.int .i64 lp]] w fun e w' => e = .returned (.bool (Pl.vb (Pl.VL sg mt lp))) ∧ Below w.heap.size w w' := by
 unfold maxLen at hn hq
 have HLS:=hide hs.len
 have HLM:=hide hm.len
 have b0:Below w.heap.size w (w.alloc (.cells #[.slice A n cp,.slice B q cq,.int .i64 lp] 24)):=(Below.refl _ _).alloc (Nat.le_refl _) _
 by_cases h1:64 < n
 ·have HV:=hide (fun h:Pl.VL sg mt lp => show False by have := h.few; have := HLS.out; omega)
  go_enter Tryz.func8,Tryz.ntmps8
  go_wp2
  go_ret
  exact ⟨ret_bool (Pl.vb_false HV.out).symm,b0⟩
 ·have h1':decide (64 < (n:Int)) = false:=by simp; omega
  by_cases h2:q = 4 * n
  ·by_cases h3:0 ≤ lp ∧ lp ≤ 64
   ·have h2':(((q:Nat):Int) != 4 * (n:Int)) = false:=by simp; omega
    have h3a:decide (lp < 0) = false:=by simp; omega
    have h3b:decide (64 < lp) = false:=by simp; omega
    have HQ4:=hide h2
    have hq6:q ≤ 256:=by omega
    clear h2
    have x0:Row (w.alloc (.cells #[.slice A n cp,.slice B q cq,.int .i64 lp] 24)) w.heap.size 24 (boxV A B n cp q cq (.int .i64 lp)):=Row.new w _ _
    go_enter Tryz.func8,Tryz.ntmps8
    go_wp2
    have B0:=hide b0
    have X0:=hide x0
    clear b0 x0 h1' h2' h3a h3b
    go_loopg [34] n (fun g i wx => ∃ k:Nat,k + g = n ∧ i = .int .i64 k ∧ (∀ c,c < k → Pl.pv sg c = 1 ∨ Pl.pv sg c = -1) ∧ Below w.heap.size w wx ∧ Row wx w.heap.size 24 (boxV A B n cp q cq (.int .i64 lp)))
    case atStart => exact ⟨0,by omega,rfl,fun c hc => absurd hc (by omega),B0.out,X0.out⟩
    case round =>
     clear B0 X0
     obtain ⟨k,hkg,rfl,hsg,b1,x1⟩:=hrel
     have HG:=hide hkg
     have HSG:=hide hsg
     have hkn:k ≤ n:=by omega
     clear hkg hsg
     by_cases hlt:k < n
     ·obtain ⟨ab,ao,rfl,hc⟩:=ints_pv hs hlt
      have hc1:=cell_below hc b1
      have B1:=hide b1
      have X1:=hide x1
      clear b1 x1 hc
      by_cases hz:Pl.pv sg k = 1
      ·have HZ:=hide hz
       rw [hz] at hc1
       clear hz
       go_wp2
       go_roundg (gk - 1)
       case measure => have := HG.out; omega
       case rel =>
        refine ⟨k + 1,by have := HG.out; omega,by go_num,fun c hc => ?_,B1.out,X1.out⟩
        by_cases e:c = k
        ·rw [e]; exact .inl HZ.out
        ·exact HSG.out c (by omega)
      ·by_cases hz2:Pl.pv sg k = -1
       ·have HZ:=hide hz2
        rw [hz2] at hc1
        clear hz hz2
        go_wp2
        go_roundg (gk - 1)
        case measure => have := HG.out; omega
        case rel =>
         refine ⟨k + 1,by have := HG.out; omega,by go_num,fun c hc => ?_,B1.out,X1.out⟩
         by_cases e:c = k
         ·rw [e]; exact .inr HZ.out
         ·exact HSG.out c (by omega)
       ·have HV := hide (fun h : Pl.VL sg mt lp => show False by
         rcases h.sign (c := k) (by have := HLS.out; omega) with e | e
         ·exact hz e
         ·exact hz2 e)
        have t1:(Pl.pv sg k != 1) = true:=by rw [bne_iff_ne]; exact hz
        have t2:(Pl.pv sg k != -1) = true:=by rw [bne_iff_ne]; exact hz2
        clear hz hz2
        go_wp2
        go_ret
        exact ⟨ret_bool (Pl.vb_false HV.out).symm,B1.out⟩
     ·have HSG':=hide (fun (c:Nat) (hc:c < sg.length) => HSG.out c (by have := HLS.out; omega))
      have B1:=hide b1
      have X1:=hide x1
      have x1c:wr.cell? ⟨w.heap.size,1,none⟩ = some (.slice B q cq):=x1.cell (i := 1) (by show 1 < 3; omega)
      clear b1 x1 HSG HG
      go_wp2
      clear x1c
      go_loopg [48] q (fun g i wx => ∃ k:Nat,k + g = q ∧ i = .int .i64 k ∧ (∀ h,h < k → 0 ≤ Pl.pv mt h ∧ Pl.pv mt h < mt.length ∧ Pl.pv mt h ≠ h ∧ Pl.pv mt (Pl.pv mt h).toNat = h ∧ Pl.out (Pl.mk sg mt lp) h ≠ Pl.out (Pl.mk sg mt lp) (Pl.pv mt h).toNat) ∧ Below w.heap.size w wx ∧ Row wx w.heap.size 24 (boxV A B n cp q cq (.int .i64 lp)))
      case atStart => exact ⟨0,by omega,rfl,fun c hc => absurd hc (by omega),B1.out,X1.out⟩
      case round =>
       clear B1 X1
       obtain ⟨j,hjg,rfl,hmo,b2,x2⟩:=hrel
       have HG:=hide hjg
       have HMO:=hide hmo
       have hjq:j ≤ q:=by omega
       clear hjg hmo
       by_cases hlt2:j < q
       ·obtain ⟨bb,bo,rfl,hc⟩:=ints_pv hm hlt2
        have hc1:=cell_below hc b2
        have x2c:wr.cell? ⟨w.heap.size,1,none⟩ = some (.slice (some ⟨bb,bo,none⟩) q cq):=x2.cell (i := 1) (by show 1 < 3; omega)
        have hjl:j < mt.length:=by have := HLM.out; omega
        have B2:=hide b2
        have X2:=hide x2
        clear b2 x2 hc
        by_cases hz0:Pl.pv mt j < 0
        ·have HV:=hide (fun h:Pl.VL sg mt lp => show False by have := (h.mate hjl).1; omega)
         have t1:decide (Pl.pv mt j < 0) = true:=by simpa using hz0
         clear hz0
         go_wp2
         go_ret
         exact ⟨ret_bool (Pl.vb_false HV.out).symm,B2.out⟩
        ·have t1:decide (Pl.pv mt j < 0) = false:=by simpa using hz0
         by_cases hz1:Pl.pv mt j < q
         ·obtain ⟨t,ht⟩:∃ t:Nat,Pl.pv mt j = t := ⟨(Pl.pv mt j).toNat,by omega⟩
          have htq:t < q:=by omega
          have t2:decide (4 * (n:Int) ≤ (t:Int)) = false:=by have := HQ4.out; simp; omega
          rw [ht] at hc1 t1
          have HT:=hide ht
          have hj4:j < 4 * n:=by have := HQ4.out; omega
          have ht4:t < 4 * n:=by have := HQ4.out; omega
          clear hz0 hz1 ht
          by_cases htj:t = j
          ·have HV:=hide (fun h:Pl.VL sg mt lp => show False by have := (h.mate hjl).2.2.1; rw [HT.out] at this; omega)
           have t3:(((t:Nat):Int) == (j:Int)) = true:=by simp; omega
           clear htj
           go_wp2
           go_ret
           exact ⟨ret_bool (Pl.vb_false HV.out).symm,B2.out⟩
          ·have t3:(((t:Nat):Int) == (j:Int)) = false:=by simp; omega
           obtain ⟨bb',bo',ebb,hcb⟩:=ints_pv hm htq
           injection ebb with ebb
           injection ebb with ebb1 ebb2
           subst ebb1; subst ebb2
           have hc2:=cell_below hcb B2.out
           clear hcb
           by_cases hinv:Pl.pv mt t = j
           ·have HI:=hide hinv
            rw [hinv] at hc2
            clear hinv
            have HSS:=hide (fun (p:Cls (fun w' => Row w' w.heap.size 24 (boxV A (some ⟨bb,bo,none⟩) n cp q cq (.int .i64 lp)) ∧ Below w.heap.size w w')) (h:Nat) (hh:h < 4 * n) =>
             calls_cls (C := fun w' => Row w' w.heap.size 24 (boxV A (some ⟨bb,bo,none⟩) n cp q cq (.int .i64 lp)) ∧ Below w.heap.size w w')
              (out_n (Pl.mk sg mt lp) A (some ⟨bb,bo,none⟩) n cp q cq (.int .i64 lp) h p.w HLS.out.symm hh (by omega) (hs.keep p.ok.2)) (fun e w' h => ⟨h.1,p.ok.1.below h.2,p.ok.2.trans (h.2.mono p.ok.2.size)⟩))
            have c30:∀ p:Cls (fun w' => Row w' w.heap.size 24 (boxV A (some ⟨bb,bo,none⟩) n cp q cq (.int .i64 lp)) ∧ Below w.heap.size w w'),p.w.cell? ⟨w.heap.size,0,none⟩ = some (.slice A n cp):=fun p => p.ok.1.cell (i := 0) (by show 0 < 3; omega)
            have c31:∀ p:Cls (fun w' => Row w' w.heap.size 24 (boxV A (some ⟨bb,bo,none⟩) n cp q cq (.int .i64 lp)) ∧ Below w.heap.size w w'),p.w.cell? ⟨w.heap.size,1,none⟩ = some (.slice (some ⟨bb,bo,none⟩) q cq):=fun p => p.ok.1.cell (i := 1) (by show 1 < 3; omega)
            have c32:∀ p:Cls (fun w' => Row w' w.heap.size 24 (boxV A (some ⟨bb,bo,none⟩) n cp q cq (.int .i64 lp)) ∧ Below w.heap.size w w'),p.w.cell? ⟨w.heap.size,2,none⟩ = some (.int .i64 lp):=fun p => p.ok.1.cell (i := 2) (by show 2 < 3; omega)
            go_wp2
            refine wp_region_cls (fun w' => Row w' w.heap.size 24 (boxV A (some ⟨bb,bo,none⟩) n cp q cq (.int .i64 lp)) ∧ Below w.heap.size w w') (by kernel_rfl) (by kernel_rfl) ⟨X2.out.drew,B2.out.drew⟩ (fun hne => ?_)
            repeat (quiet_step ((go_at_call 20; exact HSS.out _ _ (by omega))))
            refine wpQuiet_nil ?_
            rintro _ ⟨p,rfl⟩
            have hp1:=hide p.ok.1
            have hp2:=hide p.ok.2
            clear HSS c30 c31 c32
            go_wp2
            ·have t5:(Pl.out (Pl.mk sg mt lp) j == Pl.out (Pl.mk sg mt lp) t) = true:=by assumption
             go_ret
             refine ⟨ret_bool (Pl.vb_false fun h => ?_).symm,hp2.out⟩
             have h5:=(h.mate hjl).2.2.2.2
             rw [HT.out,Int.toNat_natCast] at h5
             exact h5 (beq_iff_eq.1 t5)
            ·have t5:(Pl.out (Pl.mk sg mt lp) j == Pl.out (Pl.mk sg mt lp) t) = false:=by assumption
             go_roundg (gk - 1)
             case measure => have := HG.out; omega
             case rel =>
              refine ⟨j + 1,by have := HG.out; omega,by go_num,fun h hh => ?_,hp2.out,hp1.out⟩
              by_cases e:h = j
              ·subst e
               rw [HT.out,Int.toNat_natCast]
               exact ⟨by omega,by have := HLM.out; omega,by omega,HI.out,beq_eq_false_iff_ne.1 t5⟩
              ·exact HMO.out h (by omega)
           ·have HV := hide (fun h : Pl.VL sg mt lp => show False by
             have:=(h.mate hjl).2.2.2.1
             rw [HT.out,Int.toNat_natCast] at this
             exact hinv this)
            have t4:(Pl.pv mt t != (j:Int)) = true:=by rw [bne_iff_ne]; exact hinv
            clear hinv
            go_wp2
            go_ret
            exact ⟨ret_bool (Pl.vb_false HV.out).symm,B2.out⟩
         ·have HV:=hide (fun h:Pl.VL sg mt lp => show False by have := (h.mate hjl).2.1; have := HLM.out; omega)
          have t2:decide (4 * (n:Int) ≤ Pl.pv mt j) = true:=by have := HQ4.out; simp; omega
          clear hz0 hz1
          go_wp2
          go_ret
          exact ⟨ret_bool (Pl.vb_false HV.out).symm,B2.out⟩
       ·have hjq':j = q:=by omega
        have hw:=Pl.wf_of (sg := sg) (mt := mt) (lp := lp) (by have := HLS.out; omega) (by have := HLS.out; have := HLM.out; have := HQ4.out; omega) h3 HSG'.out (fun k hk => HMO.out k (by have := HLM.out; omega))
        have hpos:∀ z,z ∈ mt → 0 ≤ z:=fun z hz => by
         obtain ⟨k,hk,rfl⟩:=Pl.mem_pv hz
         exact (HMO.out k (by have := HLM.out; omega)).1
        have HW:=hide hw
        have HR:=hide (Pl.VL.of hw hpos h3.1)
        have HN:=hide (Pl.nats_mk (sg := sg) (lp := lp) hpos)
        have B2:=hide b2
        have x20:wr.cell? ⟨w.heap.size,0,none⟩ = some (.slice A n cp):=x2.cell (i := 0) (by show 0 < 3; omega)
        have x21:wr.cell? ⟨w.heap.size,1,none⟩ = some (.slice B q cq):=x2.cell (i := 1) (by show 1 < 3; omega)
        have x22:wr.cell? ⟨w.heap.size,2,none⟩ = some (.int .i64 lp):=x2.cell (i := 2) (by show 2 < 3; omega)
        clear b2 x2 hw hpos hjq'
        go_wp2_with fail
        refine (spherical_n (Pl.mk sg mt lp) HW.out A B n q cp cq (.int .i64 lp) _ HLS.out.symm (by have := HQ4.out; have := HLS.out; rw [Pl.mk_n]; omega) ?_ ⟨?_,?_⟩).mono ?_
        ·show Value.int .i64 lp = .int .i64 ((lp.toNat:Nat):Int)
         rw [Int.toNat_of_nonneg h3.1]
        ·rw [Pl.mk_n,HLS.out]; exact hs.keep B2.out
        ·unfold nats
         rw [HN.out,Pl.mk_n,HLS.out,← HQ4.out]; exact hm.keep B2.out
        rintro e w3 ⟨rfl,hb3⟩
        go_wp2
        go_ret
        exact ⟨ret_bool (congrArg Pl.vb (propext HR.out.symm)),B2.out.trans (hb3.mono B2.out.size)⟩
   ·have HV:=hide (fun h:Pl.VL sg mt lp => show False by have := h.loops; omega)
    have h2':(((q:Nat):Int) != 4 * (n:Int)) = false:=by simp; omega
    have HQ2:=hide h2
    clear h2
    go_enter Tryz.func8,Tryz.ntmps8
    go_wp2
    all_goals
     go_ret
     exact ⟨ret_bool (Pl.vb_false HV.out).symm,b0⟩
  ·have HV:=hide (fun h:Pl.VL sg mt lp => show False by have := h.len; have := HLS.out; have := HLM.out; omega)
   have h2':(((q:Nat):Int) != 4 * (n:Int)) = true:=by simp; omega
   go_enter Tryz.func8,Tryz.ntmps8
   go_wp2
   go_ret
   exact ⟨ret_bool (Pl.vb_false HV.out).symm,b0⟩
end Go.Proofs.YtghdiolnonejaaaGreatDoor
end
section
namespace Go.Proofs.YtghdiolnonejaaaGreatDoor
open Go.RowKit
theorem out2_i (d:Pl.Dg) (A B:Option Addr) (n cp q cq:Nat) (l:Value) (h:Int) (w:World) (e:n = d.n) (hh:0 ≤ h ∧ h < 4 * (n:Int)) (hn:n ≤ 1000) (hs:IntsAt w A n d.sg) :
 Calls Tryz.prog 105 #[.agg #[.slice A n cp,.slice B q cq,l],.int .i64 h] w fun e w' => e = .returned (.bool (Pl.out d h.toNat)) ∧ Below w.heap.size w w' := by
 obtain ⟨k,rfl⟩:=Int.eq_ofNat_of_zero_le hh.1
 exact out2_n d A B n cp q cq l k w e (by omega) hn hs
theorem opp_i (h:Int) (w:World) (hh:0 ≤ h ∧ h ≤ 1000000) :
 Calls Tryz.prog 60 #[.int .i64 h] w fun e w' => e = .returned (.int .i64 (Pl.tn h.toNat 2:Nat)) ∧ w' = w := by
 obtain ⟨k,rfl⟩:=Int.eq_ofNat_of_zero_le hh.1
 refine (opposite_any k w (by omega)).mono ?_
 rintro e w' ⟨rfl,rfl⟩
 exact ⟨rfl,rfl⟩
theorem below_drewN {B:Nat} {a w:World} (h:Below B a w) (n:Nat):Below B a (w.drewN n) := ⟨h.os,h.tape,h.output,h.size,h.block⟩
def kk (d:Pl.Dg) (c:Nat):Nat := if d.m (4 * c + 2) / 4 = c then 4 * c + 2 else if d.s c = 1 then 4 * c + 1 else 4 * c + 3
def isK (d:Pl.Dg) (c:Nat):Prop := d.m (kk d c) / 4 = c
def kinkE (d:Pl.Dg) (c:Nat) (b:Bool):Ending := if b then .returned (.tuple #[.int .i64 (Pl.tn (kk d c) 2:Nat),.int .i64 (Pl.tn (d.m (kk d c)) 2:Nat),.bool true]) else .returned (.tuple #[.int .i64 0,.int .i64 0,.bool false])
def KinkPost (d:Pl.Dg) (c:Nat) (w:World) (e:Ending) (w':World):Prop := e = kinkE d c (Pl.vb (isK d c)) ∧ Below w.heap.size w w'
theorem kink_at {d:Pl.Dg} {c o:Nat} {w:World} {e:Ending} {w':World} (h:kk d c = o) (hm:d.m o / 4 = c) (he:e = .returned (.tuple #[.int .i64 (Pl.tn o 2:Nat),.int .i64 (Pl.tn (d.m o) 2:Nat),.bool true])) (hb:Below w.heap.size w w'):KinkPost d c w e w' := by
 refine ⟨?_,hb⟩
 rw [Pl.vb_true (show isK d c by unfold isK; rw [h]; exact hm)]
 unfold kinkE
 rw [if_pos rfl,h,he]
theorem kink_no {d:Pl.Dg} {c:Nat} {w:World} {e:Ending} {w':World} (h:¬ d.m (kk d c) / 4 = c) (he:e = .returned (.tuple #[.int .i64 0,.int .i64 0,.bool false])) (hb:Below w.heap.size w w'):KinkPost d c w e w' := by
 refine ⟨?_,hb⟩
 rw [Pl.vb_false (show ¬ isK d c from h)]
 exact he
set_option maxRecDepth 100000 in
set_option maxHeartbeats 2000000 in
theorem kink_any (d:Pl.Dg) (hd:Pl.Wf d) (A B:Option Addr) (cp cq m c:Nat) (w:World) (hm:m = 4 * d.n) (hg:DgAt w A B d) (hc:c < d.n) :
 Calls Tryz.prog 76 #[.agg #[.slice A d.n cp,.slice B m cq,.int .i64 d.lp],.int .i64 (c:Int)] w (KinkPost d c w) := by
 have hn:=hd.few
 have HM:=hide hm
 clear hm
 have hmm:m ≤ 256:=by have := HM.out; omega
 have HG:=hide hg
 clear hg
 have x0:Row (w.alloc (.cells #[.slice A d.n cp,.slice B m cq,.int .i64 d.lp] 24)) w.heap.size 24 [.slice A d.n cp,.slice B m cq,.int .i64 d.lp]:=Row.new w _ _
 have X0:=hide x0
 have B0:=hide (show Below w.heap.size w (w.alloc (.cells #[.slice A d.n cp,.slice B m cq,.int .i64 d.lp] 24)) from (Below.refl _ _).alloc (Nat.le_refl _) _)
 clear x0
 go_enter Tryz.func76,Tryz.ntmps76
 go_wp2
 go_loopg [11] 3 (fun g i wx => ∃ k:Nat,k + g = 3 ∧ i = .int .i64 k ∧ (0 < k → ¬ d.m (4 * c + 2) / 4 = c) ∧ (1 < k → d.s c = 1 → ¬ d.m (4 * c + 1) / 4 = c) ∧ (2 < k → d.s c = -1 → ¬ d.m (4 * c + 3) / 4 = c) ∧ Below w.heap.size w wx ∧ Row wx w.heap.size 24 [.slice A d.n cp,.slice B m cq,.int .i64 d.lp])
 case atStart => exact ⟨0,rfl,rfl,fun h => absurd h (by omega),fun h => absurd h (by omega),fun h => absurd h (by omega),B0.out,X0.out⟩
 case round =>
  clear B0 X0
  obtain ⟨k,hkg,rfl,q0,q1,q2,b1,x1⟩:=hrel
  have HG0:=hide hkg
  have Q0:=hide q0
  have Q1:=hide q1
  have Q2:=hide q2
  have B1:=hide b1
  have X1:=hide x1
  have hk4:k = 0 ∨ k = 1 ∨ k = 2 ∨ k = 3:=by omega
  obtain ⟨e0,e1,e2,e3⟩:=box3 x1
  have i0:∀ W,(Instr.index 153 (.agg #[.int .i64 2,.int .i64 1,.int .i64 3]) (.int .i64 0)).run Tryz.prog W = .ok (.int .i64 2) W:=fun _ => by kernel_rfl
  have i1:∀ W,(Instr.index 153 (.agg #[.int .i64 2,.int .i64 1,.int .i64 3]) (.int .i64 1)).run Tryz.prog W = .ok (.int .i64 1) W:=fun _ => by kernel_rfl
  have i2:∀ W,(Instr.index 153 (.agg #[.int .i64 2,.int .i64 1,.int .i64 3]) (.int .i64 2)).run Tryz.prog W = .ok (.int .i64 3) W:=fun _ => by kernel_rfl
  clear hkg q0 q1 q2 b1 x1
  rcases hk4 with rfl | rfl | rfl | rfl
  ·go_wp2_with fail
   refine (out2_i d A B d.n cp m cq (.int .i64 d.lp) _ _ rfl (by omega) (by omega) (HG.out.s.keep B1.out)).mono ?_
   rintro e w2 ⟨rfl,hb2⟩
   have B2:=hide (B1.out.trans (hb2.mono B1.out.size))
   have X2:=hide (X1.out.below hb2)
   have HG2:=hide (HG.out.keep B2.out)
   have et:(4 * (c:Int) + 2).toNat = 4 * c + 2:=by omega
   rw [et]
   clear et hb2
   obtain ⟨b,o,rfl,cm⟩:=mate_at HG2.out.m (k := 4 * c + 2) (by omega)
   obtain ⟨f0,f1,f2,f3⟩:=box3 X2.out
   have g1:(0:Int) ≤ 4 * (c:Int) + 2:=by omega
   have g2:4 * (c:Int) + 2 < (m:Int):=by have := HM.out; omega
   have lt:=hd.lt (4 * c + 2) (by omega)
   obtain ⟨x,hx⟩:∃ x,x = d.m (4 * c + 2) := ⟨_,rfl⟩
   rw [← hx] at cm lt
   have HX:=hide hx
   clear hx
   have hO:Pl.out d (4 * c + 2) = true:=out_two (by omega)
   rw [hO]
   clear hO
   by_cases hk:x / 4 = c
   ·have t1:((x:Int) / 4 == (c:Int)) = true:=by rw [beq_iff_eq]; omega
    have HK:=hide hk
    clear hk
    go_wp2_with fail
    go_quiet ((go_at_call 60; exact Calls.quiet_of_same (opp_i _ _ (by omega))))
    go_wp2
    go_ret3
    have hkk:kk d c = 4 * c + 2:=by unfold kk; rw [if_pos (by rw [← HX.out]; exact HK.out)]
    refine kink_at hkk (by rw [← HX.out]; exact HK.out) ?_ (below_drewN B2.out _)
    rw [← HX.out,show (4 * (c:Int) + 2).toNat = 4 * c + 2 by omega,Int.toNat_natCast]
    rfl
   ·have t1:((x:Int) / 4 == (c:Int)) = false:=by rw [beq_eq_false_iff_ne]; omega
    have HK:=hide hk
    clear hk
    go_wp2
    go_roundg 2
    case measure => have := HG0.out; omega
    case rel => exact ⟨1,rfl,by go_num,fun _ => by rw [← HX.out]; exact HK.out,fun h => absurd h (by omega),fun h => absurd h (by omega),B2.out,X2.out⟩
  ·go_wp2_with fail
   refine (out2_i d A B d.n cp m cq (.int .i64 d.lp) _ _ rfl (by omega) (by omega) (HG.out.s.keep B1.out)).mono ?_
   rintro e w2 ⟨rfl,hb2⟩
   have B2:=hide (B1.out.trans (hb2.mono B1.out.size))
   have X2:=hide (X1.out.below hb2)
   have HG2:=hide (HG.out.keep B2.out)
   have et:(4 * (c:Int) + 1).toNat = 4 * c + 1:=by omega
   rw [et]
   clear et hb2
   obtain ⟨b,o,rfl,cm⟩:=mate_at HG2.out.m (k := 4 * c + 1) (by omega)
   obtain ⟨f0,f1,f2,f3⟩:=box3 X2.out
   have g1:(0:Int) ≤ 4 * (c:Int) + 1:=by omega
   have g2:4 * (c:Int) + 1 < (m:Int):=by have := HM.out; omega
   have lt:=hd.lt (4 * c + 1) (by omega)
   obtain ⟨x,hx⟩:∃ x,x = d.m (4 * c + 1) := ⟨_,rfl⟩
   rw [← hx] at cm lt
   have HX:=hide hx
   clear hx
   by_cases hs1:d.s c = 1
   ·have S1:=hide hs1
    clear hs1
    have hO:Pl.out d (4 * c + 1) = true:=by rw [out_one (by omega),show (4 * c + 1) / 4 = c by omega,S1.out]; rfl
    rw [hO]
    clear hO
    by_cases hk:x / 4 = c
    ·have t1:((x:Int) / 4 == (c:Int)) = true:=by rw [beq_iff_eq]; omega
     have HK:=hide hk
     clear hk
     go_wp2_with fail
     go_quiet ((go_at_call 60; exact Calls.quiet_of_same (opp_i _ _ (by omega))))
     go_wp2
     go_ret3
     have hkk:kk d c = 4 * c + 1:=by unfold kk; rw [if_neg (Q0.out (by omega)),if_pos S1.out]
     refine kink_at hkk (by rw [← HX.out]; exact HK.out) ?_ (below_drewN B2.out _)
     rw [← HX.out,show (4 * (c:Int) + 1).toNat = 4 * c + 1 by omega,Int.toNat_natCast]
     rfl
    ·have t1:((x:Int) / 4 == (c:Int)) = false:=by rw [beq_eq_false_iff_ne]; omega
     have HK:=hide hk
     clear hk
     go_wp2
     go_roundg 1
     case measure => have := HG0.out; omega
     case rel => exact ⟨2,rfl,by go_num,fun _ => Q0.out (by omega),fun _ _ => by rw [← HX.out]; exact HK.out,fun h => absurd h (by omega),B2.out,X2.out⟩
   ·have S1:=hide hs1
    clear hs1
    have hO:Pl.out d (4 * c + 1) = false:=by rw [out_one (by omega),show (4 * c + 1) / 4 = c by omega,beq_eq_false_iff_ne]; exact S1.out
    rw [hO]
    clear hO
    go_wp2
    go_roundg 1
    case measure => have := HG0.out; omega
    case rel => exact ⟨2,rfl,by go_num,fun _ => Q0.out (by omega),fun _ h => absurd h S1.out,fun h => absurd h (by omega),B2.out,X2.out⟩
  ·go_wp2_with fail
   refine (out2_i d A B d.n cp m cq (.int .i64 d.lp) _ _ rfl (by omega) (by omega) (HG.out.s.keep B1.out)).mono ?_
   rintro e w2 ⟨rfl,hb2⟩
   have B2:=hide (B1.out.trans (hb2.mono B1.out.size))
   have X2:=hide (X1.out.below hb2)
   have HG2:=hide (HG.out.keep B2.out)
   have et:(4 * (c:Int) + 3).toNat = 4 * c + 3:=by omega
   rw [et]
   clear et hb2
   obtain ⟨b,o,rfl,cm⟩:=mate_at HG2.out.m (k := 4 * c + 3) (by omega)
   obtain ⟨f0,f1,f2,f3⟩:=box3 X2.out
   have g1:(0:Int) ≤ 4 * (c:Int) + 3:=by omega
   have g2:4 * (c:Int) + 3 < (m:Int):=by have := HM.out; omega
   have lt:=hd.lt (4 * c + 3) (by omega)
   obtain ⟨x,hx⟩:∃ x,x = d.m (4 * c + 3) := ⟨_,rfl⟩
   rw [← hx] at cm lt
   have HX:=hide hx
   clear hx
   by_cases hs1:d.s c = -1
   ·have S1:=hide hs1
    have S2:=hide (show ¬ d.s c = 1 by omega)
    clear hs1
    have hO:Pl.out d (4 * c + 3) = true:=by rw [out_three (by omega),show (4 * c + 3) / 4 = c by omega,S1.out]; rfl
    rw [hO]
    clear hO
    by_cases hk:x / 4 = c
    ·have t1:((x:Int) / 4 == (c:Int)) = true:=by rw [beq_iff_eq]; omega
     have HK:=hide hk
     clear hk
     go_wp2_with fail
     go_quiet ((go_at_call 60; exact Calls.quiet_of_same (opp_i _ _ (by omega))))
     go_wp2
     go_ret3
     have hkk:kk d c = 4 * c + 3:=by unfold kk; rw [if_neg (Q0.out (by omega)),if_neg S2.out]
     refine kink_at hkk (by rw [← HX.out]; exact HK.out) ?_ (below_drewN B2.out _)
     rw [← HX.out,show (4 * (c:Int) + 3).toNat = 4 * c + 3 by omega,Int.toNat_natCast]
     rfl
    ·have t1:((x:Int) / 4 == (c:Int)) = false:=by rw [beq_eq_false_iff_ne]; omega
     have HK:=hide hk
     clear hk
     go_wp2
     go_roundg 0
     case measure => have := HG0.out; omega
     case rel => exact ⟨3,rfl,by go_num,fun _ => Q0.out (by omega),fun _ => Q1.out (by omega),fun _ _ => by rw [← HX.out]; exact HK.out,B2.out,X2.out⟩
   ·have S1:=hide hs1
    clear hs1
    have hO:Pl.out d (4 * c + 3) = false:=by rw [out_three (by omega),show (4 * c + 3) / 4 = c by omega,beq_eq_false_iff_ne]; exact S1.out
    rw [hO]
    clear hO
    go_wp2
    go_roundg 0
    case measure => have := HG0.out; omega
    case rel => exact ⟨3,rfl,by go_num,fun _ => Q0.out (by omega),fun _ => Q1.out (by omega),fun _ h => absurd h S1.out,B2.out,X2.out⟩
  ·go_wp2
   go_ret3
   refine kink_no ?_ rfl B1.out
   unfold kk
   have h0:=Q0.out (by omega)
   rw [if_neg h0]
   rcases hd.sign c hc with h | h
   ·rw [if_pos h]; exact Q1.out (by omega) h
   ·rw [if_neg (by omega)]; exact Q2.out (by omega) h
end Go.Proofs.YtghdiolnonejaaaGreatDoor
end
section
namespace Go.Proofs.YtghdiolnonejaaaGreatDoor
open Go Go.RowKit
structure Shk (w:World) (vS vM:Value) (ss:List Int) (ms:List Nat) (lp:Int) (W:World):Prop where
 res:Row W w.heap.size 24 [.slice none 0 0,.slice none 0 0,.int .i64 0]
 box:Row W (w.heap.size + 1) 24 [vS,vM,.int .i64 lp]
 s:W.ownsRow (w.heap.size + 2) 3 1 vS ss.length (ss.map (.int .i64))
 m:W.ownsRow (w.heap.size + 2) 3 1 vM ms.length (ms.map (fun k:Nat => Value.int .i64 k))
 ne:∀ g,vS.ownBlock = some g → vM.ownBlock ≠ some g
 bel:Below w.heap.size w W
theorem Shk.big {w:World} {vS vM:Value} {ss:List Int} {ms:List Nat} {lp:Int} {W:World} (h:Shk w vS vM ss ms lp W):w.heap.size + 2 ≤ W.heap.size := by have := h.box.lt; omega
theorem Shk.below {w:World} {vS vM:Value} {ss:List Int} {ms:List Nat} {lp:Int} {W W':World} (h:Shk w vS vM ss ms lp W) (hb:Below W.heap.size W W'):Shk w vS vM ss ms lp W' :=
 ⟨h.res.below hb,h.box.below hb,own_keep h.s hb (Nat.le_refl _),own_keep h.m hb (Nat.le_refl _),h.ne,h.bel.trans (hb.mono (by have := h.big; omega))⟩
theorem Shk.alloc {w:World} {vS vM:Value} {ss:List Int} {ms:List Nat} {lp:Int} {W:World} (h:Shk w vS vM ss ms lp W) (o:Obj):Shk w vS vM ss ms lp (W.alloc o) := h.below ((Below.refl _ _).alloc (Nat.le_refl _) o)
theorem row_apart {W:World} {g:Nat} {vs:List Value} {base:Nat} {v:Value} {n:Nat} {xs:List Value} (h:Row W g 24 vs) (ho:W.ownsRow base 3 1 v n xs):some g ≠ v.ownBlock := by
 intro e
 obtain ⟨cs,fr,h3⟩:=ownsRow_block ho g e.symm
 rw [h] at h3
 injection h3 with h3
 injection h3 with _ h4
 exact absurd h4 (by decide)
theorem Shk.appS {w:World} {vS vM v':Value} {ss:List Int} {ms:List Nat} {lp x:Int} {W W2:World} (h:Shk w vS vM ss ms lp W) (own:W2.ownsRow (w.heap.size + 2) 3 1 v' (ss.length + 1) (ss.map (.int .i64) ++ [.int .i64 x])) (gr:W.grownBy W2 vS.ownBlock) {g':Nat} (hv:v'.ownBlock = some g') (hat0:vS.ownBlock = some g' ∨ g' = W.heap.size) :
 Shk w v' vM (ss ++ [x]) ms lp (W2.setCell ⟨w.heap.size + 1,0,none⟩ v') := by
 have hat:v'.ownBlock = vS.ownBlock ∨ v'.ownBlock = some W.heap.size:=by
  rcases hat0 with e | e
  ·exact .inl (hv.trans e.symm)
  ·exact .inr (hv.trans (congrArg some e))
 have hlt:=h.s.lt
 have hlm:=h.m.lt
 refine ⟨(h.res.grown gr (row_apart h.res h.s)).other (by simp) _,(h.box.grown gr (row_apart h.box h.s)).set 0 v',?_,?_,?_,?_⟩
 ·refine ownsRow_setCell_below ?_ (by simp) _
  simpa using own
 ·refine ownsRow_setCell_below (h.m.kept gr ?_) (by simp) _
  cases hm:vM.ownBlock with
  | none => exact .inl rfl
  | some g => exact .inr (fun e => h.ne g e.symm hm)
 ·intro g hg hm
  rcases hat with e | e
  ·exact h.ne g (e ▸ hg) hm
  ·rw [e] at hg
   injection hg with hg
   have:=(hlm g hm).2
   omega
 ·exact (h.bel.grown gr h.bel.size (fun k hk => by have := (hlt k hk).1; omega)).setCell (by simp) _
theorem Shk.appM {w:World} {vS vM v':Value} {ss:List Int} {ms:List Nat} {lp:Int} {x:Nat} {W W2:World} (h:Shk w vS vM ss ms lp W) (own:W2.ownsRow (w.heap.size + 2) 3 1 v' (ms.length + 1) (ms.map (fun k:Nat => Value.int .i64 k) ++ [.int .i64 x])) (gr:W.grownBy W2 vM.ownBlock) {g':Nat} (hv:v'.ownBlock = some g') (hat0:vM.ownBlock = some g' ∨ g' = W.heap.size) :
 Shk w vS v' ss (ms ++ [x]) lp (W2.setCell ⟨w.heap.size + 1,1,none⟩ v') := by
 have hat:v'.ownBlock = vM.ownBlock ∨ v'.ownBlock = some W.heap.size:=by
  rcases hat0 with e | e
  ·exact .inl (hv.trans e.symm)
  ·exact .inr (hv.trans (congrArg some e))
 have hlt:=h.s.lt
 have hlm:=h.m.lt
 refine ⟨(h.res.grown gr (row_apart h.res h.m)).other (by simp) _,(h.box.grown gr (row_apart h.box h.m)).set 1 v',?_,?_,?_,?_⟩
 ·refine ownsRow_setCell_below (h.s.kept gr ?_) (by simp) _
  cases hm:vS.ownBlock with
  | none => exact .inl rfl
  | some g => exact .inr (fun e => h.ne g hm e.symm)
 ·refine ownsRow_setCell_below ?_ (by simp) _
  simpa using own
 ·intro g hg hm
  rcases hat with e | e
  ·exact h.ne g hg (e ▸ hm)
  ·rw [e] at hm
   injection hm with hm
   have:=(hlt g hg).2
   omega
 ·exact (h.bel.grown gr h.bel.size (fun k hk => by have := (hlm k hk).1; omega)).setCell (by simp) _
theorem one_news (W:World) (x:Value):∀ j u,[x][j]? = some u → (W.alloc (.cells #[x] 3)).cell? ((⟨W.heap.size,0,none⟩:Addr).add j) = some u := by
 intro j u hu
 match j,hu with
 | 0,hu => simp at hu; subst hu; exact (Lib.cell_of_heap (heap_alloc_new W _) 0).trans rfl
theorem contains_nats (gs:List Nat) (k:Nat):(gs.map (fun m:Nat => (m:Int))).contains (k:Int) = gs.contains k := by
 rw [Bool.eq_iff_iff]
 simp
 exact ⟨fun ⟨a,h,e⟩ => (show a = k by omega) ▸ h,fun h => ⟨k,h,rfl⟩⟩
theorem contains_any (gs:List Nat) (A:Option Addr) (n c k:Nat) (w:World) (hg:IntsAt w A n (nats gs)) (hn:1 ≤ n ∧ n ≤ 100) :
 Calls Tryz.prog 107 #[.slice A n c,.int .i64 (k:Int)] w fun e w' => e = .returned (.bool (gs.contains k)) ∧ w' = w := by
 have hl:=hg.len
 obtain ⟨b,o,rfl,hc⟩:=hg.2 (by omega)
 have:=Tryz.slices_Contains_int b o n c (nats gs) (k:Int) w (by omega) (by omega) (fun j hj => hc j _ (by
  rw [List.getElem?_map,List.getElem?_eq_getElem hj,List.getD_eq_getElem?_getD,List.getElem?_eq_getElem hj]; rfl))
 refine this.mono ?_
 rintro e w' ⟨rfl,rfl⟩
 refine ⟨?_,rfl⟩
 rw [List.take_of_length_le (by omega)]
 unfold nats
 rw [contains_nats]
def shM (gs:List Nat) (mt:List Nat) (k:Nat):List Nat := (Pl.left k gs).flatMap (Pl.four (fun h => Pl.shf gs (mt.getD h 0)))
def shS (gs:List Nat) (sg:List Int) (k:Nat):List Int := (Pl.left k gs).map (fun c => sg.getD c 0)
theorem shM_stay {gs:List Nat} {k:Nat} (h:gs.contains k = false) (mt:List Nat):shM gs mt (k + 1) = shM gs mt k ++ [Pl.shf gs (mt.getD (4 * k) 0),Pl.shf gs (mt.getD (4 * k + 1) 0),Pl.shf gs (mt.getD (4 * k + 2) 0),Pl.shf gs (mt.getD (4 * k + 3) 0)] := by
 unfold shM
 rw [Pl.left_succ,h,List.flatMap_append]
 rfl
theorem shM_gone {gs:List Nat} {k:Nat} (h:gs.contains k = true) (mt:List Nat):shM gs mt (k + 1) = shM gs mt k := by
 unfold shM
 rw [Pl.left_succ,h]
 simp
theorem shS_stay {gs:List Nat} {k:Nat} (h:gs.contains k = false) (sg:List Int):shS gs sg (k + 1) = shS gs sg k ++ [sg.getD k 0] := by
 unfold shS
 rw [Pl.left_succ,h,List.map_append]
 rfl
theorem shS_gone {gs:List Nat} {k:Nat} (h:gs.contains k = true) (sg:List Int):shS gs sg (k + 1) = shS gs sg k := by
 unfold shS
 rw [Pl.left_succ,h]
 simp
theorem shS_len (gs:List Nat) (sg:List Int) (k:Nat):(shS gs sg k).length ≤ k := by unfold shS; rw [List.length_map]; exact Pl.left_le k gs
theorem shM_len (gs:List Nat) (mt:List Nat) (k:Nat):(shM gs mt k).length ≤ 4 * k := by unfold shM; rw [Pl.flat4]; have := Pl.left_le k gs; omega
theorem shr_fin {w:World} {vS vM:Value} {ss:List Int} {ms:List Nat} {lp:Int} {W:World} (h:Shk w vS vM ss ms lp W) :
 (((W.setCell ⟨w.heap.size,0,none⟩ vS).setCell ⟨w.heap.size,1,none⟩ vM).setCell ⟨w.heap.size,2,none⟩ (.int .i64 lp)).cell? ⟨w.heap.size,0,none⟩ = some vS ∧
 (((W.setCell ⟨w.heap.size,0,none⟩ vS).setCell ⟨w.heap.size,1,none⟩ vM).setCell ⟨w.heap.size,2,none⟩ (.int .i64 lp)).cell? ⟨w.heap.size,1,none⟩ = some vM ∧
 (((W.setCell ⟨w.heap.size,0,none⟩ vS).setCell ⟨w.heap.size,1,none⟩ vM).setCell ⟨w.heap.size,2,none⟩ (.int .i64 lp)).cell? ⟨w.heap.size,2,none⟩ = some (.int .i64 lp) := by
 have r:=((h.res.set 0 vS).set 1 vM).set 2 (.int .i64 lp)
 exact ⟨r.cell (i := 0) (by simp),r.cell (i := 1) (by simp),r.cell (i := 2) (by simp)⟩
theorem four_take {f:Nat → Nat} (k:Nat) {j:Nat} (hj:j < 4):(Pl.four f k).take (j + 1) = (Pl.four f k).take j ++ [f (4 * k + j)] := by
 have h:j = 0 ∨ j = 1 ∨ j = 2 ∨ j = 3:=by omega
 rcases h with rfl | rfl | rfl | rfl <;> rfl
def ShrPost (gs:List Nat) (sg:List Int) (mt:List Nat) (lp:Int) (w:World) (e:Ending) (w':World):Prop :=
 ∃ vS vM:Value,e = .returned (.agg #[vS,vM,.int .i64 lp]) ∧ w'.ownsRow (w.heap.size + 2) 3 1 vS (Pl.left sg.length gs).length ((Pl.shrS gs sg).map (.int .i64)) ∧ w'.ownsRow (w.heap.size + 2) 3 1 vM (4 * (Pl.left sg.length gs).length) ((Pl.shrM gs sg.length mt).map (fun k:Nat => Value.int .i64 k)) ∧ Below w.heap.size w w'
set_option maxRecDepth 100000 in
set_option maxHeartbeats 2000000 in
theorem shrunk_any (gs:List Nat) (sg:List Int) (mt:List Nat) (lp:Int) (A B C:Option Addr) (n q r cp cq cr:Nat) (w:World) (hs:IntsAt w A n sg) (hm:IntsAt w B q (nats mt)) (hg:IntsAt w C r (nats gs)) (hf:Pl.Few gs)
 (hq:q = 4 * n) (hcq:q ≤ cq) (hcq2:cq ≤ maxLen) (hn:n ≤ 100) (hr:1 ≤ r ∧ r ≤ 100) (hmt:∀ h,mt.getD h 0 ≤ 1000) :
 Calls Tryz.prog 79 #[.slice A n cp,.slice B q cq,.int .i64 lp,.slice C r cr] w (ShrPost gs sg mt lp w) := by
 unfold maxLen at hcq2
 have hls:=hs.len
 have HQ:=hide hq
 have HS:=hide hs
 have HMT:=hide hm
 have HG:=hide hg
 have HLS:=hide hls
 clear hq hs hm hg hls
 go_enter Tryz.func79,Tryz.ntmps79
 go_wp2
 have H0:=hide (show Shk w (.slice none 0 0) (.slice none 0 0) [] [] lp ((w.alloc (.cells #[.slice none 0 0,.slice none 0 0,.int .i64 0] 24)).alloc (.cells #[.slice none 0 0,.slice none 0 0,.int .i64 lp] 24)) from
  ⟨(Row.new w _ [_,_,_]).alloc _,by have := Row.new (w.alloc (.cells #[.slice none 0 0,.slice none 0 0,.int .i64 0] 24)) 24 [.slice none 0 0,.slice none 0 0,.int .i64 lp]; simpa using this,
   World.ownsRow_nil _ _ _ _,World.ownsRow_nil _ _ _ _,fun g h => by simp [Value.ownBlock] at h,((Below.refl _ _).alloc (Nat.le_refl _) _).alloc (by simp) _⟩)
 go_loopg [18] n (fun g i wx => ∃ (k:Nat) (vS vM:Value),k + g = n ∧ i = .int .i64 k ∧ Shk w vS vM (shS gs sg k) (shM gs mt k) lp wx)
 case atStart => exact ⟨0,.slice none 0 0,.slice none 0 0,by omega,rfl,H0.out⟩
 case round =>
  clear H0
  obtain ⟨k,vS,vM,hkg,rfl,hk⟩:=hrel
  have HKG:=hide hkg
  have hkn:k ≤ n:=by omega
  have HK:=hide hk
  clear hkg hk
  obtain ⟨go,rfl⟩:∃ go,go = gk := ⟨_,rfl⟩
  by_cases hlt:k < n
  ·obtain ⟨ab,ao,rfl,hca⟩:=ints_pv (HS.out.keep HK.out.bel) hlt
   obtain ⟨x,hx⟩:∃ x,x = Pl.pv sg k := ⟨_,rfl⟩
   rw [← hx] at hca
   have HX:=hide hx
   clear hx
   go_wp2_with fail
   refine (contains_any gs C r cr k _ (HG.out.keep HK.out.bel) hr).mono ?_
   rintro e w1 ⟨rfl,rfl⟩
   cases hc:gs.contains k with
   | true =>
     have HC:=hide hc
     clear hc
     go_wp2
     go_roundg (go - 1)
     case measure => have := HKG.out; omega
     case rel => exact ⟨k + 1,vS,vM,by have := HKG.out; omega,by go_num,by rw [shM_gone HC.out,shS_gone HC.out]; exact HK.out⟩
   | false =>
     have HC:=hide hc
     clear hc
     obtain ⟨i0,hi0,hz0,hz1,hz2⟩:=info_parts intInfo
     obtain ⟨e0,e1,e2,e3⟩:=box3 HK.out.box
     have hbig:=HK.out.big
     have hsl:=shS_len gs sg k
     obtain ⟨mb,mo,rfl,_⟩:=nats_at HMT.out (k := 4 * k) (by have := HQ.out; omega)
     have hq1:(4:Int) * (k:Int) + 4 ≤ (q:Int):=by have := HQ.out; omega
     have hq2:(4:Int) * (k:Int) + 4 ≤ (cq:Int):=by omega
     have hq3:(q:Int) ≤ (cq:Int):=by omega
     go_wp2_with (at_builtin; refine wpList_append_lies _ (by rfl) _ _ 22 (by rfl) (w.heap.size + 2) 3 i0 (.int .i64 0) 1 8 Tryz.underlying22 hi0 hz0 hz1 hz2 rfl (by omega) vS (shS gs sg k).length ((shS gs sg k).map (.int .i64)) (by rfl) (HK.out.s.alloc _) ⟨w1.heap.size,0,none⟩ 1 1 [.int .i64 x] (by rfl) (by rfl) (one_news w1 (.int .i64 x)) (by simp [Value.oneCell']) (by omega) (by unfold maxLen; omega) (by omega) (by simp; omega) (w1.heap.size + 1) (by simp) ?_; intro g2 c2 w2 own2 grow2 at2 lt2; obtain ⟨q0,q1,q2,q3⟩:=box3 (Row.grown (Row.alloc HK.out.box (.cells #[.int .i64 x] 3)) grow2 (row_apart (Row.alloc HK.out.box (.cells #[.int .i64 x] 3)) (World.ownsRow.alloc HK.out.s (.cells #[.int .i64 x] 3)))); have OWN2 := hide own2; have GR2 := hide grow2; have AT2 := hide at2; clear own2 grow2 at2)
     have H3:=hide (Shk.appS (HK.out.alloc (.cells #[.int .i64 x] 3)) OWN2.out GR2.out rfl (by simpa using AT2.out))
     clear q0 q1 q2 q3 e0 e1 e2 e3
     obtain ⟨vS',hvS'⟩:∃ v,v = Value.slice (some ⟨g2,0,none⟩) ((shS gs sg k).length + 1) c2 := ⟨_,rfl⟩
     rw [← hvS'] at H3
     rw [HX.out,show Pl.pv sg k = sg.getD k 0 from rfl,← shS_stay HC.out] at H3
     have HV:=hide hvS'
     clear hvS'
     rw [show 4 * k + 4 - 4 * k = 4 from by omega]
     go_loopg [40] 4 (fun g i wx => ∃ (j:Nat) (vN:Value),j + g = 4 ∧ i = .int .i64 j ∧ Shk w vS' vN (shS gs sg (k + 1)) (shM gs mt k ++ (Pl.four (fun h => Pl.shf gs (mt.getD h 0)) k).take j) lp wx)
     case atStart => exact ⟨0,vM,by omega,rfl,by rw [← HV.out]; simpa using H3.out⟩
     case round =>
      clear H3
      obtain ⟨j,vN,hjg,rfl,hj⟩:=hrel
      have HJG:=hide hjg
      have hj4:j ≤ 4:=by omega
      have HJ:=hide hj
      clear hjg hj
      by_cases hlj:j < 4
      ·obtain ⟨mb',mo',e',hcm⟩:=nats_at (HMT.out.keep HJ.out.bel) (k := 4 * k + j) (by have := HQ.out; omega)
       injection e' with e'
       injection e' with e1' e2'
       subst e1'
       subst e2'
       obtain ⟨y,hy⟩:∃ y,y = mt.getD (4 * k + j) 0 := ⟨_,rfl⟩
       have hy1:=hmt (4 * k + j)
       rw [← hy,← Nat.add_assoc] at hcm
       rw [← hy] at hy1
       have HY:=hide hy
       clear hy
       obtain ⟨e0,e1,e2,e3⟩:=box3 HJ.out.box
       have hml:=shM_len gs mt k
       have htl:((Pl.four (fun h => Pl.shf gs (mt.getD h 0)) k).take j).length ≤ 4:=by have := List.length_take_le j (Pl.four (fun h => Pl.shf gs (mt.getD h 0)) k); omega
       have hll:(shM gs mt k ++ (Pl.four (fun h => Pl.shf gs (mt.getD h 0)) k).take j).length ≤ 404:=by rw [List.length_append]; omega
       obtain ⟨l,hl⟩:∃ l,l = shM gs mt k ++ (Pl.four (fun h => Pl.shf gs (mt.getD h 0)) k).take j := ⟨_,rfl⟩
       rw [← hl] at hll HJ
       have HL:=hide hl
       clear hl hml htl
       have hbig2:=HJ.out.big
       go_wp2_with fail
       have P1:∀ u ∈ [Value.int .i64 (Pl.shf gs y:Nat)],u.oneCell' = true:=by simp [Value.oneCell']
       have P2:l.length + 1 ≤ maxLen:=by unfold maxLen; omega
       have P3:(l.length + 1) * 8 ≤ 140737488355328:=by omega
       have P4:w.heap.size + 2 ≤ (wr.alloc (.cells #[.int .i64 (Pl.shf gs y:Nat)] 3)).drew.heap.size:=by simp; omega
       have P5:(wr.alloc (.cells #[.int .i64 (Pl.shf gs y:Nat)] 3)).drew.heap.size = wr.heap.size + 1:=by simp
       have PP:=hide P1
       have P5H:=hide P5
       have KB:=hide (show Row (wr.alloc (.cells #[.int .i64 (Pl.shf gs y:Nat)] 3)).drew (w.heap.size + 1) 24 [vS',vN,.int .i64 lp] from Row.drew (Row.alloc HJ.out.box _))
       have KM:=hide (show (wr.alloc (.cells #[.int .i64 (Pl.shf gs y:Nat)] 3)).drew.ownsRow (w.heap.size + 2) 3 1 vN l.length (l.map (fun k:Nat => Value.int .i64 k)) from ((HJ.out.m.alloc _).drew))
       clear P1 P5
       have HGd:IntsAt wr.drew C r (nats gs):=IntsAt.drew (HG.out.keep HJ.out.bel)
       obtain ⟨_,kb1,_,kb3⟩:=box3 KB.out
       go_region_law
        (first
          | (refine step_append_lies _ ?_ (.tmp 45) (.tmp 49) 22 ?_ (w.heap.size + 2) 3 i0 (.int .i64 0) 1 8 Tryz.underlying22 hi0 hz0 hz1 hz2 rfl Nat.zero_lt_one vN l.length (l.map (fun k : Nat => Value.int .i64 k)) ?_ KM.out ⟨wr.heap.size, 0, none⟩ 1 1 [.int .i64 (Pl.shf gs y : Nat)] ?_ rfl (World.news_of_block (cs := #[.int .i64 (Pl.shf gs y : Nat)]) (t := 3) (fr := (0, 0)) (heap_alloc_new wr _)) PP.out Nat.zero_lt_one P2 P3 P4 (wr.heap.size + 1) P5H.out ?_
             ·rfl
             ·rfl
             ·rfl
             ·rfl
             intro g3 c3 w3 own3 grow3 at3 lt3
             obtain ⟨q0,q1,q2,q3⟩:=box3 (KB.out.grown grow3 (row_apart KB.out KM.out))
             have OWN3:=hide own3
             have GR3:=hide grow3
             have AT3:=hide at3
             clear own3 grow3 at3 q0 q2)
          | (go_simp
             go_wp2_with ((go_at_call 78); refine Calls.mono (shifted_any gs C r cr y _ ?_ (by omega) (by omega) hf) ?_; (focus (exact HGd)); rintro e w5 ⟨rfl,rfl⟩)))
       all_goals
        go_wp2
        go_roundg (gk - 1)
        case measure => have := HJG.out; omega
        case rel =>
         refine ⟨j + 1,.slice (some ⟨g3,0,none⟩) (l.length + 1) c3,by have := HJG.out; omega,by go_num,?_⟩
         have hh:=Shk.appM (x := Pl.shf gs y) (Shk.below (HJ.out.alloc (.cells #[.int .i64 (Pl.shf gs y:Nat)] 3)) ((Below.refl _ _).drew)) OWN3.out GR3.out rfl (by simpa using AT3.out)
         rw [HL.out,HY.out,List.append_assoc,← four_take (f := fun h => Pl.shf gs (mt.getD h 0)) k hlj,← HL.out] at hh
         exact hh
      ·have hj44:j = 4:=by omega
       subst hj44
       go_wp2
       go_roundg (go - 1)
       case measure => have := HKG.out; omega
       case rel =>
        refine ⟨k + 1,vS',vN,by have := HKG.out; omega,by go_num,?_⟩
        rw [shM_stay HC.out]
        exact HJ.out
  ·obtain ⟨A2,c2,rfl⟩:=owns_slice HK.out.s
   obtain ⟨A3,c3,rfl⟩:=owns_slice HK.out.m
   obtain ⟨e0,e1,e2,e3⟩:=box3 HK.out.box
   obtain ⟨f0,f1,f2,f3⟩:=box3 HK.out.res
   have HFIN:=hide (shr_fin HK.out)
   obtain rfl:k = n := by omega
   go_wp2
   refine bodyPost_ret (v := .agg #[.slice A2 (shS gs sg k).length c2,.slice A3 (shM gs mt k).length c3,.int .i64 lp]) ?_ rfl ?_
   ·obtain ⟨r0,r1,r2⟩:=HFIN.out
    simp [results,Tryz.results79,go_sem,r0,r1,r2]
   ·have e1:shS gs sg k = Pl.shrS gs sg:=by unfold shS Pl.shrS; rw [HLS.out]
    have e2:shM gs mt k = Pl.shrM gs sg.length mt:=by unfold shM Pl.shrM; rw [HLS.out]
    refine ⟨.slice A2 (shS gs sg k).length c2,.slice A3 (shM gs mt k).length c3,rfl,?_,?_,?_⟩
    ·rw [← Pl.shrS_len,← e1]
     exact ownsRow_setCell_below (ownsRow_setCell_below (ownsRow_setCell_below HK.out.s (by simp) _) (by simp) _) (by simp) _
    ·rw [← Pl.shrM_len gs sg.length mt,← e2]
     exact ownsRow_setCell_below (ownsRow_setCell_below (ownsRow_setCell_below HK.out.m (by simp) _) (by simp) _) (by simp) _
    ·exact ((HK.out.bel.setCell (by simp) _).setCell (by simp) _).setCell (by simp) _
end Go.Proofs.YtghdiolnonejaaaGreatDoor
end
section
namespace Go.Proofs.YtghdiolnonejaaaGreatDoor
open Go Go.RowKit
structure UC (w:World) (gi:Nat) (x0 x1 x2 y0 y1 y2 y3 y4:Value) (W:World):Prop where
 d:Row W w.heap.size 24 [x0,x1,x2]
 i:Row W gi 43 [y0,y1,y2,y3,y4]
 rd:∃ vs,Row W (w.heap.size + 1 + 1) 24 vs ∧ vs.length = 3
 rm:∃ us,Row W (w.heap.size + 1 + 1 + 1) 43 us ∧ us.length = 5
 bel:Below w.heap.size w W
 lo:w.heap.size + 1 + 1 + 1 < gi
section
variable {w:World} {gi:Nat} {x0 x1 x2 y0 y1 y2 y3 y4:Value} {W W':World}
theorem UC.drew (h:UC w gi x0 x1 x2 y0 y1 y2 y3 y4 W):UC w gi x0 x1 x2 y0 y1 y2 y3 y4 W.drew := ⟨h.d,h.i,h.rd,h.rm,h.bel.drew,h.lo⟩
theorem UC.below (h:UC w gi x0 x1 x2 y0 y1 y2 y3 y4 W) (hb:Below W.heap.size W W'):UC w gi x0 x1 x2 y0 y1 y2 y3 y4 W' :=
 let ⟨vs,r1,l1⟩:=h.rd
 let ⟨us,r2,l2⟩:=h.rm
 ⟨h.d.below hb,h.i.below hb,⟨vs,r1.below hb,l1⟩,⟨us,r2.below hb,l2⟩,h.bel.trans (hb.mono h.bel.size),h.lo⟩
theorem UC.alloc (h:UC w gi x0 x1 x2 y0 y1 y2 y3 y4 W) (o:Obj):UC w gi x0 x1 x2 y0 y1 y2 y3 y4 (W.alloc o) := h.below ((Below.refl _ _).alloc (Nat.le_refl _) o)
theorem UC.setD (h:UC w gi x0 x1 x2 y0 y1 y2 y3 y4 W) (o:Nat) (v:Value):UC w gi x0 x1 x2 y0 y1 y2 y3 y4 (W.setCell ⟨w.heap.size + 1 + 1,o,none⟩ v) :=
 let ⟨vs,r1,l1⟩:=h.rd
 let ⟨us,r2,l2⟩:=h.rm
 have hl:=h.lo
 ⟨h.d.other (by show _ ≠ w.heap.size + 1 + 1; omega) v,h.i.other (by show _ ≠ w.heap.size + 1 + 1; omega) v,⟨vs.set o v,r1.set o v,by rw [List.length_set,l1]⟩,⟨us,r2.other (by show _ ≠ w.heap.size + 1 + 1; omega) v,l2⟩,h.bel.setCell (by show _ ≤ w.heap.size + 1 + 1; omega) v,h.lo⟩
theorem UC.setM (h:UC w gi x0 x1 x2 y0 y1 y2 y3 y4 W) (o:Nat) (v:Value):UC w gi x0 x1 x2 y0 y1 y2 y3 y4 (W.setCell ⟨w.heap.size + 1 + 1 + 1,o,none⟩ v) :=
 let ⟨vs,r1,l1⟩:=h.rd
 let ⟨us,r2,l2⟩:=h.rm
 have hl:=h.lo
 ⟨h.d.other (by show _ ≠ w.heap.size + 1 + 1 + 1; omega) v,h.i.other (by show _ ≠ w.heap.size + 1 + 1 + 1; omega) v,⟨vs,r1.other (by show _ ≠ w.heap.size + 1 + 1 + 1; omega) v,l1⟩,⟨us.set o v,r2.set o v,by rw [List.length_set,l2]⟩,h.bel.setCell (by show _ ≤ w.heap.size + 1 + 1 + 1; omega) v,h.lo⟩
theorem UC.all (h:UC w gi x0 x1 x2 y0 y1 y2 y3 y4 W):W.cell? ⟨w.heap.size,0,none⟩ = some x0 ∧ W.cell? ⟨gi,0,none⟩ = some y0 ∧ W.cell? ⟨gi,1,none⟩ = some y1 ∧ W.cell? ⟨gi,2,none⟩ = some y2 ∧ W.cell? ⟨gi,3,none⟩ = some y3 ∧ W.cell? ⟨gi,4,none⟩ = some y4 ∧
 W.cell? ⟨w.heap.size + 1 + 1,0,none⟩ = some (cv W ⟨w.heap.size + 1 + 1,0,none⟩) ∧ W.cell? ⟨w.heap.size + 1 + 1,1,none⟩ = some (cv W ⟨w.heap.size + 1 + 1,1,none⟩) ∧ W.cell? ⟨w.heap.size + 1 + 1,2,none⟩ = some (cv W ⟨w.heap.size + 1 + 1,2,none⟩) ∧
 W.cell? ⟨w.heap.size + 1 + 1 + 1,0,none⟩ = some (cv W ⟨w.heap.size + 1 + 1 + 1,0,none⟩) ∧ W.cell? ⟨w.heap.size + 1 + 1 + 1,1,none⟩ = some (cv W ⟨w.heap.size + 1 + 1 + 1,1,none⟩) ∧ W.cell? ⟨w.heap.size + 1 + 1 + 1,2,none⟩ = some (cv W ⟨w.heap.size + 1 + 1 + 1,2,none⟩) ∧ W.cell? ⟨w.heap.size + 1 + 1 + 1,3,none⟩ = some (cv W ⟨w.heap.size + 1 + 1 + 1,3,none⟩) ∧ W.cell? ⟨w.heap.size + 1 + 1 + 1,4,none⟩ = some (cv W ⟨w.heap.size + 1 + 1 + 1,4,none⟩) ∧
 (∀ o,W.frozen? ⟨w.heap.size + 1 + 1,o,none⟩ = false) ∧ (∀ o,W.frozen? ⟨w.heap.size + 1 + 1 + 1,o,none⟩ = false) ∧ UC w gi x0 x1 x2 y0 y1 y2 y3 y4 W := by
 obtain ⟨vs,r1,l1⟩:=h.rd
 obtain ⟨us,r2,l2⟩:=h.rm
 obtain ⟨d0,_,_,_⟩:=box3 h.d
 obtain ⟨i0,i1,i2,i3,i4,_⟩:=box5 h.i
 exact ⟨d0,i0,i1,i2,i3,i4,cv_some (r1.cell (i := 0) (by omega)),cv_some (r1.cell (i := 1) (by omega)),cv_some (r1.cell (i := 2) (by omega)),cv_some (r2.cell (i := 0) (by omega)),cv_some (r2.cell (i := 1) (by omega)),cv_some (r2.cell (i := 2) (by omega)),cv_some (r2.cell (i := 3) (by omega)),cv_some (r2.cell (i := 4) (by omega)),r1.free,r2.free,h⟩
end
theorem own_ints' {w:World} {base:Nat} {e:TypeId} {A:Option Addr} {n c:Nat} {zs:List Int} (h:w.ownsRow base e 1 (.slice A n c) n (zs.map (.int .i64))):IntsAt w A n zs := by
 have hl:=h.1
 rcases h.2 with ⟨h1,h2⟩ | ⟨g,cap,cur,h1,_⟩
 ·subst h2
  exact ⟨by simpa using hl,fun h => absurd h (by omega)⟩
 ·injection h1 with h1 _ h3
  subst h1
  exact own_ints h
theorem map_nats (l:List Nat):(nats l).map (Value.int .i64) = l.map (fun k:Nat => Value.int .i64 k) := by unfold nats; rw [List.map_map]; rfl
theorem getD_m {d:Pl.Dg} {k:Nat} (hk:k < d.mt.length):d.mt.getD k 0 = d.m k := by
 unfold Pl.Dg.m
 rw [List.getD_eq_getElem?_getD,List.getD_eq_getElem?_getD,List.getElem?_eq_getElem hk]; rfl
theorem getD_le {d:Pl.Dg} (hd:Pl.Wf d) (h:Nat):d.mt.getD h 0 ≤ 256 := by
 have hn:=hd.few
 have hl:=hd.len
 by_cases hh:h < d.mt.length
 ·rw [getD_m hh]
  have:=hd.lt h (by omega)
  omega
 ·rw [List.getD_eq_getElem?_getD,List.getElem?_eq_none (by omega)]
  exact Nat.zero_le _
theorem set_le {l:List Nat} {N a b:Nat} (h:∀ k,l.getD k 0 ≤ N) (hb:b ≤ N):∀ k,(l.set a b).getD k 0 ≤ N := by
 intro k
 have hk:=h k
 rw [List.getD_eq_getElem?_getD] at hk ⊢
 rw [List.getElem?_set]
 split
 ·split
  ·simpa using hb
  ·simp
 ·exact hk
theorem jn_le {l:List Nat} {N a b:Nat} (h:∀ k,l.getD k 0 ≤ N) (ha:a ≤ N) (hb:b ≤ N):∀ k,(jn l a b).getD k 0 ≤ N := set_le (set_le h hb) ha
def kA (d:Pl.Dg) (c:Nat):Nat := Pl.tn (kk d c) 2
def kB (d:Pl.Dg) (c:Nat):Nat := Pl.tn (d.m (kk d c)) 2
def uncC (d:Pl.Dg) (c:Nat):Int := if d.m (kk d c) / 4 = c then (if d.m (kA d c) = kB d c then (if 64 < d.lp + 1 then 5 else 0) else 0) else 6
def unM (d:Pl.Dg) (c:Nat):List Nat := if d.m (kA d c) = kB d c then d.mt else jn d.mt (d.m (kA d c)) (d.m (kB d c))
def unD (d:Pl.Dg) (c:Nat):Pl.Dg := ⟨Pl.shrS [c] d.sg,Pl.shrM [c] d.n (unM d c),if d.m (kA d c) = kB d c then d.lp + 1 else d.lp⟩
def unI (d:Pl.Dg) (c:Nat):Mv := ⟨1,if d.m (kA d c) = kB d c then -1 else (Pl.shf [c] (d.m (kA d c)):Nat),0,d.s c,decide (kA d c % 2 = 1)⟩
def UncPost (d:Pl.Dg) (c:Nat) (w:World) (e:Ending) (w':World):Prop := (uncC d c ≠ 0 → ResErr (uncC d c) e) ∧ (uncC d c = 0 → ResOk (unD d c) (unI d c) e w') ∧ Below w.heap.size w w'
theorem kk_lt {d:Pl.Dg} {c:Nat} (hc:c < d.n):kk d c < 4 * d.n := by unfold kk; split <;> (try split) <;> omega
theorem kA_lt {d:Pl.Dg} {c:Nat} (hc:c < d.n):kA d c < 4 * d.n := Pl.tn_lt (kk_lt hc)
theorem kB_lt {d:Pl.Dg} (hd:Pl.Wf d) {c:Nat} (hc:c < d.n):kB d c < 4 * d.n := Pl.tn_lt (hd.lt _ (kk_lt hc))
theorem shrunk_sl (gs:List Nat) (sg:List Int) (mt:List Nat) (lp:Int) (A B C:Option Addr) (n q r cp cq cr:Nat) (w:World) (hs:IntsAt w A n sg) (hm:IntsAt w B q (nats mt)) (hg:IntsAt w C r (nats gs)) (hf:Pl.Few gs)
 (hq:q = 4 * n) (hcq:q ≤ cq) (hcq2:cq ≤ maxLen) (hn:n ≤ 100) (hr:1 ≤ r ∧ r ≤ 100) (hmt:∀ h,mt.getD h 0 ≤ 1000) :
 Calls Tryz.prog 79 #[.slice A n cp,.slice B q cq,.int .i64 lp,.slice C r cr] w fun e w' => ∃ (A7 A8:Option Addr) (c7 c8:Nat),e = .returned (.agg #[.slice A7 (Pl.left sg.length gs).length c7,.slice A8 (4 * (Pl.left sg.length gs).length) c8,.int .i64 lp]) ∧
  w'.ownsRow (w.heap.size + 2) 3 1 (.slice A7 (Pl.left sg.length gs).length c7) (Pl.left sg.length gs).length ((Pl.shrS gs sg).map (.int .i64)) ∧ w'.ownsRow (w.heap.size + 2) 3 1 (.slice A8 (4 * (Pl.left sg.length gs).length) c8) (4 * (Pl.left sg.length gs).length) ((Pl.shrM gs sg.length mt).map (fun k:Nat => Value.int .i64 k)) ∧ Below w.heap.size w w' := by
 refine (shrunk_any gs sg mt lp A B C n q r cp cq cr w hs hm hg hf hq hcq hcq2 hn hr hmt).mono ?_
 rintro e w' ⟨vS,vM,rfl,o1,o2,hb⟩
 obtain ⟨A7,c7,rfl⟩:=owns_slice o1
 obtain ⟨A8,c8,rfl⟩:=owns_slice o2
 exact ⟨A7,A8,c7,c8,rfl,o1,o2,hb⟩
def W4 (w:World) (x0 x1 x2 y0 y1 y2 y3 y4:Value):World := ((((w.alloc (.cells #[x0,x1,x2] 24)).alloc (.cells #[y0,y1,y2,y3,y4] 43)).alloc (.cells #[.slice none 0 0,.slice none 0 0,.int .i64 0] 24)).alloc (.cells #[.int .i64 0,.int .i64 0,.int .i64 0,.int .i64 0,.bool false] 43))
theorem row_at {W:World} {t:TypeId} {vs:List Value} {g:Nat} (h:g = W.heap.size):Row (W.alloc (.cells vs.toArray t)) g t vs := by subst h; exact Row.new W t vs
theorem boxes4 (w:World) (x0 x1 x2 y0 y1 y2 y3 y4:Value) :
 Row (W4 w x0 x1 x2 y0 y1 y2 y3 y4) w.heap.size 24 [x0,x1,x2] ∧ Row (W4 w x0 x1 x2 y0 y1 y2 y3 y4) (w.heap.size + 1) 43 [y0,y1,y2,y3,y4] ∧ Row (W4 w x0 x1 x2 y0 y1 y2 y3 y4) (w.heap.size + 1 + 1) 24 [.slice none 0 0,.slice none 0 0,.int .i64 0] ∧
 Row (W4 w x0 x1 x2 y0 y1 y2 y3 y4) (w.heap.size + 1 + 1 + 1) 43 [.int .i64 0,.int .i64 0,.int .i64 0,.int .i64 0,.bool false] ∧ Below w.heap.size w (W4 w x0 x1 x2 y0 y1 y2 y3 y4) ∧ (W4 w x0 x1 x2 y0 y1 y2 y3 y4).heap.size = w.heap.size + 4 := by
 unfold W4
 refine ⟨(((row_at (vs := [x0,x1,x2]) rfl).alloc _).alloc _).alloc _,((row_at (vs := [y0,y1,y2,y3,y4]) (by simp)).alloc _).alloc _,(row_at (vs := [.slice none 0 0,.slice none 0 0,.int .i64 0]) (by simp)).alloc _,row_at (vs := [.int .i64 0,.int .i64 0,.int .i64 0,.int .i64 0,.bool false]) (by simp),?_,by simp⟩
 exact ((((Below.refl _ _).alloc (Nat.le_refl _) _).alloc (by simp) _).alloc (by simp; omega) _).alloc (by simp; omega) _
end Go.Proofs.YtghdiolnonejaaaGreatDoor
end
section
namespace Go.Proofs.YtghdiolnonejaaaGreatDoor
open Go Go.RowKit
def fv1 (k:Nat) (c:Value):Value := .func (.func k) #[] #[c]
def Steps (k:Nat) (c:Value) (N:Nat) (f:Nat → Nat) (w:World):Prop := ∀ w' h,Below w.heap.size w w' → h < N → Calls Tryz.prog k #[.int .i64 (h:Int),c] w' fun e w'' => e = .returned (.int .i64 (f h:Nat)) ∧ Below w'.heap.size w' w''
theorem Steps.keep {k:Nat} {c:Value} {N:Nat} {f:Nat → Nat} {w W:World} (h:Steps k c N f w) (hb:Below w.heap.size w W):Steps k c N f W :=
 fun w' x hb' hx => h w' x (hb.trans (hb'.mono hb.size)) hx
theorem nextF_any (d:Pl.Dg) (B:Option Addr) (cq m g h:Nat) (x0 x2:Value) (w:World) (hm:m = 4 * d.n) (hd:Pl.Wf d) (hr:Row w g 24 [x0,.slice B m cq,x2]) (hb:IntsAt w B m (nats d.mt)) (hh:h < 4 * d.n) :
 Calls Tryz.prog 111 #[.int .i64 (h:Int),.pointer (some ⟨g,0,none⟩)] w fun e w' => e = .returned (.int .i64 (Pl.nx d h:Nat)) ∧ w' = w := by
 have hn:=hd.few
 have lt:=hd.lt h hh
 obtain ⟨b,o,rfl,hc⟩:=mate_at (by rw [← hm]; exact hb) hh
 obtain ⟨f0,f1,f2,f3⟩:=box3 hr
 have hhm:h < m:=by omega
 have HM:=hide hm
 clear hm
 obtain ⟨u,hu⟩:∃ u,u = d.m h := ⟨_,rfl⟩
 have HU:=hide (show Pl.nx d h = Pl.tn u 3 by rw [hu]; rfl)
 rw [← hu] at hc lt
 clear hu
 go_enter Tryz.func111,Tryz.ntmps111
 go_wp2_with fail
 refine (turn_back u _ (by omega)).mono ?_
 rintro e w1 ⟨rfl,rfl⟩
 go_wp2
 go_ret
 exact ⟨by rw [HU.out]; rfl,rfl⟩
theorem nextF_steps (d:Pl.Dg) (B:Option Addr) (cq m g:Nat) (x0 x2:Value) (w:World) (hm:m = 4 * d.n) (hd:Pl.Wf d) (hr:Row w g 24 [x0,.slice B m cq,x2]) (hb:IntsAt w B m (nats d.mt)) :
 Steps 111 (.pointer (some ⟨g,0,none⟩)) (4 * d.n) (Pl.nx d) w := fun w' h hbl hh =>
 (nextF_any d B cq m g h x0 x2 w' hm hd (hr.below hbl) (hb.keep hbl) hh).mono fun _ _ ⟨he,hw⟩ => ⟨he,by rw [hw]; exact Below.refl _ _⟩
theorem own_one (W:World) (x:Value):(W.alloc (.cells #[x] 3)).ownsRow W.heap.size 3 1 (.slice (some ⟨W.heap.size,0,none⟩) 1 1) 1 [x] :=
 ⟨rfl,.inr ⟨W.heap.size,1,#[x],rfl,Nat.le_refl _,heap_alloc_new W _,Nat.le_refl _,by unfold maxLen; omega,rfl,rfl⟩⟩
theorem it_lt {f:Nat → Nat} {N:Nat} (hf:∀ x,x < N → f x < N) {h:Nat} (hh:h < N):∀ k,Pl.it f k h < N
 | 0 => hh
 | k + 1 => hf _ (it_lt hf hh k)
def CycPost (f:Nat → Nat) (h p:Nat) (w:World) (e:Ending) (w':World):Prop :=
 ∃ (A:Option Addr) (c:Nat),e = .returned (.slice A p c) ∧ w'.ownsRow w.heap.size 3 1 (.slice A p c) p ((Pl.cyc f h p).map (fun k:Nat => Value.int .i64 k)) ∧ Below w.heap.size w w'
set_option maxRecDepth 100000 in
set_option maxHeartbeats 2000000 in
theorem cycle_any (c:Value) (N:Nat) (f:Nat → Nat) (h p:Nat) (w:World) (hst:Steps 111 c N f w) (hf:∀ x,x < N → f x < N) (hh:h < N) (hp:Pl.Per f h p) (hpN:p ≤ N) (hN:N ≤ 1000) :
 Calls Tryz.prog 95 #[.int .i64 (h:Int),fv1 111 c] w (CycPost f h p w) := by
 unfold fv1
 have HST:=hide hst
 have HF:=hide hf
 have HP:=hide hp
 have hp0:=hp.1
 clear hst hf hp
 have B1:=hide (show Below w.heap.size w (w.alloc (.cells #[.int .i64 (h:Int)] 3)) from (Below.refl _ _).alloc (Nat.le_refl _) _)
 go_enter Tryz.func95,Tryz.ntmps95
 go_wp2_with fail
 refine (HST.out _ h B1.out hh).mono ?_
 rintro e w2 ⟨rfl,hb2⟩
 have B2:=hide (B1.out.trans (hb2.mono B1.out.size))
 have O2:=hide (own_keep (own_one w (.int .i64 (h:Int))) hb2 (Nat.le_refl _))
 clear hb2
 go_wp2_with fail
 go_loopg [5,6] (p - 1) (fun g v i wx => ∃ j:Nat,j + 1 + g = p ∧ i = .int .i64 (Pl.it f (j + 1) h:Nat) ∧ wx.ownsRow w.heap.size 3 1 v (j + 1) ((Pl.cyc f h (j + 1)).map (fun k:Nat => Value.int .i64 k)) ∧ Below w.heap.size w wx)
 case atStart => exact ⟨0,by omega,rfl,O2.out,B2.out⟩
 case round =>
  clear O2 B2 B1
  obtain ⟨j,hjg,rfl,own,hb⟩:=hrel
  have HJ:=hide hjg
  have hjp:j + 1 ≤ p:=by omega
  have OWN:=hide own
  have HB:=hide hb
  have hbs:=hb.size
  obtain ⟨x,hx⟩:∃ x,x = Pl.it f (j + 1) h := ⟨_,rfl⟩
  rw [← hx]
  have HX:=hide hx
  have hxN:x < N:=by rw [hx]; exact it_lt HF.out hh (j + 1)
  clear hjg own hb hx
  by_cases he:x = h
  ·have hjj:¬ j + 1 < p:=fun hlt => HP.out.2.2 (j + 1) (by omega) hlt (by rw [← HX.out,he])
   have t1:((x:Int) != (h:Int)) = false:=by rw [bne_eq_false_iff_eq]; omega
   have HE:=hide he
   obtain rfl:j + 1 = p := by omega
   obtain ⟨A5,c5,rfl⟩:=owns_slice OWN.out
   clear he hjj
   go_wp2
   go_ret
   exact ⟨A5,c5,rfl,OWN.out,HB.out⟩
  ·have t1:((x:Int) != (h:Int)) = true:=by rw [bne_iff_ne]; omega
   have hjj:j + 1 < p:=by
    rcases Nat.lt_or_ge (j + 1) p with h1 | h1
    ·exact h1
    ·have:j + 1 = p:=by omega
     exact absurd (by rw [HX.out,this]; exact HP.out.2.1) he
   clear he
   obtain ⟨i0,hi0,hz0,hz1,hz2⟩:=info_parts intInfo
   go_wp2_with (at_builtin; refine wpList_append_lies _ (by rfl) _ _ 22 (by rfl) w.heap.size 3 i0 (.int .i64 0) 1 8 Tryz.underlying22 hi0 hz0 hz1 hz2 rfl (by omega) _ (j + 1) _ (by rfl) (OWN.out.alloc _) ⟨wr.heap.size,0,none⟩ 1 1 [.int .i64 (x:Int)] (by rfl) (by rfl) (one_news wr (.int .i64 (x:Int))) (by simp [Value.oneCell']) (by omega) (by unfold maxLen; omega) (by omega) (by simp; omega) (wr.heap.size + 1) (by simp) ?_; intro g3 c3 w3 own3 grow3 at3 lt3; have OWN3 := hide own3; have GR3 := hide grow3; clear own3 grow3 at3)
   have B3:=hide ((HB.out.alloc hbs (.cells #[.int .i64 (x:Int)] 3)).grown GR3.out (by simp; omega) (fun k hk => (OWN.out.lt k hk).1))
   refine (HST.out _ x B3.out hxN).mono ?_
   rintro e w4 ⟨rfl,hb4⟩
   go_wp2_with fail
   go_roundg (gk - 1)
   case measure => have := HJ.out; omega
   case rel =>
    refine ⟨j + 1,by have := HJ.out; omega,?_,?_,B3.out.trans (hb4.mono B3.out.size)⟩
    ·rw [HX.out]; rfl
    ·have:=own_keep OWN3.out hb4 (Nat.le_refl _)
     rw [Pl.cyc_succ,List.map_append,← HX.out]
     exact this
end Go.Proofs.YtghdiolnonejaaaGreatDoor
end
section
namespace Go.Proofs.YtghdiolnonejaaaGreatDoor
open Go Go.RowKit
theorem RowT.store {w:World} {t t':TypeId} {A:Option Addr} {n:Nat} {xs:List Value} {g i:Nat} {vs:List Value} (h:RowT w t A n xs) (hr:Row w g t' vs) (hne:t ≠ t') (v:Value):RowT (w.setCell ⟨g,i,none⟩ v) t A n xs :=
 ⟨h.1, fun hn => let ⟨b, o, cs, fr, e, hb, hc⟩ := h.2 hn; ⟨b, o, cs, fr, e, (Below.heap_setCell w _ v b (fun he => by
   have hr':=hr
   unfold Row at hr'
   have he':b = g:=he
   rw [he',hr'] at hb
   injection hb with hb
   injection hb with _ h4
   exact hne h4.symm)).trans hb,hc⟩⟩
theorem own_rowT {w:World} {base:Nat} {t:TypeId} {A:Option Addr} {n c:Nat} {xs:List Value} (h:w.ownsRow base t 1 (.slice A n c) n xs):RowT w t A n xs := by
 refine ⟨by simpa using h.1,fun hn => ?_⟩
 rcases h.2 with ⟨_,h2⟩ | ⟨g,cap,cur,h1,_,h3,_,_,_,h5⟩
 ·omega
 ·injection h1 with h1 _ _
  refine ⟨g,0,cur,(0,0),h1,h3,fun j u hu => ?_⟩
  rw [Nat.zero_add]
  have hj:j < n:=by
   have:=(List.getElem?_eq_some_iff.1 hu).1
   have:=h.1
   omega
  rw [← h5,List.getElem?_take,if_pos (by omega)] at hu
  rw [← hu]
  simp
def FaceAt (w:World) (v:Value) (l:List Nat):Prop := ∃ A c,v = .slice A l.length c ∧ RowT w 3 A l.length (l.map (fun k:Nat => Value.int .i64 k))
def Vs (w:World) (vs:List Value) (fs:List (List Nat)):Prop := vs.length = fs.length ∧ ∀ (i:Nat) l,fs[i]? = some l → ∃ v,vs[i]? = some v ∧ FaceAt w v l
theorem Vs.below {w w':World} {vs:List Value} {fs:List (List Nat)} (h:Vs w vs fs) (hb:Below w.heap.size w w'):Vs w' vs fs :=
 ⟨h.1,fun i l e => let ⟨v,h1,A,c,h2,h3⟩:=h.2 i l e; ⟨v,h1,A,c,h2,h3.keep hb⟩⟩
theorem Vs.grown {w w':World} {vs:List Value} {fs:List (List Nat)} {row:Option Nat} {t':TypeId} (h:Vs w vs fs) (hg:w.grownBy w' row) (hr:∀ g,row = some g → ∃ cs fr,w.heap[g]? = some (.cells cs t' fr)) (hne:3 ≠ t'):Vs w' vs fs :=
 ⟨h.1,fun i l e => let ⟨v,h1,A,c,h2,h3⟩:=h.2 i l e; ⟨v,h1,A,c,h2,h3.grown hg hr hne⟩⟩
theorem Vs.store {w:World} {vs:List Value} {fs:List (List Nat)} {g i:Nat} {us:List Value} {t':TypeId} (h:Vs w vs fs) (hr:Row w g t' us) (hne:3 ≠ t') (v:Value):Vs (w.setCell ⟨g,i,none⟩ v) vs fs :=
 ⟨h.1,fun i l e => let ⟨v,h1,A,c,h2,h3⟩:=h.2 i l e; ⟨v,h1,A,c,h2,h3.store hr hne _⟩⟩
theorem Vs.add {w:World} {vs:List Value} {fs:List (List Nat)} {v:Value} {l:List Nat} (h:Vs w vs fs) (hv:FaceAt w v l):Vs w (vs ++ [v]) (fs ++ [l]) := by
 refine ⟨by simp [h.1],fun i m e => ?_⟩
 rw [List.getElem?_append] at e ⊢
 by_cases hi:i < fs.length
 ·rw [if_pos hi] at e
  rw [if_pos (by rw [h.1]; exact hi)]
  exact h.2 i m e
 ·rw [if_neg hi] at e
  rw [if_neg (by rw [h.1]; exact hi),h.1]
  have h1:=(List.getElem?_eq_some_iff.1 e).1
  simp only [List.length_singleton] at h1
  have h0:i - fs.length = 0:=by omega
  rw [h0] at e ⊢
  simp only [List.getElem?_cons_zero,Option.some.injEq] at e
  subst e
  exact ⟨v,rfl,hv⟩
theorem Vs.nil (w:World):Vs w [] [] := ⟨rfl,fun i l e => by simp at e⟩
theorem FaceAt.below {w w':World} {v:Value} {l:List Nat} (h:FaceAt w v l) (hb:Below w.heap.size w w'):FaceAt w' v l := let ⟨A,c,h2,h3⟩:=h; ⟨A,c,h2,h3.keep hb⟩
theorem FaceAt.store {w:World} {v:Value} {l:List Nat} {g i:Nat} {us:List Value} {t':TypeId} (h:FaceAt w v l) (hr:Row w g t' us) (hne:3 ≠ t') (u:Value):FaceAt (w.setCell ⟨g,i,none⟩ u) v l := let ⟨A,c,h2,h3⟩:=h; ⟨A,c,h2,h3.store hr hne _⟩
theorem FaceAt.grown {w w':World} {v:Value} {l:List Nat} {row:Option Nat} {t':TypeId} (h:FaceAt w v l) (hg:w.grownBy w' row) (hr:∀ g,row = some g → ∃ cs fr,w.heap[g]? = some (.cells cs t' fr)) (hne:3 ≠ t'):FaceAt w' v l := let ⟨A,c,h2,h3⟩:=h; ⟨A,c,h2,h3.grown hg hr hne⟩
theorem FaceAt.ints {w:World} {A:Option Addr} {n c:Nat} {l:List Nat} (h:FaceAt w (.slice A n c) l):n = l.length ∧ IntsAt w A n (nats l) := by
 obtain ⟨A',c',h1,h2⟩:=h
 injection h1 with h1 h3 h4
 subst h1 h3
 refine ⟨rfl,?_⟩
 unfold IntsAt
 rw [map_nats]
 exact h2.row
def Far (base:Nat) (vs:List Value):Prop := ∀ v,v ∈ vs → ∀ g,v.ownBlock = some g → base ≤ g
theorem FaceAt.far {w:World} {v:Value} {l:List Nat} {base g i:Nat} (h:FaceAt w v l) (hf:∀ b,v.ownBlock = some b → base ≤ b) (hg:g < base) (u:Value):FaceAt (w.setCell ⟨g,i,none⟩ u) v l := by
 obtain ⟨A,c,rfl,h1,h2⟩:=h
 refine ⟨A,c,rfl,h1,fun hn => ?_⟩
 obtain ⟨b,o,cs,fr,rfl,hb,hc⟩:=h2 hn
 have:=hf b rfl
 exact ⟨b,o,cs,fr,rfl,(Below.heap_setCell w _ u b (by show b ≠ g; omega)).trans hb,hc⟩
theorem Vs.far {w:World} {vs:List Value} {fs:List (List Nat)} {base g i:Nat} (h:Vs w vs fs) (hf:Far base vs) (hg:g < base) (u:Value):Vs (w.setCell ⟨g,i,none⟩ u) vs fs :=
 ⟨h.1,fun i l e => let ⟨v,h1,h2⟩:=h.2 i l e; ⟨v,h1,h2.far (hf v (List.mem_of_getElem? h1)) hg u⟩⟩
theorem Far.add {base:Nat} {vs:List Value} {v:Value} (h:Far base vs) (hv:∀ g,v.ownBlock = some g → base ≤ g):Far base (vs ++ [v]) := fun u hu => by
 rcases List.mem_append.1 hu with hu | hu
 ·exact h u hu
 ·rw [List.mem_singleton] at hu; subst hu; exact hv
theorem rowInfo:(Tryz.prog.info? 22).map (fun i => (i.zero,i.size,i.bytes)) = some (some (.slice none 0 0),1,24) := by kernel_rfl
theorem every_any (h:Int) (w:World):Calls Tryz.prog 110 #[.int .i64 h] w fun e w' => e = .returned (.bool true) ∧ w' = w := by
 go_enter Tryz.func110,Tryz.ntmps110
 go_wp2
 go_ret
 exact ⟨rfl,rfl⟩
end Go.Proofs.YtghdiolnonejaaaGreatDoor
end
section
namespace Go.Proofs.YtghdiolnonejaaaGreatDoor
open Go Go.RowKit
structure Cys (w:World) (N:Nat) (f:Nat → Nat) (k:Nat) (fs:List (List Nat)) (bs:List Bool) (vs:List Value) (vA:Value) (W:World):Prop where
 fc:Pl.Fcs f (fun _ => True) N k fs bs
 few:fs.length ≤ k
 seen:BRow W w.heap.size bs
 own:W.ownsRow (w.heap.size + 1) 22 1 vA fs.length vs
 fa:Vs W vs fs
 bel:Below w.heap.size w W
 far:Far w.heap.size vs
theorem Cys.below {w:World} {N:Nat} {f:Nat → Nat} {k:Nat} {fs:List (List Nat)} {bs:List Bool} {vs:List Value} {vA:Value} {W W':World} (h:Cys w N f k fs bs vs vA W) (hb:Below W.heap.size W W'):Cys w N f k fs bs vs vA W' :=
 ⟨h.fc,h.few,Row.below h.seen hb,own_keep h.own hb (Nat.le_refl _),h.fa.below hb,h.bel.trans (hb.mono h.bel.size),h.far⟩
def CyclesPost (f:Nat → Nat) (N:Nat) (w:World) (e:Ending) (w':World):Prop :=
 ∃ (A:Option Addr) (c:Nat) (fs:List (List Nat)) (bs:List Bool) (vs:List Value),e = .returned (.slice A fs.length c) ∧ Pl.Fcs f (fun _ => True) N N fs bs ∧ fs.length ≤ N ∧ RowT w' 22 A fs.length vs ∧ Vs w' vs fs ∧ Below w.heap.size w w' ∧ Far w.heap.size vs
set_option maxRecDepth 100000 in
set_option maxHeartbeats 3000000 in
theorem cycles_any (c:Value) (N:Nat) (S:Nat → Prop) (f:Nat → Nat) (w:World) (hst:Steps 111 c N f w) (hbij:Pl.Bij N S f) (hS:∀ x,x < N → S x) (hSN:∀ x,S x → x < N) (hN:N ≤ 1000) :
 Calls Tryz.prog 58 #[.int .i64 (N:Int),.func (.func 110) #[] #[],fv1 111 c] w (CyclesPost f N w) := by
 unfold fv1
 have HST:=hide hst
 have HBI:=hide hbij
 have HSS:=hide hS
 have HSN:=hide hSN
 have hmk:=fun W:World => run_bools N (by omega) W
 have HF:=hide (show ∀ x,x < N → f x < N from fun x hx => hSN _ (hbij.maps x (hS x hx)))
 have H0:=hide (show Cys w N f 0 [] (List.replicate N false) [] (.slice none 0 0) (w.alloc (.cells (Array.replicate N (Value.bool false)) 4)) from
  ⟨Pl.Fcs.start f _ N,Nat.le_refl _,BRow.made w N,World.ownsRow_nil _ _ _ _,Vs.nil _,(Below.refl _ _).alloc (Nat.le_refl _) _,fun v hv => by simp at hv⟩)
 clear hst hbij hS hSN
 go_enter Tryz.func58,Tryz.ntmps58
 go_wp2
 clear hmk
 go_loopg [7,16] N (fun g v i wx => ∃ (k:Nat) (fs:List (List Nat)) (bs:List Bool) (vs:List Value),k + g = N ∧ i = .int .i64 k ∧ Cys w N f k fs bs vs v wx)
 case atStart => exact ⟨0,_,_,_,by omega,rfl,H0.out⟩
 case round =>
  clear H0
  obtain ⟨k,fs,bs,vs,hkg,rfl,hk⟩:=hrel
  have HKG:=hide hkg
  have hkN:k ≤ N:=by omega
  have HK:=hide hk
  clear hkg hk
  obtain ⟨go,rfl⟩:∃ go,go = gk := ⟨_,rfl⟩
  obtain ⟨A7,c7,rfl⟩:=owns_slice HK.out.own
  by_cases hlt:k < N
  ·have hbl:k < bs.length:=by rw [HK.out.fc.len]; exact hlt
   have hc:=HK.out.seen.cell hbl
   have ik:(0:Int) ≤ (k:Int):=by omega
   have jk:(k:Int) < (N:Int):=by omega
   cases hg:Pl.gb bs k with
   | true =>
     have HGB:=hide hg
     have hc':wr.cell? ⟨w.heap.size,k,none⟩ = some (.bool true):=by rw [hc]; unfold Pl.gb at hg; rw [hg]
     clear hc hg
     go_wp2
     go_roundg (go - 1)
     case measure => have := HKG.out; omega
     case rel => exact ⟨k + 1,fs,bs,vs,by have := HKG.out; omega,by go_num,HK.out.fc.skip (.inl HGB.out),by have := HK.out.few; omega,HK.out.seen,HK.out.own,HK.out.fa,HK.out.bel,HK.out.far⟩
   | false =>
     have HGB:=hide hg
     have hc':wr.cell? ⟨w.heap.size,k,none⟩ = some (.bool false):=by rw [hc]; unfold Pl.gb at hg; rw [hg]
     clear hc hg
     go_wp2_with fail
     refine (every_any _ _).mono ?_
     rintro e w1 ⟨rfl,rfl⟩
     go_wp2_with fail
     obtain ⟨p,hpN,hper⟩:=HBI.out.per (HSS.out k hlt)
     have HPER:=hide hper
     clear hper
     refine (cycle_any c N f k p _ (HST.out.keep HK.out.bel) HF.out hlt HPER.out hpN hN).mono ?_
     rintro e w2 ⟨A5,c5,rfl,own5,hb5⟩
     have HK2:=hide (HK.out.below hb5)
     have FA2:=hide (show FaceAt w2 (.slice A5 p c5) (Pl.cyc f k p) from ⟨A5,c5,by rw [Pl.cyc_len],by rw [Pl.cyc_len]; exact own_rowT own5⟩)
     have HFR:=hide (show ∀ g,(Value.slice A5 p c5).ownBlock = some g → w.heap.size ≤ g from fun g hg => by have := (own5.lt g hg).1; have := HK.out.bel.size; omega)
     have HFA0:=hide HK.out.far
     clear own5 hb5
     have hp0:=HPER.out.1
     obtain ⟨b5,o5,rfl,_⟩:=nats_at FA2.out.ints.2 (k := 0) hp0
     have HFC:=hide HK.out.fc
     have hfew:=HK.out.few
     have HM0:=hide (show BRow w2 w.heap.size (Pl.mark bs ((Pl.cyc f k p).take 0)) from HK2.out.seen)
     go_wp2_with fail
     go_loopg [34] p (fun g i wx => ∃ j:Nat,j + g = p ∧ i = .int .i64 j ∧ BRow wx w.heap.size (Pl.mark bs ((Pl.cyc f k p).take j)) ∧ wx.ownsRow (w.heap.size + 1) 22 1 (.slice A7 fs.length c7) fs.length vs ∧ Vs wx vs fs ∧ FaceAt wx (.slice (some ⟨b5,o5,none⟩) p c5) (Pl.cyc f k p) ∧ Below w.heap.size w wx)
     case atStart => exact ⟨0,by omega,rfl,HM0.out,HK2.out.own,HK2.out.fa,FA2.out,HK2.out.bel⟩
     case round =>
      clear HM0 FA2 HK2 HK
      obtain ⟨j,hjg,rfl,hbr,hown,hvs,hfa,hbel⟩:=hrel
      have HJG:=hide hjg
      have hjp:j ≤ p:=by omega
      have HBR:=hide hbr
      have HOWN:=hide hown
      have HVS:=hide hvs
      have HFA:=hide hfa
      have HBEL:=hide hbel
      have hsz:=hbr.lt
      clear hjg hbr hown hvs hfa hbel
      by_cases hlj:j < p
      ·obtain ⟨b',o',e',hcj⟩:=nats_at HFA.out.ints.2 (k := j) hlj
       injection e' with e'
       injection e' with e1 e2
       subst e1
       subst e2
       rw [Pl.cyc_get hlj] at hcj
       obtain ⟨y,hy⟩:∃ y,y = Pl.it f j k := ⟨_,rfl⟩
       have hyN:y < N:=by rw [hy]; exact it_lt HF.out hlt j
       rw [← hy] at hcj
       have HY:=hide hy
       clear hy
       have hyl:y < (Pl.mark bs ((Pl.cyc f k p).take j)).length:=by rw [Pl.mark_len,HFC.out.len]; exact hyN
       have cy:=HBR.out.cell hyl
       have fy:=Row.free HBR.out y
       have iy:(0:Int) ≤ (y:Int):=by omega
       have jy:(y:Int) < (N:Int):=by omega
       go_wp2_with fail
       go_roundg (gk - 1)
       case measure => have := HJG.out; omega
       case rel =>
        refine ⟨j + 1,by have := HJG.out; omega,by go_num,?_,?_,HVS.out.store HBR.out (by decide) _,HFA.out.store HBR.out (by decide) _,HBEL.out.setCell (Nat.le_refl _) _⟩
        ·have h1:=HBR.out.set y true
         have h2:(Pl.cyc f k p).take (j + 1) = (Pl.cyc f k p).take j ++ [y]:=by
          rw [List.take_succ_eq_append_getElem (by rw [Pl.cyc_len]; exact hlj)]
          congr 2
          have:=Pl.cyc_get (f := f) (x := k) hlj
          rw [List.getD_eq_getElem?_getD,List.getElem?_eq_getElem (by rw [Pl.cyc_len]; exact hlj)] at this
          rw [HY.out]
          exact this
         rw [h2,Pl.mark_append]
         exact h1
        ·exact ownsRow_setCell_below HOWN.out (by show w.heap.size < w.heap.size + 1; omega) _
      ·have hjj:j = p:=by omega
       subst hjj
       obtain ⟨i0,hi0,hz0,hz1,hz2⟩:=info_parts rowInfo
       have P1:∀ u ∈ [Value.slice (some ⟨b5,o5,none⟩) j c5],u.oneCell' = true:=by simp [Value.oneCell']
       go_wp2_with (at_builtin; refine wpList_append_lies _ (by rfl) _ _ 59 (by rfl) (w.heap.size + 1) 22 i0 (.slice none 0 0) 1 24 Tryz.underlying59 hi0 hz0 hz1 hz2 rfl (by omega) _ fs.length vs (by rfl) (HOWN.out.alloc _) ⟨wr.heap.size,0,none⟩ 1 1 [.slice (some ⟨b5,o5,none⟩) j c5] (by rfl) (by rfl) (World.news_of_block (cs := #[.slice (some ⟨b5,o5,none⟩) j c5]) (t := 22) (fr := (0,0)) (heap_alloc_new wr _)) P1 (by omega) (by unfold maxLen; omega) (by omega) (by simp; omega) (wr.heap.size + 1) (by simp) ?_; intro g3 c3 w3 own3 grow3 at3 lt3)
       go_roundg (go - 1)
       case measure => have := HKG.out; omega
       case rel =>
        have hbk:=fun g (hg:(Value.slice A7 fs.length c7).ownBlock = some g) => ownsRow_block (HOWN.out.alloc (.cells #[.slice (some ⟨b5,o5,none⟩) j c5] 22)) g hg
        have hba:Below wr.heap.size wr (wr.alloc (.cells #[.slice (some ⟨b5,o5,none⟩) j c5] 22)):=(Below.refl _ _).alloc (Nat.le_refl _) _
        refine ⟨k + 1,fs ++ [Pl.cyc f k j],Pl.mark bs (Pl.cyc f k j),vs ++ [.slice (some ⟨b5,o5,none⟩) j c5],by have := HKG.out; omega,by go_num,?_⟩
        refine ⟨HFC.out.add HBI.out HSS.out HSN.out hlt trivial HGB.out HPER.out,by simp; omega,?_,by simpa using own3,?_,?_,HFA0.out.add HFR.out⟩
        ·have h1:=HBR.out
         rw [List.take_of_length_le (by rw [Pl.cyc_len]; omega)] at h1
         refine Row.grown (Row.alloc h1 (.cells #[.slice (some ⟨b5,o5,none⟩) j c5] 22)) grow3 ?_
         intro e
         obtain ⟨cs,fr,h3⟩:=hbk _ e.symm
         have h4:=Row.alloc h1 (.cells #[.slice (some ⟨b5,o5,none⟩) j c5] 22)
         rw [h4] at h3
         injection h3 with h3
         injection h3 with _ h5
         exact absurd h5 (by decide)
        ·exact ((HVS.out.below hba).grown grow3 hbk (by decide)).add ((HFA.out.below hba).grown grow3 hbk (by decide))
        ·exact (HBEL.out.alloc (by omega) _).grown grow3 (by simp; omega) (fun k hk => by have := (HOWN.out.lt k hk).1; omega)
  ·go_wp2
   go_ret
   have:k = N:=by omega
   subst this
   exact ⟨A7,c7,fs,bs,vs,rfl,HK.out.fc,HK.out.few,own_rowT HK.out.own,HK.out.fa,HK.out.bel,HK.out.far⟩
end Go.Proofs.YtghdiolnonejaaaGreatDoor
end
section
namespace Go.Proofs.YtghdiolnonejaaaGreatDoor
open Go Go.RowKit
theorem mk_self (d:Pl.Dg):Pl.mk d.sg (nats d.mt) d.lp = d := by
 unfold Pl.mk nats
 rw [List.map_map]
 have:(Int.toNat ∘ fun m:Nat => (m:Int)) = id:=by funext x; rfl
 rw [this,List.map_id]
 rfl
theorem vl_of {d:Pl.Dg}:Pl.VL d.sg (nats d.mt) d.lp ↔ Pl.Valid d := by
 constructor
 ·intro h; have := h.1; rwa [mk_self] at this
 ·intro h; exact ⟨by rw [mk_self]; exact h,fun z hz => by unfold nats at hz; obtain ⟨m,_,rfl⟩:=List.mem_map.1 hz; omega,by omega⟩
theorem valid_yes (d:Pl.Dg) (hd:Pl.Valid d) (A B:Option Addr) (cp cq m:Nat) (w:World) (hm:m = 4 * d.n) (hg:DgAt w A B d) :
 Calls Tryz.prog 8 #[.agg #[.slice A d.n cp,.slice B m cq,.int .i64 d.lp]] w fun e w' => e = .returned (.bool true) ∧ Below w.heap.size w w' := by
 have hn:=hd.wf.few
 have hl:=hd.wf.lp
 refine (valid_any d.sg (nats d.mt) d.lp A B d.n m cp cq w hg.s (by rw [hm]; exact hg.m) (by unfold maxLen; omega) (by unfold maxLen; omega) (by omega)).mono ?_
 rintro e w' ⟨h1,h2⟩
 rw [Pl.vb_true (vl_of.2 hd)] at h1
 exact ⟨h1,h2⟩
def FacesPost (d:Pl.Dg) (w:World) (e:Ending) (w':World):Prop := CyclesPost (Pl.nx d) (4 * d.n) w e w'
set_option maxRecDepth 100000 in
set_option maxHeartbeats 1000000 in
theorem faces_any (d:Pl.Dg) (hd:Pl.Valid d) (A B:Option Addr) (cp cq m:Nat) (w:World) (hm:m = 4 * d.n) (hg:DgAt w A B d) :
 Calls Tryz.prog 86 #[.agg #[.slice A d.n cp,.slice B m cq,.int .i64 d.lp]] w (FacesPost d w) := by
 have hn:=hd.wf.few
 have HM:=hide hm
 have HG:=hide hg
 have B0:=hide (show Below w.heap.size w (w.alloc (.cells #[.slice A d.n cp,.slice B m cq,.int .i64 d.lp] 24)) from (Below.refl _ _).alloc (Nat.le_refl _) _)
 have X0:=hide (show Row (w.alloc (.cells #[.slice A d.n cp,.slice B m cq,.int .i64 d.lp] 24)) w.heap.size 24 [.slice A d.n cp,.slice B m cq,.int .i64 d.lp] from Row.new w _ [_,_,_])
 clear hm hg
 have hmf:∀ (fn:Fn) (first cap:Array Value) (w:World),(Instr.makeFunc fn first cap).run Tryz.prog w = .ok (.func fn first cap) w:=fun _ _ _ _ => rfl
 go_enter Tryz.func86,Tryz.ntmps86
 go_wp2_with fail
 refine (valid_yes d hd A B cp cq m _ HM.out (HG.out.keep B0.out)).mono ?_
 rintro e w1 ⟨rfl,hb1⟩
 have B1:=hide (B0.out.trans (hb1.mono B0.out.size))
 have X1:=hide (X0.out.below hb1)
 have ST:=hide (nextF_steps d B cq m w.heap.size _ _ w1 HM.out hd.wf X1.out (by rw [HM.out]; exact (HG.out.keep B1.out).m))
 obtain ⟨f0,f1,f2,f3⟩:=box3 X1.out
 clear hb1
 go_wp2_with fail
 have hcc:(m:Int) = ((4 * d.n:Nat):Int):=by rw [HM.out]
 refine (Calls.mono (P := Tryz.prog) (by rw [hcc]; exact cycles_any (.pointer (some ⟨w.heap.size,0,none⟩)) (4 * d.n) (Pl.dart d) (Pl.nx d) w1 ST.out hd.wf.nxb (fun _ h => h) (fun _ h => h) (by omega)) ?_)
 rintro e w2 ⟨A7,c7,fs,bs,vs,rfl,h1,h2,h3,h4,h5,h6⟩
 clear hcc
 have H1:=hide h1
 have H2:=hide h2
 have H3:=hide h3
 have H4:=hide h4
 have B2:=hide (B1.out.trans (h5.mono B1.out.size))
 have H6:=hide (show Far w.heap.size vs from fun v hv g hg => Nat.le_trans B1.out.size (h6 v hv g hg))
 clear h1 h2 h3 h4 h5 h6
 go_wp2
 go_ret
 exact ⟨A7,c7,fs,bs,vs,rfl,H1.out,H2.out,H3.out,H4.out,B2.out,H6.out⟩
end Go.Proofs.YtghdiolnonejaaaGreatDoor
end
section
namespace Go.Proofs.YtghdiolnonejaaaGreatDoor
open Go Go.RowKit
theorem next_i (d:Pl.Dg) (hd:Pl.Wf d) (B:Option Addr) (cq m:Nat) (h:Int) (w:World) (e:m = 4 * d.n) (hh:0 ≤ h ∧ h < (m:Int)) (hm:IntsAt w B m (nats d.mt)) :
 Calls Tryz.prog 91 #[.slice B m cq,.int .i64 h] w fun e w' => e = .returned (.int .i64 (Pl.nx d h.toNat:Nat)) ∧ w' = w := by
 subst e
 obtain ⟨k,rfl⟩:=Int.eq_ofNat_of_zero_le hh.1
 have hk:k < 4 * d.n:=by omega
 refine (next_any d B cq k w hk (by have := hd.few; omega) hm (hd.lt k hk)).mono ?_
 rintro e w' ⟨rfl,rfl⟩
 exact ⟨rfl,rfl⟩
def lnH (x y i:Nat):Nat := if i < 4 then 4 * x + i else 4 * y + i - 4
def lnO (x y i:Nat):Nat := if i < 4 then y else x
def isL (d:Pl.Dg) (x y i:Nat):Prop := Pl.nx d (lnH x y i) / 4 = lnO x y i ∧ Pl.nx d (Pl.nx d (lnH x y i)) = lnH x y i ∧ lnH x y i % 2 = d.m (lnH x y i) % 2
instance (d:Pl.Dg) (x y i:Nat):Decidable (isL d x y i) := by unfold isL; infer_instance
def lensI (d:Pl.Dg) (x y:Nat):Option Nat := (List.range 8).find? (fun i => decide (isL d x y i))
def lensV (d:Pl.Dg) (h:Nat):Value :=
 .agg #[.int .i64 (h:Int),.int .i64 (d.m (Pl.nx d h):Int),.int .i64 (Pl.tn h 2:Int),.int .i64 (Pl.tn (d.m (Pl.nx d h)) 2:Int),.int .i64 (Pl.tn (d.m h) 2:Int),.int .i64 (Pl.nx d h:Int),.int .i64 (d.m h:Int),.int .i64 (Pl.tn (Pl.nx d h) 2:Int)]
def noLens:Value := .agg #[.int .i64 0,.int .i64 0,.int .i64 0,.int .i64 0,.int .i64 0,.int .i64 0,.int .i64 0,.int .i64 0]
def findE (d:Pl.Dg) (x y:Nat):Option Nat → Ending
 | some i => .returned (.tuple #[lensV d (lnH x y i),.bool true])
 | none => .returned (.tuple #[noLens,.bool false])
def FindPost (d:Pl.Dg) (x y:Nat) (w:World) (e:Ending) (w':World):Prop := e = findE d x y (lensI d x y) ∧ Below w.heap.size w w'
theorem find_some {p:Nat → Bool} {k:Nat}:∀ n,k < n → p k = true → (∀ j,j < k → p j = false) → (List.range n).find? p = some k := by
 intro n
 induction n with
 | zero => intro h; omega
 | succ n ih =>
   intro hk hp hn
   rw [List.range_succ,List.find?_append]
   rcases Nat.lt_or_ge k n with h | h
   ·rw [ih h hp hn]; rfl
   ·have:k = n:=by omega
    subst this
    have h0:(List.range k).find? p = none:=by
     rw [List.find?_eq_none]
     intro x hx
     rw [hn x (List.mem_range.1 hx)]; decide
    rw [h0]
    simp [hp]
theorem find_none {p:Nat → Bool} {n:Nat} (hn:∀ j,j < n → p j = false):(List.range n).find? p = none := by
 rw [List.find?_eq_none]
 intro x hx
 rw [hn x (List.mem_range.1 hx)]; decide
theorem lens_at {d:Pl.Dg} {x y k:Nat} (hk:k < 8) (hp:isL d x y k) (hn:∀ j,j < k → ¬ isL d x y j):lensI d x y = some k :=
 find_some 8 hk (by simpa using hp) (fun j hj => by simpa using hn j hj)
theorem lens_no {d:Pl.Dg} {x y:Nat} (hn:∀ j,j < 8 → ¬ isL d x y j):lensI d x y = none := find_none (fun j hj => by simpa using hn j hj)
theorem find_more {p:Nat → Prop} {k:Nat} (h:∀ j,j < k → ¬ p j) (hk:¬ p k):∀ j,j < k + 1 → ¬ p j := fun j hj => by
 rcases Nat.lt_or_ge j k with h1 | h1
 ·exact h j h1
 ·have:j = k:=by omega
  subst this; exact hk
theorem row8 {W:World} {g:Nat} {t:TypeId} {vs:List Value} (h:Row W g t vs) (l:vs.length = 8) (y0 y1 y2 y3 y4 y5 y6 y7:Value) :
 Row ((((((((W.setCell ⟨g,0,none⟩ y0).setCell ⟨g,1,none⟩ y1).setCell ⟨g,2,none⟩ y2).setCell ⟨g,3,none⟩ y3).setCell ⟨g,4,none⟩ y4).setCell ⟨g,5,none⟩ y5).setCell ⟨g,6,none⟩ y6).setCell ⟨g,7,none⟩ y7) g t [y0,y1,y2,y3,y4,y5,y6,y7] := by
 obtain ⟨a,b,c,d,e,f,g',h',rfl⟩:∃ a b c d e f g h,vs = [a,b,c,d,e,f,g,h] := by
  match vs,l with
  | [a,b,c,d,e,f,g,h],_ => exact ⟨a,b,c,d,e,f,g,h,rfl⟩
 exact (((((((h.set 0 y0).set 1 y1).set 2 y2).set 3 y3).set 4 y4).set 5 y5).set 6 y6).set 7 y7
theorem box8 {W:World} {g:Nat} {t:TypeId} {a b c d e f p q:Value} (h:Row W g t [a,b,c,d,e,f,p,q]):W.cell? ⟨g,0,none⟩ = some a ∧ W.cell? ⟨g,1,none⟩ = some b ∧ W.cell? ⟨g,2,none⟩ = some c ∧ W.cell? ⟨g,3,none⟩ = some d ∧ W.cell? ⟨g,4,none⟩ = some e ∧ W.cell? ⟨g,5,none⟩ = some f ∧ W.cell? ⟨g,6,none⟩ = some p ∧ W.cell? ⟨g,7,none⟩ = some q ∧ ∀ o,W.frozen? ⟨g,o,none⟩ = false :=
 ⟨h.cell (i := 0) (by simp),h.cell (i := 1) (by simp),h.cell (i := 2) (by simp),h.cell (i := 3) (by simp),h.cell (i := 4) (by simp),h.cell (i := 5) (by simp),h.cell (i := 6) (by simp),h.cell (i := 7) (by simp),h.free⟩
theorem below_set8 {w W:World} {g:Nat} (h:Below w.heap.size w W) (hg:w.heap.size ≤ g) (y0 y1 y2 y3 y4 y5 y6 y7:Value) :
 Below w.heap.size w ((((((((W.setCell ⟨g,0,none⟩ y0).setCell ⟨g,1,none⟩ y1).setCell ⟨g,2,none⟩ y2).setCell ⟨g,3,none⟩ y3).setCell ⟨g,4,none⟩ y4).setCell ⟨g,5,none⟩ y5).setCell ⟨g,6,none⟩ y6).setCell ⟨g,7,none⟩ y7) :=
 (((((((h.setCell hg _).setCell hg _).setCell hg _).setCell hg _).setCell hg _).setCell hg _).setCell hg _).setCell hg _
set_option maxRecDepth 100000 in
set_option maxHeartbeats 4000000 in
theorem find_any (d:Pl.Dg) (hd:Pl.Wf d) (A B:Option Addr) (cp cq m x y:Nat) (w:World) (hm:m = 4 * d.n) (hg:DgAt w A B d) (hx:x < d.n) (hy:y < d.n) :
 Calls Tryz.prog 88 #[.agg #[.slice A d.n cp,.slice B m cq,.int .i64 d.lp],.int .i64 (x:Int),.int .i64 (y:Int)] w (FindPost d x y w) := by
 have hn:=hd.few
 have HM:=hide hm
 have HG:=hide hg
 have hm2:m ≤ 256:=by omega
 clear hm hg
 have X0:=hide (show Row ((w.alloc (.cells #[.slice A d.n cp,.slice B m cq,.int .i64 d.lp] 24)).alloc (.cells #[.int .i64 0,.int .i64 0,.int .i64 0,.int .i64 0,.int .i64 0,.int .i64 0,.int .i64 0,.int .i64 0] 131)) w.heap.size 24 [.slice A d.n cp,.slice B m cq,.int .i64 d.lp] from Row.alloc (Row.new w _ [_,_,_]) _)
 have R0:=hide (show Row ((w.alloc (.cells #[.slice A d.n cp,.slice B m cq,.int .i64 d.lp] 24)).alloc (.cells #[.int .i64 0,.int .i64 0,.int .i64 0,.int .i64 0,.int .i64 0,.int .i64 0,.int .i64 0,.int .i64 0] 131)) (w.heap.size + 1) 131 [.int .i64 0,.int .i64 0,.int .i64 0,.int .i64 0,.int .i64 0,.int .i64 0,.int .i64 0,.int .i64 0] from row_at (vs := [_,_,_,_,_,_,_,_]) (by simp))
 have B0:=hide (show Below w.heap.size w ((w.alloc (.cells #[.slice A d.n cp,.slice B m cq,.int .i64 d.lp] 24)).alloc (.cells #[.int .i64 0,.int .i64 0,.int .i64 0,.int .i64 0,.int .i64 0,.int .i64 0,.int .i64 0,.int .i64 0] 131)) from ((Below.refl _ _).alloc (Nat.le_refl _) _).alloc (by simp) _)
 go_enter Tryz.func88,Tryz.ntmps88
 go_wp2
 go_loopg [15] 8 (fun g i wx => ∃ k:Nat,k + g = 8 ∧ i = .int .i64 k ∧ (∀ j,j < k → ¬ isL d x y j) ∧ Below w.heap.size w wx ∧ Row wx w.heap.size 24 [.slice A d.n cp,.slice B m cq,.int .i64 d.lp] ∧ Row wx (w.heap.size + 1) 131 [.int .i64 0,.int .i64 0,.int .i64 0,.int .i64 0,.int .i64 0,.int .i64 0,.int .i64 0,.int .i64 0])
 case atStart => exact ⟨0,rfl,rfl,fun j h => absurd h (by omega),B0.out,X0.out,R0.out⟩
 case round =>
  clear B0 X0 R0
  obtain ⟨k,hkg,rfl,hno,b1,x1,r1⟩:=hrel
  have HKG:=hide hkg
  have HNO:=hide hno
  have B1:=hide b1
  have X1:=hide x1
  have R1:=hide r1
  clear hno b1 x1 r1
  by_cases hk:k = 8
  ·subst hk
   clear hkg
   obtain ⟨p0,p1,p2,p3,p4,p5,p6,p7,p8⟩:=box8 R1.out
   go_wp2
   refine bodyPost_ret (v := .tuple #[noLens,.bool false]) ?_ rfl ?_
   ·obtain ⟨e0,e1,e2,e3,e4,e5,e6,e7,_⟩:=box8 (row8 R1.out rfl (.int .i64 0) (.int .i64 0) (.int .i64 0) (.int .i64 0) (.int .i64 0) (.int .i64 0) (.int .i64 0) (.int .i64 0))
    unfold noLens
    simp [results,Tryz.results88,go_sem,e0,e1,e2,e3,e4,e5,e6,e7]
   ·refine ⟨?_,below_set8 B1.out (by omega) _ _ _ _ _ _ _ _⟩
    rw [lens_no HNO.out]
    rfl
  ·have hk8:k < 8:=by omega
   have HK8:=hide hk8
   clear hkg hk
   obtain ⟨f0,f1,f2,f3⟩:=box3 X1.out
   go_upto_if 24 with fail
   go_cut [9,10] (fun s9 s10 wx => s9 = .int .i64 (lnH x y k:Nat) ∧ s10 = .int .i64 (lnO x y k:Nat) ∧ wx = wr)
   case first =>
    by_cases h4:k < 4
    ·have e1:((lnH x y k:Nat):Int) = 4 * (x:Int) + (k:Int):=by unfold lnH; rw [if_pos h4]; omega
     have e2:lnO x y k = y:=by unfold lnO; rw [if_pos h4]
     have E1:=hide e1
     have E2:=hide e2
     clear e1 e2
     go_wp2_with fail
     go_meet
     exact ⟨by rw [E1.out],by rw [E2.out],rfl⟩
    ·have e1:((lnH x y k:Nat):Int) = 4 * (y:Int) + (k:Int) - 4:=by unfold lnH; rw [if_neg h4]; omega
     have e2:lnO x y k = x:=by unfold lnO; rw [if_neg h4]
     have E1:=hide e1
     have E2:=hide e2
     clear e1 e2
     go_wp2_with fail
     go_meet
     exact ⟨by rw [E1.out],by rw [E2.out],rfl⟩
   case rest =>
    obtain ⟨rfl,rfl,rfl⟩:=hcut
    have hh:lnH x y k < 4 * d.n:=by unfold lnH; split <;> omega
    have ho:lnO x y k < d.n:=by unfold lnO; split <;> omega
    obtain ⟨h,hH⟩:∃ h,h = lnH x y k := ⟨_,rfl⟩
    obtain ⟨o,hO⟩:∃ o,o = lnO x y k := ⟨_,rfl⟩
    rw [← hH] at hh ⊢
    rw [← hO] at ho ⊢
    have HH:=hide hH
    have HO:=hide hO
    clear hH hO
    have hmh:h < m:=by have := HM.out; omega
    have ih0:(0:Int) ≤ (h:Int):=by omega
    have ih1:(h:Int) < (m:Int):=by omega
    have HGc:=hide (HG.out.keep B1.out)
    have HGM:=hide (show IntsAt wc B m (nats d.mt) by rw [HM.out]; exact HGc.out.m)
    obtain ⟨mb,mo,rfl,cm⟩:=mate_at HGc.out.m hh
    have hmm:=hd.lt h hh
    have hgg:Pl.nx d h < 4 * d.n:=Pl.tn_lt (hd.lt h hh)
    obtain ⟨u,hu⟩:∃ u,u = d.m h := ⟨_,rfl⟩
    rw [← hu] at cm hmm
    obtain ⟨g,hgx⟩:∃ g,g = Pl.nx d h := ⟨_,rfl⟩
    rw [← hgx] at hgg
    have HU:=hide hu
    have HGX:=hide hgx
    clear hu hgx
    have hg2:Pl.nx d g < 4 * d.n:=Pl.tn_lt (hd.lt g hgg)
    have hgm:g < m:=by have := HM.out; omega
    have ig0:(0:Int) ≤ (g:Int):=by omega
    have ig1:(g:Int) < (m:Int):=by omega
    go_wp2_with fail
    refine (next_i d hd (some ⟨mb,mo,none⟩) cq m (h:Int) _ HM.out (by omega) HGM.out).mono ?_
    rintro e w2 ⟨rfl,rfl⟩
    rw [Int.toNat_natCast,← HGX.out]
    have HL:=hide (show isL d x y k ↔ (g / 4 = o ∧ Pl.nx d g = h ∧ h % 2 = u % 2) by unfold isL; rw [← HH.out,← HO.out,← HGX.out,← HU.out])
    obtain ⟨v,hv⟩:∃ v,v = Pl.nx d g := ⟨_,rfl⟩
    have HV:=hide hv
    clear hv cm
    by_cases c1:g / 4 = o
    ·have t1:((g:Int) / 4 != (o:Int)) = false:=by rw [bne_eq_false_iff_eq]; omega
     have C1:=hide c1
     clear c1
     go_wp2_with fail
     refine (next_i d hd (some ⟨mb,mo,none⟩) cq m (g:Int) _ HM.out (by omega) HGM.out).mono ?_
     rintro e w3 ⟨rfl,rfl⟩
     rw [Int.toNat_natCast,← HV.out]
     by_cases c2:v = h
     ·have t2:((v:Int) != (h:Int)) = false:=by rw [bne_eq_false_iff_eq]; omega
      by_cases c3:h % 2 = u % 2
      ·have t3:((h:Int) % 2 != (u:Int) % 2) = false:=by rw [bne_eq_false_iff_eq]; omega
       have E:=hide (lens_at HK8.out (HL.out.2 ⟨C1.out,by rw [← HV.out]; exact c2,c3⟩) HNO.out)
       have C2:=hide c2
       clear c2 c3
       have HGn:=hide (HG.out.keep B1.out)
       obtain ⟨mb',mo',hmb',cn⟩:=mate_at HGn.out.m hgg
       injection hmb' with hmb'
       injection hmb' with hmb1 hmb2
       subst hmb1
       subst hmb2
       have hmg:=hd.lt g hgg
       obtain ⟨up,hup⟩:∃ up,up = d.m g := ⟨_,rfl⟩
       rw [← hup] at cn hmg
       have HUP:=hide hup
       clear hup
       obtain ⟨p0,p1,p2,p3,p4,p5,p6,p7,p8⟩:=box8 R1.out
       go_wp2_with fail
       refine (opp_i (h:Int) _ (by omega)).mono ?_
       rintro e w4 ⟨rfl,rfl⟩
       go_wp2_with fail
       refine (opp_i (up:Int) _ (by omega)).mono ?_
       rintro e w5 ⟨rfl,rfl⟩
       go_wp2_with fail
       refine (opp_i (u:Int) _ (by omega)).mono ?_
       rintro e w6 ⟨rfl,rfl⟩
       go_wp2_with fail
       refine (opp_i (g:Int) _ (by omega)).mono ?_
       rintro e w7 ⟨rfl,rfl⟩
       have hlt:=R1.out.lt
       go_wp2
       refine bodyPost_ret (v := .tuple #[lensV d h,.bool true]) ?_ rfl ?_
       ·obtain ⟨e0,e1,e2,e3,e4,e5,e6,e7,_⟩:=box8 ((row8 R1.out rfl (.int .i64 (h:Int)) (.int .i64 (up:Int)) (.int .i64 (Pl.tn h 2:Int)) (.int .i64 (Pl.tn up 2:Int)) (.int .i64 (Pl.tn u 2:Int)) (.int .i64 (g:Int)) (.int .i64 (u:Int)) (.int .i64 (Pl.tn g 2:Int))).alloc (.cells #[.int .i64 (h:Int),.int .i64 (up:Int),.int .i64 (Pl.tn h 2:Int),.int .i64 (Pl.tn up 2:Int),.int .i64 (Pl.tn u 2:Int),.int .i64 (g:Int),.int .i64 (u:Int),.int .i64 (Pl.tn g 2:Int)] 131))
        unfold lensV
        rw [← HGX.out,← HU.out,← HUP.out]
        simp [results,Tryz.results88,go_sem,e0,e1,e2,e3,e4,e5,e6,e7]
       ·refine ⟨?_,Below.alloc (below_set8 B1.out (by omega) _ _ _ _ _ _ _ _) (below_set8 B1.out (by omega) _ _ _ _ _ _ _ _).size _⟩
        rw [E.out]
        show _ = Ending.returned (.tuple #[lensV d (lnH x y k),.bool true])
        rw [← HH.out]
      ·have t3:((h:Int) % 2 != (u:Int) % 2) = true:=by rw [bne_iff_ne]; omega
       have E:=hide (show ¬ isL d x y k from fun h => c3 (HL.out.1 h).2.2)
       clear c2 c3
       go_wp2_with fail
       go_roundg (gk - 1)
       case measure => have := HKG.out; have := HK8.out; omega
       case rel => exact ⟨k + 1,by have := HKG.out; have := HK8.out; omega,by go_num,find_more HNO.out E.out,B1.out,X1.out,R1.out⟩
     ·have t2:((v:Int) != (h:Int)) = true:=by rw [bne_iff_ne]; omega
      have E:=hide (show ¬ isL d x y k from fun h => c2 (by rw [HV.out]; exact (HL.out.1 h).2.1))
      clear c2
      go_wp2_with fail
      go_roundg (gk - 1)
      case measure => have := HKG.out; have := HK8.out; omega
      case rel => exact ⟨k + 1,by have := HKG.out; have := HK8.out; omega,by go_num,find_more HNO.out E.out,B1.out,X1.out,R1.out⟩
    ·have t1:((g:Int) / 4 != (o:Int)) = true:=by rw [bne_iff_ne]; omega
     have E:=hide (show ¬ isL d x y k from fun h => c1 (HL.out.1 h).1)
     clear c1
     go_wp2_with fail
     go_roundg (gk - 1)
     case measure => have := HKG.out; have := HK8.out; omega
     case rel => exact ⟨k + 1,by have := HKG.out; have := HK8.out; omega,by go_num,find_more HNO.out E.out,B1.out,X1.out,R1.out⟩
end Go.Proofs.YtghdiolnonejaaaGreatDoor
end
section
namespace Go.Proofs.YtghdiolnonejaaaGreatDoor
open Go Go.RowKit
attribute [local go_sem ↓] Go.wp_at_zero Go.wp_at_succ
def eo (d:Pl.Dg) (o:Nat):Nat := if Pl.out d o = true then o else d.m o
def ei (d:Pl.Dg) (o:Nat):Nat := d.m (eo d o)
def pz (d:Pl.Dg) (o:Nat):List Value := [.int .i64 (Pl.tn (eo d o) 2:Nat),.int .i64 (eo d o:Nat),.int .i64 (ei d o:Nat),.int .i64 (Pl.tn (ei d o) 2:Nat)]
def zz:List Value := [.int .i64 0,.int .i64 0,.int .i64 0,.int .i64 0]
def isO (d:Pl.Dg) (o:Nat):Bool := eo d o % 2 == 1 && ei d o % 2 == 1
def isU (d:Pl.Dg) (o:Nat):Bool := eo d o % 2 == 0 && ei d o % 2 == 0
def th (d:Pl.Dg) (h k:Nat):Nat := if k = 0 then h else if k = 1 then Pl.nx d h else Pl.nx d (Pl.nx d h)
def is3 (d:Pl.Dg) (h:Nat):Prop := Pl.nx d (th d h 2) = h ∧ h / 4 ≠ th d h 1 / 4 ∧ th d h 1 / 4 ≠ th d h 2 / 4 ∧ h / 4 ≠ th d h 2 / 4
def cntO (d:Pl.Dg) (h k:Nat):Nat := ((List.range k).filter (fun i => isO d (th d h i))).length
def cntU (d:Pl.Dg) (h k:Nat):Nat := ((List.range k).filter (fun i => isU d (th d h i))).length
theorem cntO_s (d:Pl.Dg) (h k:Nat):cntO d h (k + 1) = cntO d h k + if isO d (th d h k) then 1 else 0 := by
 unfold cntO; rw [List.range_succ,List.filter_append,List.length_append]; congr 1; cases hh:isO d (th d h k) <;> simp [hh]
theorem cntU_s (d:Pl.Dg) (h k:Nat):cntU d h (k + 1) = cntU d h k + if isU d (th d h k) then 1 else 0 := by
 unfold cntU; rw [List.range_succ,List.filter_append,List.length_append]; congr 1; cases hh:isU d (th d h k) <;> simp [hh]
def isT (d:Pl.Dg) (h:Nat):Prop := is3 d h ∧ cntO d h 3 = 1 ∧ cntU d h 3 = 1
def edg (d:Pl.Dg) (h k:Nat):List Value := (if 0 < k then pz d (th d h 0) else zz) ++ (if 1 < k then pz d (th d h 1) else zz) ++ (if 2 < k then pz d (th d h 2) else zz)
theorem th_lt {d:Pl.Dg} (hd:Pl.Wf d) {h:Nat} (hh:h < 4 * d.n) (k:Nat):th d h k < 4 * d.n := by
 have a:∀ z,z < 4 * d.n → Pl.nx d z < 4 * d.n:=fun z hz => Pl.tn_lt (hd.lt z hz)
 unfold th
 split
 ·exact hh
 ·split
  ·exact a _ hh
  ·exact a _ (a _ hh)
theorem eo_lt {d:Pl.Dg} (hd:Pl.Wf d) {o:Nat} (hh:o < 4 * d.n):eo d o < 4 * d.n := by
 unfold eo; split
 ·exact hh
 ·exact hd.lt o hh
def TriPost (d:Pl.Dg) (h:Nat) (w:World) (e:Ending) (w':World):Prop :=
 (is3 d h → e = .returned (.tuple #[.agg (edg d h 3).toArray,.bool (Pl.vb (isT d h))])) ∧ (¬ is3 d h → e = .returned (.tuple #[.agg (edg d h 0).toArray,.bool false])) ∧ Below w.heap.size w w'
theorem box12 {W:World} {g:Nat} {t:TypeId} {a0 a1 a2 a3 a4 a5 a6 a7 a8 a9 a10 a11:Value} (h:Row W g t [a0,a1,a2,a3,a4,a5,a6,a7,a8,a9,a10,a11]) :
 W.cell? ⟨g,0,none⟩ = some a0 ∧ W.cell? ⟨g,1,none⟩ = some a1 ∧ W.cell? ⟨g,2,none⟩ = some a2 ∧ W.cell? ⟨g,3,none⟩ = some a3 ∧ W.cell? ⟨g,4,none⟩ = some a4 ∧ W.cell? ⟨g,5,none⟩ = some a5 ∧ W.cell? ⟨g,6,none⟩ = some a6 ∧ W.cell? ⟨g,7,none⟩ = some a7 ∧ W.cell? ⟨g,8,none⟩ = some a8 ∧ W.cell? ⟨g,9,none⟩ = some a9 ∧ W.cell? ⟨g,10,none⟩ = some a10 ∧ W.cell? ⟨g,11,none⟩ = some a11 ∧ ∀ o,W.frozen? ⟨g,o,none⟩ = false :=
 ⟨h.cell (i := 0) (by simp),h.cell (i := 1) (by simp),h.cell (i := 2) (by simp),h.cell (i := 3) (by simp),h.cell (i := 4) (by simp),h.cell (i := 5) (by simp),h.cell (i := 6) (by simp),h.cell (i := 7) (by simp),h.cell (i := 8) (by simp),h.cell (i := 9) (by simp),h.cell (i := 10) (by simp),h.cell (i := 11) (by simp),h.free⟩
theorem row12 {W:World} {g:Nat} {t:TypeId} {vs:List Value} (h:Row W g t vs) (l:vs.length = 12) (y0 y1 y2 y3 y4 y5 y6 y7 y8 y9 y10 y11:Value) :
 Row ((((((((((((W.setCell ⟨g,0,none⟩ y0).setCell ⟨g,1,none⟩ y1).setCell ⟨g,2,none⟩ y2).setCell ⟨g,3,none⟩ y3).setCell ⟨g,4,none⟩ y4).setCell ⟨g,5,none⟩ y5).setCell ⟨g,6,none⟩ y6).setCell ⟨g,7,none⟩ y7).setCell ⟨g,8,none⟩ y8).setCell ⟨g,9,none⟩ y9).setCell ⟨g,10,none⟩ y10).setCell ⟨g,11,none⟩ y11) g t [y0,y1,y2,y3,y4,y5,y6,y7,y8,y9,y10,y11] := by
 obtain ⟨a0,a1,a2,a3,a4,a5,a6,a7,a8,a9,a10,a11,rfl⟩:∃ a0 a1 a2 a3 a4 a5 a6 a7 a8 a9 a10 a11,vs = [a0,a1,a2,a3,a4,a5,a6,a7,a8,a9,a10,a11] := by
  match vs,l with
  | [a0,a1,a2,a3,a4,a5,a6,a7,a8,a9,a10,a11],_ => exact ⟨_,_,_,_,_,_,_,_,_,_,_,_,rfl⟩
 exact (((((((((((h.set 0 y0).set 1 y1).set 2 y2).set 3 y3).set 4 y4).set 5 y5).set 6 y6).set 7 y7).set 8 y8).set 9 y9).set 10 y10).set 11 y11
theorem below_set12 {w W:World} {g:Nat} (h:Below w.heap.size w W) (hg:w.heap.size ≤ g) (y0 y1 y2 y3 y4 y5 y6 y7 y8 y9 y10 y11:Value) :
 Below w.heap.size w ((((((((((((W.setCell ⟨g,0,none⟩ y0).setCell ⟨g,1,none⟩ y1).setCell ⟨g,2,none⟩ y2).setCell ⟨g,3,none⟩ y3).setCell ⟨g,4,none⟩ y4).setCell ⟨g,5,none⟩ y5).setCell ⟨g,6,none⟩ y6).setCell ⟨g,7,none⟩ y7).setCell ⟨g,8,none⟩ y8).setCell ⟨g,9,none⟩ y9).setCell ⟨g,10,none⟩ y10).setCell ⟨g,11,none⟩ y11) :=
 (((((((((((h.setCell hg _).setCell hg _).setCell hg _).setCell hg _).setCell hg _).setCell hg _).setCell hg _).setCell hg _).setCell hg _).setCell hg _).setCell hg _).setCell hg _
structure TB (w:World) (dv:List Value) (ev:List Value) (W:World):Prop where
 d:Row W w.heap.size 24 dv
 r:Row W (w.heap.size + 1) 137 (zz ++ zz ++ zz)
 e:Row W (w.heap.size + 1 + 1) 137 ev
 bel:Below w.heap.size w W
section
variable {w W W':World} {dv ev:List Value}
theorem TB.below (h:TB w dv ev W) (hb:Below W.heap.size W W'):TB w dv ev W' := ⟨h.d.below hb,h.r.below hb,h.e.below hb,h.bel.trans (hb.mono h.bel.size)⟩
theorem TB.set (h:TB w dv ev W) (o:Nat) (v:Value):TB w dv (ev.set o v) (W.setCell ⟨w.heap.size + 1 + 1,o,none⟩ v) :=
 ⟨h.d.other (by show _ ≠ w.heap.size + 1 + 1; omega) v,h.r.other (by show _ ≠ w.heap.size + 1 + 1; omega) v,h.e.set o v,h.bel.setCell (by show _ ≤ w.heap.size + 1 + 1; omega) v⟩
theorem TB.start (w:World) (x0 x1 x2:Value):TB w [x0,x1,x2] (zz ++ zz ++ zz) (((w.alloc (.cells #[x0,x1,x2] 24)).alloc (.cells #[.int .i64 0,.int .i64 0,.int .i64 0,.int .i64 0,.int .i64 0,.int .i64 0,.int .i64 0,.int .i64 0,.int .i64 0,.int .i64 0,.int .i64 0,.int .i64 0] 137)).alloc (.cells #[.int .i64 0,.int .i64 0,.int .i64 0,.int .i64 0,.int .i64 0,.int .i64 0,.int .i64 0,.int .i64 0,.int .i64 0,.int .i64 0,.int .i64 0,.int .i64 0] 137)) :=
 ⟨((row_at (vs := [_,_,_]) rfl).alloc _).alloc _,(row_at (vs := [_,_,_,_,_,_,_,_,_,_,_,_]) (by simp)).alloc _,row_at (vs := [_,_,_,_,_,_,_,_,_,_,_,_]) (by simp),(((Below.refl _ _).alloc (Nat.le_refl _) _).alloc (by simp) _).alloc (by simp; omega) _⟩
end
set_option maxRecDepth 100000 in
set_option maxHeartbeats 4000000 in
theorem triangle_any (d:Pl.Dg) (hd:Pl.Wf d) (A B:Option Addr) (cp cq m h:Nat) (w:World) (hm:m = 4 * d.n) (hg:DgAt w A B d) (hh:h < 4 * d.n) :
 Calls Tryz.prog 90 #[.agg #[.slice A d.n cp,.slice B m cq,.int .i64 d.lp],.int .i64 (h:Int)] w (TriPost d h w) := by
 have hn:=hd.few
 have HM:=hide hm
 have HG:=hide hg
 have hm2:m ≤ 256:=by omega
 clear hm hg
 have TB0:=hide (TB.start w (.slice A d.n cp) (.slice B m cq) (.int .i64 (d.lp:Int)))
 have h1:=th_lt hd hh 1
 have h2:=th_lt hd hh 2
 obtain ⟨i,hi⟩:∃ i,i = th d h 1 := ⟨_,rfl⟩
 obtain ⟨j,hj⟩:∃ j,j = th d h 2 := ⟨_,rfl⟩
 rw [← hi] at h1
 rw [← hj] at h2
 have HI:=hide (show Pl.nx d h = i by rw [hi]; rfl)
 have HJ:=hide (show Pl.nx d i = j by rw [hj,hi]; rfl)
 have IS:=hide (show is3 d h ↔ Pl.nx d j = h ∧ h / 4 ≠ i / 4 ∧ i / 4 ≠ j / 4 ∧ h / 4 ≠ j / 4 by unfold is3; rw [← hi,← hj])
 have HTI:=hide hi
 have HTJ:=hide hj
 clear hi hj
 have ih0:(0:Int) ≤ (h:Int) ∧ (h:Int) < (m:Int):=by have := HM.out; omega
 have ii0:(0:Int) ≤ (i:Int) ∧ (i:Int) < (m:Int):=by have := HM.out; omega
 have ij0:(0:Int) ≤ (j:Int) ∧ (j:Int) < (m:Int):=by have := HM.out; omega
 go_enter Tryz.func90,Tryz.ntmps90
 go_wp2_with fail
 have HGM:=hide (show ∀ W,Below w.heap.size w W → IntsAt W B m (nats d.mt) from fun W hb => by rw [HM.out]; exact (HG.out.keep hb).m)
 refine (next_i d hd B cq m (h:Int) _ HM.out ih0 (HGM.out _ TB0.out.bel)).mono ?_
 rintro e w1 ⟨rfl,rfl⟩
 rw [Int.toNat_natCast,HI.out]
 go_wp2_with fail
 refine (next_i d hd B cq m (i:Int) _ HM.out ii0 (HGM.out _ TB0.out.bel)).mono ?_
 rintro e w1 ⟨rfl,rfl⟩
 rw [Int.toNat_natCast,HJ.out]
 obtain ⟨v,hv⟩:∃ v,v = Pl.nx d j := ⟨_,rfl⟩
 rw [← hv] at IS
 have HV:=hide hv
 clear hv
 obtain ⟨W0,hW0⟩:∃ W0:World,W0 = ((w.alloc (.cells #[.slice A d.n cp,.slice B m cq,.int .i64 (d.lp:Int)] 24)).alloc (.cells #[.int .i64 0,.int .i64 0,.int .i64 0,.int .i64 0,.int .i64 0,.int .i64 0,.int .i64 0,.int .i64 0,.int .i64 0,.int .i64 0,.int .i64 0,.int .i64 0] 137)).alloc (.cells #[.int .i64 0,.int .i64 0,.int .i64 0,.int .i64 0,.int .i64 0,.int .i64 0,.int .i64 0,.int .i64 0,.int .i64 0,.int .i64 0,.int .i64 0,.int .i64 0] 137) := ⟨_,rfl⟩
 rw [← hW0] at TB0 ⊢
 clear hW0
 go_upto_region 4 with fail
 go_cut [48] (fun s48 wx => s48 = .bool (!Pl.vb (is3 d h)) ∧ wx = W0)
 case first =>
  obtain ⟨d0,d1,d2,d3⟩:=box3 TB0.out.d
  go_wp2_with fail
  refine (next_i d hd B cq m (j:Int) _ HM.out ij0 (HGM.out _ TB0.out.bel)).mono ?_
  rintro e w1 ⟨rfl,rfl⟩
  rw [Int.toNat_natCast,← HV.out]
  by_cases c1:v = h
  ·have t1:((v:Int) != (h:Int)) = false:=by rw [bne_eq_false_iff_eq]; omega
   by_cases c2:h / 4 = i / 4
   ·have t2:((h:Int) / 4 == (i:Int) / 4) = true:=by rw [beq_iff_eq]; omega
    have E:=hide (Pl.vb_false (fun h => (IS.out.1 h).2.1 c2))
    clear c1 c2
    go_wp2_with fail
    go_meet
    exact ⟨by rw [E.out]; rfl,rfl⟩
   ·have t2:((h:Int) / 4 == (i:Int) / 4) = false:=by rw [beq_eq_false_iff_ne]; omega
    by_cases c3:i / 4 = j / 4
    ·have t3:((i:Int) / 4 == (j:Int) / 4) = true:=by rw [beq_iff_eq]; omega
     have E:=hide (Pl.vb_false (fun h => (IS.out.1 h).2.2.1 c3))
     clear c1 c2 c3
     go_wp2_with fail
     go_meet
     exact ⟨by rw [E.out]; rfl,rfl⟩
    ·have t3:((i:Int) / 4 == (j:Int) / 4) = false:=by rw [beq_eq_false_iff_ne]; omega
     by_cases c4:h / 4 = j / 4
     ·have t4:((h:Int) / 4 == (j:Int) / 4) = true:=by rw [beq_iff_eq]; omega
      have E:=hide (Pl.vb_false (fun h => (IS.out.1 h).2.2.2 c4))
      clear c1 c2 c3 c4
      go_wp2_with fail
      go_meet
      exact ⟨by rw [E.out]; rfl,rfl⟩
     ·have t4:((h:Int) / 4 == (j:Int) / 4) = false:=by rw [beq_eq_false_iff_ne]; omega
      have E:=hide (Pl.vb_true (IS.out.2 ⟨c1,c2,c3,c4⟩))
      clear c1 c2 c3 c4
      go_wp2_with fail
      go_meet
      exact ⟨by rw [E.out]; rfl,rfl⟩
  ·have t1:((v:Int) != (h:Int)) = true:=by rw [bne_iff_ne]; omega
   have E:=hide (Pl.vb_false (fun h => c1 (IS.out.1 h).1))
   clear c1
   go_wp2_with fail
   go_meet
   exact ⟨by rw [E.out]; rfl,rfl⟩
 case rest =>
  obtain ⟨rfl,rfl⟩:=hcut
  by_cases h3:is3 d h
  ·have H3:=hide h3
   rw [Pl.vb_true h3]
   clear h3
   have HTH0:=hide (show h = th d h 0 from rfl)
   obtain ⟨d0,d1,d2,d3⟩:=box3 TB0.out.d
   go_wp2
   go_loopg [9,10,54] 3 (fun g s9 s10 s54 wx => ∃ k:Nat,k + g = 3 ∧ s54 = .int .i64 k ∧ s9 = .int .i64 (cntO d h k:Nat) ∧ s10 = .int .i64 (cntU d h k:Nat) ∧ TB w [.slice A d.n cp,.slice B m cq,.int .i64 (d.lp:Int)] (edg d h k) wx)
   case atStart => exact ⟨0,rfl,rfl,rfl,rfl,TB0.out⟩
   case round =>
    clear TB0 d0 d1 d2 d3
    obtain ⟨k,hkg,rfl,rfl,rfl,htb⟩:=hrel
    have HKG:=hide hkg
    have TBk:=hide htb
    clear htb
    have hk4:k = 0 ∨ k = 1 ∨ k = 2 ∨ k = 3:=by omega
    clear hkg
    have i0:∀ W,(Instr.index 153 (.agg #[.int .i64 (h:Int),.int .i64 (i:Int),.int .i64 (j:Int)]) (.int .i64 0)).run Tryz.prog W = .ok (.int .i64 (h:Int)) W:=fun _ => by kernel_rfl
    have i1:∀ W,(Instr.index 153 (.agg #[.int .i64 (h:Int),.int .i64 (i:Int),.int .i64 (j:Int)]) (.int .i64 1)).run Tryz.prog W = .ok (.int .i64 (i:Int)) W:=fun _ => by kernel_rfl
    have i2:∀ W,(Instr.index 153 (.agg #[.int .i64 (h:Int),.int .i64 (i:Int),.int .i64 (j:Int)]) (.int .i64 2)).run Tryz.prog W = .ok (.int .i64 (j:Int)) W:=fun _ => by kernel_rfl
    rcases hk4 with rfl | rfl | rfl | rfl
    ·-- round 0
     have hO:h < 4 * d.n:=by first | exact hh | exact h1 | exact h2
     have EO:=hide (eo_lt hd hO)
     obtain ⟨d0,d1,d2,d3⟩:=box3 TBk.out.d
     go_wp2_with fail
     refine (out2_n d A B d.n cp m cq (.int .i64 (d.lp:Int)) h _ rfl hO (by omega) (HG.out.keep TBk.out.bel).s).mono ?_
     rintro e w1 ⟨rfl,hb1⟩
     have TB1:=hide (TBk.out.below hb1)
     clear hb1 d0 d1 d2 d3
     go_upto_if 61 with fail
     go_cut [12] (fun s12 wx => s12 = .int .i64 (eo d h:Nat) ∧ TB w [.slice A d.n cp,.slice B m cq,.int .i64 (d.lp:Int)] (edg d h 0) wx)
     case first =>
      cases ho:Pl.out d h with
      | true =>
        have E:=hide (show eo d h = h by unfold eo; rw [if_pos ho])
        clear ho
        go_wp2_with fail
        go_meet
        exact ⟨by rw [E.out],TB1.out⟩
      | false =>
        have E:=hide (show eo d h = d.m h by unfold eo; rw [if_neg (by rw [ho]; decide)])
        clear ho
        obtain ⟨d0,d1,d2,d3⟩:=box3 TB1.out.d
        obtain ⟨mb,mo,rfl,cm⟩:=mate_at (HG.out.keep TB1.out.bel).m hO
        have io0:(0:Int) ≤ (h:Int):=by omega
        have io1:(h:Int) < (m:Int):=by have := HM.out; omega
        go_wp2_with fail
        go_meet
        exact ⟨by rw [E.out],TB1.out⟩
     case rest =>
      obtain ⟨rfl,htb⟩:=hcut
      have TB2:=hide htb
      clear htb TBk TB1
      have heo:=EO.out
      obtain ⟨e,he⟩:∃ e,e = eo d h := ⟨_,rfl⟩
      rw [← he] at heo ⊢
      have hei:=hd.lt e heo
      have HE:=hide he
      clear he
      obtain ⟨d0,d1,d2,d3⟩:=box3 TB2.out.d
      obtain ⟨mb,mo,rfl,cm⟩:=mate_at (HG.out.keep TB2.out.bel).m heo
      obtain ⟨u,hu⟩:∃ u,u = d.m e := ⟨_,rfl⟩
      rw [← hu] at cm hei
      have HU:=hide (show ei d h = u by unfold ei; rw [← HE.out,hu])
      clear hu
      have io0:(0:Int) ≤ (e:Int):=by omega
      have io1:(e:Int) < (m:Int):=by have := HM.out; omega
      go_wp2_with fail
      refine (opp_i (e:Int) _ (by omega)).mono ?_
      rintro en w1 ⟨rfl,rfl⟩
      go_wp2_with fail
      refine (opp_i (u:Int) _ (by omega)).mono ?_
      rintro en w1 ⟨rfl,rfl⟩
      try rw [Int.toNat_natCast]
      have EQ:=hide (show edg d h (0 + 1) = ((((edg d h 0).set (4 * 0) (.int .i64 (Pl.tn e 2:Nat))).set (4 * 0 + 1) (.int .i64 (e:Int))).set (4 * 0 + 2) (.int .i64 (u:Int))).set (4 * 0 + 3) (.int .i64 (Pl.tn u 2:Nat)) by
       have hz:pz d h = [.int .i64 (Pl.tn e 2:Nat),.int .i64 (e:Int),.int .i64 (u:Int),.int .i64 (Pl.tn u 2:Nat)]:=by unfold pz; rw [HU.out,← HE.out]
       simp only [edg,← HTH0.out,← HTI.out,← HTJ.out,hz]
       rfl)
      have CO:=hide (show cntO d h (0 + 1) = cntO d h 0 + if isO d h then 1 else 0 by rw [cntO_s]; simp only [← HTH0.out,← HTI.out,← HTJ.out])
      have CU:=hide (show cntU d h (0 + 1) = cntU d h 0 + if isU d h then 1 else 0 by rw [cntU_s]; simp only [← HTH0.out,← HTI.out,← HTJ.out])
      have IO:=hide (show isO d h = (e % 2 == 1 && u % 2 == 1) by unfold isO; rw [HU.out,← HE.out])
      have IU:=hide (show isU d h = (e % 2 == 0 && u % 2 == 0) by unfold isU; rw [HU.out,← HE.out])
      obtain ⟨kO,hkO⟩:∃ c,c = cntO d h 0 := ⟨_,rfl⟩
      obtain ⟨kU,hkU⟩:∃ c,c = cntU d h 0 := ⟨_,rfl⟩
      rw [← hkO] at CO ⊢
      rw [← hkU] at CU ⊢
      have bO:kO ≤ 3:=by rw [hkO]; unfold cntO; have := List.length_filter_le (fun i => isO d (th d h i)) (List.range 0); simp at this ⊢; try omega
      have bU:kU ≤ 3:=by rw [hkU]; unfold cntU; have := List.length_filter_le (fun i => isU d (th d h i)) (List.range 0); simp at this ⊢; try omega
      clear hkO hkU
      obtain ⟨e0,e1,e2,e3,e4,e5,e6,e7,e8,e9,e10,e11,ef⟩:=box12 TB2.out.e
      by_cases q0:e % 2 = 1 ∧ u % 2 = 1
      ·obtain ⟨qa,qb⟩:=q0
       have t1:((e:Int) % 2 == 1) = true:=by rw [beq_iff_eq]; omega
       have t2:((u:Int) % 2 == 1) = true:=by rw [beq_iff_eq]; omega
       have t3:((e:Int) % 2 == 0) = false:=by rw [beq_eq_false_iff_ne]; omega
       have t4:((u:Int) % 2 == 0) = false:=by rw [beq_eq_false_iff_ne]; omega
       have FO:=hide (show cntO d h (0 + 1) = kO + 1 by rw [CO.out,IO.out,qa,qb]; rfl)
       have FU:=hide (show cntU d h (0 + 1) = kU + 0 by rw [CU.out,IU.out,qa,qb]; rfl)
       clear qa qb
       go_wp2_with fail
       go_roundg (gk - 1)
       case measure => have := HKG.out; omega
       case rel =>
        refine ⟨0 + 1,by have := HKG.out; omega,by go_num,by rw [FO.out]; (try first | rfl | go_num),by rw [FU.out]; (try first | rfl | go_num),?_⟩
        rw [EQ.out]
        exact (((TB2.out.set _ _).set _ _).set _ _).set _ _
      by_cases q1:e % 2 = 1 ∧ u % 2 = 0
      ·obtain ⟨qa,qb⟩:=q1
       have t1:((e:Int) % 2 == 1) = true:=by rw [beq_iff_eq]; omega
       have t2:((u:Int) % 2 == 1) = false:=by rw [beq_eq_false_iff_ne]; omega
       have t3:((e:Int) % 2 == 0) = false:=by rw [beq_eq_false_iff_ne]; omega
       have t4:((u:Int) % 2 == 0) = true:=by rw [beq_iff_eq]; omega
       have FO:=hide (show cntO d h (0 + 1) = kO + 0 by rw [CO.out,IO.out,qa,qb]; rfl)
       have FU:=hide (show cntU d h (0 + 1) = kU + 0 by rw [CU.out,IU.out,qa,qb]; rfl)
       clear qa qb
       go_wp2_with fail
       go_roundg (gk - 1)
       case measure => have := HKG.out; omega
       case rel =>
        refine ⟨0 + 1,by have := HKG.out; omega,by go_num,by rw [FO.out]; (try first | rfl | go_num),by rw [FU.out]; (try first | rfl | go_num),?_⟩
        rw [EQ.out]
        exact (((TB2.out.set _ _).set _ _).set _ _).set _ _
      by_cases q2:e % 2 = 0 ∧ u % 2 = 1
      ·obtain ⟨qa,qb⟩:=q2
       have t1:((e:Int) % 2 == 1) = false:=by rw [beq_eq_false_iff_ne]; omega
       have t2:((u:Int) % 2 == 1) = true:=by rw [beq_iff_eq]; omega
       have t3:((e:Int) % 2 == 0) = true:=by rw [beq_iff_eq]; omega
       have t4:((u:Int) % 2 == 0) = false:=by rw [beq_eq_false_iff_ne]; omega
       have FO:=hide (show cntO d h (0 + 1) = kO + 0 by rw [CO.out,IO.out,qa,qb]; rfl)
       have FU:=hide (show cntU d h (0 + 1) = kU + 0 by rw [CU.out,IU.out,qa,qb]; rfl)
       clear qa qb
       go_wp2_with fail
       go_roundg (gk - 1)
       case measure => have := HKG.out; omega
       case rel =>
        refine ⟨0 + 1,by have := HKG.out; omega,by go_num,by rw [FO.out]; (try first | rfl | go_num),by rw [FU.out]; (try first | rfl | go_num),?_⟩
        rw [EQ.out]
        exact (((TB2.out.set _ _).set _ _).set _ _).set _ _
      by_cases q3:e % 2 = 0 ∧ u % 2 = 0
      ·obtain ⟨qa,qb⟩:=q3
       have t1:((e:Int) % 2 == 1) = false:=by rw [beq_eq_false_iff_ne]; omega
       have t2:((u:Int) % 2 == 1) = false:=by rw [beq_eq_false_iff_ne]; omega
       have t3:((e:Int) % 2 == 0) = true:=by rw [beq_iff_eq]; omega
       have t4:((u:Int) % 2 == 0) = true:=by rw [beq_iff_eq]; omega
       have FO:=hide (show cntO d h (0 + 1) = kO + 0 by rw [CO.out,IO.out,qa,qb]; rfl)
       have FU:=hide (show cntU d h (0 + 1) = kU + 1 by rw [CU.out,IU.out,qa,qb]; rfl)
       clear qa qb
       go_wp2_with fail
       go_roundg (gk - 1)
       case measure => have := HKG.out; omega
       case rel =>
        refine ⟨0 + 1,by have := HKG.out; omega,by go_num,by rw [FO.out]; (try first | rfl | go_num),by rw [FU.out]; (try first | rfl | go_num),?_⟩
        rw [EQ.out]
        exact (((TB2.out.set _ _).set _ _).set _ _).set _ _
      exfalso; omega
    ·-- round 1
     have hO:i < 4 * d.n:=by first | exact hh | exact h1 | exact h2
     have EO:=hide (eo_lt hd hO)
     obtain ⟨d0,d1,d2,d3⟩:=box3 TBk.out.d
     go_wp2_with fail
     refine (out2_n d A B d.n cp m cq (.int .i64 (d.lp:Int)) i _ rfl hO (by omega) (HG.out.keep TBk.out.bel).s).mono ?_
     rintro e w1 ⟨rfl,hb1⟩
     have TB1:=hide (TBk.out.below hb1)
     clear hb1 d0 d1 d2 d3
     go_upto_if 61 with fail
     go_cut [12] (fun s12 wx => s12 = .int .i64 (eo d i:Nat) ∧ TB w [.slice A d.n cp,.slice B m cq,.int .i64 (d.lp:Int)] (edg d h 1) wx)
     case first =>
      cases ho:Pl.out d i with
      | true =>
        have E:=hide (show eo d i = i by unfold eo; rw [if_pos ho])
        clear ho
        go_wp2_with fail
        go_meet
        exact ⟨by rw [E.out],TB1.out⟩
      | false =>
        have E:=hide (show eo d i = d.m i by unfold eo; rw [if_neg (by rw [ho]; decide)])
        clear ho
        obtain ⟨d0,d1,d2,d3⟩:=box3 TB1.out.d
        obtain ⟨mb,mo,rfl,cm⟩:=mate_at (HG.out.keep TB1.out.bel).m hO
        have io0:(0:Int) ≤ (i:Int):=by omega
        have io1:(i:Int) < (m:Int):=by have := HM.out; omega
        go_wp2_with fail
        go_meet
        exact ⟨by rw [E.out],TB1.out⟩
     case rest =>
      obtain ⟨rfl,htb⟩:=hcut
      have TB2:=hide htb
      clear htb TBk TB1
      have heo:=EO.out
      obtain ⟨e,he⟩:∃ e,e = eo d i := ⟨_,rfl⟩
      rw [← he] at heo ⊢
      have hei:=hd.lt e heo
      have HE:=hide he
      clear he
      obtain ⟨d0,d1,d2,d3⟩:=box3 TB2.out.d
      obtain ⟨mb,mo,rfl,cm⟩:=mate_at (HG.out.keep TB2.out.bel).m heo
      obtain ⟨u,hu⟩:∃ u,u = d.m e := ⟨_,rfl⟩
      rw [← hu] at cm hei
      have HU:=hide (show ei d i = u by unfold ei; rw [← HE.out,hu])
      clear hu
      have io0:(0:Int) ≤ (e:Int):=by omega
      have io1:(e:Int) < (m:Int):=by have := HM.out; omega
      go_wp2_with fail
      refine (opp_i (e:Int) _ (by omega)).mono ?_
      rintro en w1 ⟨rfl,rfl⟩
      go_wp2_with fail
      refine (opp_i (u:Int) _ (by omega)).mono ?_
      rintro en w1 ⟨rfl,rfl⟩
      try rw [Int.toNat_natCast]
      have EQ:=hide (show edg d h (1 + 1) = ((((edg d h 1).set (4 * 1) (.int .i64 (Pl.tn e 2:Nat))).set (4 * 1 + 1) (.int .i64 (e:Int))).set (4 * 1 + 2) (.int .i64 (u:Int))).set (4 * 1 + 3) (.int .i64 (Pl.tn u 2:Nat)) by
       have hz:pz d i = [.int .i64 (Pl.tn e 2:Nat),.int .i64 (e:Int),.int .i64 (u:Int),.int .i64 (Pl.tn u 2:Nat)]:=by unfold pz; rw [HU.out,← HE.out]
       simp only [edg,← HTH0.out,← HTI.out,← HTJ.out,hz]
       rfl)
      have CO:=hide (show cntO d h (1 + 1) = cntO d h 1 + if isO d i then 1 else 0 by rw [cntO_s]; simp only [← HTH0.out,← HTI.out,← HTJ.out])
      have CU:=hide (show cntU d h (1 + 1) = cntU d h 1 + if isU d i then 1 else 0 by rw [cntU_s]; simp only [← HTH0.out,← HTI.out,← HTJ.out])
      have IO:=hide (show isO d i = (e % 2 == 1 && u % 2 == 1) by unfold isO; rw [HU.out,← HE.out])
      have IU:=hide (show isU d i = (e % 2 == 0 && u % 2 == 0) by unfold isU; rw [HU.out,← HE.out])
      obtain ⟨kO,hkO⟩:∃ c,c = cntO d h 1 := ⟨_,rfl⟩
      obtain ⟨kU,hkU⟩:∃ c,c = cntU d h 1 := ⟨_,rfl⟩
      rw [← hkO] at CO ⊢
      rw [← hkU] at CU ⊢
      have bO:kO ≤ 3:=by rw [hkO]; unfold cntO; have := List.length_filter_le (fun i => isO d (th d h i)) (List.range 1); simp at this ⊢; try omega
      have bU:kU ≤ 3:=by rw [hkU]; unfold cntU; have := List.length_filter_le (fun i => isU d (th d h i)) (List.range 1); simp at this ⊢; try omega
      clear hkO hkU
      obtain ⟨e0,e1,e2,e3,e4,e5,e6,e7,e8,e9,e10,e11,ef⟩:=box12 TB2.out.e
      by_cases q0:e % 2 = 1 ∧ u % 2 = 1
      ·obtain ⟨qa,qb⟩:=q0
       have t1:((e:Int) % 2 == 1) = true:=by rw [beq_iff_eq]; omega
       have t2:((u:Int) % 2 == 1) = true:=by rw [beq_iff_eq]; omega
       have t3:((e:Int) % 2 == 0) = false:=by rw [beq_eq_false_iff_ne]; omega
       have t4:((u:Int) % 2 == 0) = false:=by rw [beq_eq_false_iff_ne]; omega
       have FO:=hide (show cntO d h (1 + 1) = kO + 1 by rw [CO.out,IO.out,qa,qb]; rfl)
       have FU:=hide (show cntU d h (1 + 1) = kU + 0 by rw [CU.out,IU.out,qa,qb]; rfl)
       clear qa qb
       go_wp2_with fail
       go_roundg (gk - 1)
       case measure => have := HKG.out; omega
       case rel =>
        refine ⟨1 + 1,by have := HKG.out; omega,by go_num,by rw [FO.out]; (try first | rfl | go_num),by rw [FU.out]; (try first | rfl | go_num),?_⟩
        rw [EQ.out]
        exact (((TB2.out.set _ _).set _ _).set _ _).set _ _
      by_cases q1:e % 2 = 1 ∧ u % 2 = 0
      ·obtain ⟨qa,qb⟩:=q1
       have t1:((e:Int) % 2 == 1) = true:=by rw [beq_iff_eq]; omega
       have t2:((u:Int) % 2 == 1) = false:=by rw [beq_eq_false_iff_ne]; omega
       have t3:((e:Int) % 2 == 0) = false:=by rw [beq_eq_false_iff_ne]; omega
       have t4:((u:Int) % 2 == 0) = true:=by rw [beq_iff_eq]; omega
       have FO:=hide (show cntO d h (1 + 1) = kO + 0 by rw [CO.out,IO.out,qa,qb]; rfl)
       have FU:=hide (show cntU d h (1 + 1) = kU + 0 by rw [CU.out,IU.out,qa,qb]; rfl)
       clear qa qb
       go_wp2_with fail
       go_roundg (gk - 1)
       case measure => have := HKG.out; omega
       case rel =>
        refine ⟨1 + 1,by have := HKG.out; omega,by go_num,by rw [FO.out]; (try first | rfl | go_num),by rw [FU.out]; (try first | rfl | go_num),?_⟩
        rw [EQ.out]
        exact (((TB2.out.set _ _).set _ _).set _ _).set _ _
      by_cases q2:e % 2 = 0 ∧ u % 2 = 1
      ·obtain ⟨qa,qb⟩:=q2
       have t1:((e:Int) % 2 == 1) = false:=by rw [beq_eq_false_iff_ne]; omega
       have t2:((u:Int) % 2 == 1) = true:=by rw [beq_iff_eq]; omega
       have t3:((e:Int) % 2 == 0) = true:=by rw [beq_iff_eq]; omega
       have t4:((u:Int) % 2 == 0) = false:=by rw [beq_eq_false_iff_ne]; omega
       have FO:=hide (show cntO d h (1 + 1) = kO + 0 by rw [CO.out,IO.out,qa,qb]; rfl)
       have FU:=hide (show cntU d h (1 + 1) = kU + 0 by rw [CU.out,IU.out,qa,qb]; rfl)
       clear qa qb
       go_wp2_with fail
       go_roundg (gk - 1)
       case measure => have := HKG.out; omega
       case rel =>
        refine ⟨1 + 1,by have := HKG.out; omega,by go_num,by rw [FO.out]; (try first | rfl | go_num),by rw [FU.out]; (try first | rfl | go_num),?_⟩
        rw [EQ.out]
        exact (((TB2.out.set _ _).set _ _).set _ _).set _ _
      by_cases q3:e % 2 = 0 ∧ u % 2 = 0
      ·obtain ⟨qa,qb⟩:=q3
       have t1:((e:Int) % 2 == 1) = false:=by rw [beq_eq_false_iff_ne]; omega
       have t2:((u:Int) % 2 == 1) = false:=by rw [beq_eq_false_iff_ne]; omega
       have t3:((e:Int) % 2 == 0) = true:=by rw [beq_iff_eq]; omega
       have t4:((u:Int) % 2 == 0) = true:=by rw [beq_iff_eq]; omega
       have FO:=hide (show cntO d h (1 + 1) = kO + 0 by rw [CO.out,IO.out,qa,qb]; rfl)
       have FU:=hide (show cntU d h (1 + 1) = kU + 1 by rw [CU.out,IU.out,qa,qb]; rfl)
       clear qa qb
       go_wp2_with fail
       go_roundg (gk - 1)
       case measure => have := HKG.out; omega
       case rel =>
        refine ⟨1 + 1,by have := HKG.out; omega,by go_num,by rw [FO.out]; (try first | rfl | go_num),by rw [FU.out]; (try first | rfl | go_num),?_⟩
        rw [EQ.out]
        exact (((TB2.out.set _ _).set _ _).set _ _).set _ _
      exfalso; omega
    ·-- round 2
     have hO:j < 4 * d.n:=by first | exact hh | exact h1 | exact h2
     have EO:=hide (eo_lt hd hO)
     obtain ⟨d0,d1,d2,d3⟩:=box3 TBk.out.d
     go_wp2_with fail
     refine (out2_n d A B d.n cp m cq (.int .i64 (d.lp:Int)) j _ rfl hO (by omega) (HG.out.keep TBk.out.bel).s).mono ?_
     rintro e w1 ⟨rfl,hb1⟩
     have TB1:=hide (TBk.out.below hb1)
     clear hb1 d0 d1 d2 d3
     go_upto_if 61 with fail
     go_cut [12] (fun s12 wx => s12 = .int .i64 (eo d j:Nat) ∧ TB w [.slice A d.n cp,.slice B m cq,.int .i64 (d.lp:Int)] (edg d h 2) wx)
     case first =>
      cases ho:Pl.out d j with
      | true =>
        have E:=hide (show eo d j = j by unfold eo; rw [if_pos ho])
        clear ho
        go_wp2_with fail
        go_meet
        exact ⟨by rw [E.out],TB1.out⟩
      | false =>
        have E:=hide (show eo d j = d.m j by unfold eo; rw [if_neg (by rw [ho]; decide)])
        clear ho
        obtain ⟨d0,d1,d2,d3⟩:=box3 TB1.out.d
        obtain ⟨mb,mo,rfl,cm⟩:=mate_at (HG.out.keep TB1.out.bel).m hO
        have io0:(0:Int) ≤ (j:Int):=by omega
        have io1:(j:Int) < (m:Int):=by have := HM.out; omega
        go_wp2_with fail
        go_meet
        exact ⟨by rw [E.out],TB1.out⟩
     case rest =>
      obtain ⟨rfl,htb⟩:=hcut
      have TB2:=hide htb
      clear htb TBk TB1
      have heo:=EO.out
      obtain ⟨e,he⟩:∃ e,e = eo d j := ⟨_,rfl⟩
      rw [← he] at heo ⊢
      have hei:=hd.lt e heo
      have HE:=hide he
      clear he
      obtain ⟨d0,d1,d2,d3⟩:=box3 TB2.out.d
      obtain ⟨mb,mo,rfl,cm⟩:=mate_at (HG.out.keep TB2.out.bel).m heo
      obtain ⟨u,hu⟩:∃ u,u = d.m e := ⟨_,rfl⟩
      rw [← hu] at cm hei
      have HU:=hide (show ei d j = u by unfold ei; rw [← HE.out,hu])
      clear hu
      have io0:(0:Int) ≤ (e:Int):=by omega
      have io1:(e:Int) < (m:Int):=by have := HM.out; omega
      go_wp2_with fail
      refine (opp_i (e:Int) _ (by omega)).mono ?_
      rintro en w1 ⟨rfl,rfl⟩
      go_wp2_with fail
      refine (opp_i (u:Int) _ (by omega)).mono ?_
      rintro en w1 ⟨rfl,rfl⟩
      try rw [Int.toNat_natCast]
      have EQ:=hide (show edg d h (2 + 1) = ((((edg d h 2).set (4 * 2) (.int .i64 (Pl.tn e 2:Nat))).set (4 * 2 + 1) (.int .i64 (e:Int))).set (4 * 2 + 2) (.int .i64 (u:Int))).set (4 * 2 + 3) (.int .i64 (Pl.tn u 2:Nat)) by
       have hz:pz d j = [.int .i64 (Pl.tn e 2:Nat),.int .i64 (e:Int),.int .i64 (u:Int),.int .i64 (Pl.tn u 2:Nat)]:=by unfold pz; rw [HU.out,← HE.out]
       simp only [edg,← HTH0.out,← HTI.out,← HTJ.out,hz]
       rfl)
      have CO:=hide (show cntO d h (2 + 1) = cntO d h 2 + if isO d j then 1 else 0 by rw [cntO_s]; simp only [← HTH0.out,← HTI.out,← HTJ.out])
      have CU:=hide (show cntU d h (2 + 1) = cntU d h 2 + if isU d j then 1 else 0 by rw [cntU_s]; simp only [← HTH0.out,← HTI.out,← HTJ.out])
      have IO:=hide (show isO d j = (e % 2 == 1 && u % 2 == 1) by unfold isO; rw [HU.out,← HE.out])
      have IU:=hide (show isU d j = (e % 2 == 0 && u % 2 == 0) by unfold isU; rw [HU.out,← HE.out])
      obtain ⟨kO,hkO⟩:∃ c,c = cntO d h 2 := ⟨_,rfl⟩
      obtain ⟨kU,hkU⟩:∃ c,c = cntU d h 2 := ⟨_,rfl⟩
      rw [← hkO] at CO ⊢
      rw [← hkU] at CU ⊢
      have bO:kO ≤ 3:=by rw [hkO]; unfold cntO; have := List.length_filter_le (fun i => isO d (th d h i)) (List.range 2); simp at this ⊢; try omega
      have bU:kU ≤ 3:=by rw [hkU]; unfold cntU; have := List.length_filter_le (fun i => isU d (th d h i)) (List.range 2); simp at this ⊢; try omega
      clear hkO hkU
      obtain ⟨e0,e1,e2,e3,e4,e5,e6,e7,e8,e9,e10,e11,ef⟩:=box12 TB2.out.e
      by_cases q0:e % 2 = 1 ∧ u % 2 = 1
      ·obtain ⟨qa,qb⟩:=q0
       have t1:((e:Int) % 2 == 1) = true:=by rw [beq_iff_eq]; omega
       have t2:((u:Int) % 2 == 1) = true:=by rw [beq_iff_eq]; omega
       have t3:((e:Int) % 2 == 0) = false:=by rw [beq_eq_false_iff_ne]; omega
       have t4:((u:Int) % 2 == 0) = false:=by rw [beq_eq_false_iff_ne]; omega
       have FO:=hide (show cntO d h (2 + 1) = kO + 1 by rw [CO.out,IO.out,qa,qb]; rfl)
       have FU:=hide (show cntU d h (2 + 1) = kU + 0 by rw [CU.out,IU.out,qa,qb]; rfl)
       clear qa qb
       go_wp2_with fail
       go_roundg (gk - 1)
       case measure => have := HKG.out; omega
       case rel =>
        refine ⟨2 + 1,by have := HKG.out; omega,by go_num,by rw [FO.out]; (try first | rfl | go_num),by rw [FU.out]; (try first | rfl | go_num),?_⟩
        rw [EQ.out]
        exact (((TB2.out.set _ _).set _ _).set _ _).set _ _
      by_cases q1:e % 2 = 1 ∧ u % 2 = 0
      ·obtain ⟨qa,qb⟩:=q1
       have t1:((e:Int) % 2 == 1) = true:=by rw [beq_iff_eq]; omega
       have t2:((u:Int) % 2 == 1) = false:=by rw [beq_eq_false_iff_ne]; omega
       have t3:((e:Int) % 2 == 0) = false:=by rw [beq_eq_false_iff_ne]; omega
       have t4:((u:Int) % 2 == 0) = true:=by rw [beq_iff_eq]; omega
       have FO:=hide (show cntO d h (2 + 1) = kO + 0 by rw [CO.out,IO.out,qa,qb]; rfl)
       have FU:=hide (show cntU d h (2 + 1) = kU + 0 by rw [CU.out,IU.out,qa,qb]; rfl)
       clear qa qb
       go_wp2_with fail
       go_roundg (gk - 1)
       case measure => have := HKG.out; omega
       case rel =>
        refine ⟨2 + 1,by have := HKG.out; omega,by go_num,by rw [FO.out]; (try first | rfl | go_num),by rw [FU.out]; (try first | rfl | go_num),?_⟩
        rw [EQ.out]
        exact (((TB2.out.set _ _).set _ _).set _ _).set _ _
      by_cases q2:e % 2 = 0 ∧ u % 2 = 1
      ·obtain ⟨qa,qb⟩:=q2
       have t1:((e:Int) % 2 == 1) = false:=by rw [beq_eq_false_iff_ne]; omega
       have t2:((u:Int) % 2 == 1) = true:=by rw [beq_iff_eq]; omega
       have t3:((e:Int) % 2 == 0) = true:=by rw [beq_iff_eq]; omega
       have t4:((u:Int) % 2 == 0) = false:=by rw [beq_eq_false_iff_ne]; omega
       have FO:=hide (show cntO d h (2 + 1) = kO + 0 by rw [CO.out,IO.out,qa,qb]; rfl)
       have FU:=hide (show cntU d h (2 + 1) = kU + 0 by rw [CU.out,IU.out,qa,qb]; rfl)
       clear qa qb
       go_wp2_with fail
       go_roundg (gk - 1)
       case measure => have := HKG.out; omega
       case rel =>
        refine ⟨2 + 1,by have := HKG.out; omega,by go_num,by rw [FO.out]; (try first | rfl | go_num),by rw [FU.out]; (try first | rfl | go_num),?_⟩
        rw [EQ.out]
        exact (((TB2.out.set _ _).set _ _).set _ _).set _ _
      by_cases q3:e % 2 = 0 ∧ u % 2 = 0
      ·obtain ⟨qa,qb⟩:=q3
       have t1:((e:Int) % 2 == 1) = false:=by rw [beq_eq_false_iff_ne]; omega
       have t2:((u:Int) % 2 == 1) = false:=by rw [beq_eq_false_iff_ne]; omega
       have t3:((e:Int) % 2 == 0) = true:=by rw [beq_iff_eq]; omega
       have t4:((u:Int) % 2 == 0) = true:=by rw [beq_iff_eq]; omega
       have FO:=hide (show cntO d h (2 + 1) = kO + 0 by rw [CO.out,IO.out,qa,qb]; rfl)
       have FU:=hide (show cntU d h (2 + 1) = kU + 1 by rw [CU.out,IU.out,qa,qb]; rfl)
       clear qa qb
       go_wp2_with fail
       go_roundg (gk - 1)
       case measure => have := HKG.out; omega
       case rel =>
        refine ⟨2 + 1,by have := HKG.out; omega,by go_num,by rw [FO.out]; (try first | rfl | go_num),by rw [FU.out]; (try first | rfl | go_num),?_⟩
        rw [EQ.out]
        exact (((TB2.out.set _ _).set _ _).set _ _).set _ _
      exfalso; omega
    ·-- the end
     have E3:=hide (show Pl.vb (isT d h) = (decide (cntO d h 3 = 1) && decide (cntU d h 3 = 1)) by
      rw [Bool.eq_iff_iff,Pl.vb_iff]; unfold isT; simp [H3.out])
     obtain ⟨kO,hkO⟩:∃ c,c = cntO d h 3 := ⟨_,rfl⟩
     obtain ⟨kU,hkU⟩:∃ c,c = cntU d h 3 := ⟨_,rfl⟩
     rw [← hkO] at E3 ⊢
     rw [← hkU] at E3 ⊢
     clear hkO hkU
     have HTR:=hide (show ∃ a0 a1 a2 a3 a4 a5 a6 a7 a8 a9 a10 a11:Nat,edg d h 3 = [.int .i64 (a0:Int),.int .i64 (a1:Int),.int .i64 (a2:Int),.int .i64 (a3:Int),.int .i64 (a4:Int),.int .i64 (a5:Int),.int .i64 (a6:Int),.int .i64 (a7:Int),.int .i64 (a8:Int),.int .i64 (a9:Int),.int .i64 (a10:Int),.int .i64 (a11:Int)] from ⟨_,_,_,_,_,_,_,_,_,_,_,_,rfl⟩)
     obtain ⟨a0,a1,a2,a3,a4,a5,a6,a7,a8,a9,a10,a11,hedg⟩:=HTR.out
     rw [hedg] at TBk
     have HEDG:=hide hedg
     clear hedg
     obtain ⟨r0,r1,r2,r3,r4,r5,r6,r7,r8,r9,r10,r11,rf⟩:=box12 TBk.out.r
     obtain ⟨e0,e1,e2,e3,e4,e5,e6,e7,e8,e9,e10,e11,ef⟩:=box12 TBk.out.e
     obtain ⟨bb,hbb⟩:∃ bb,bb = Pl.vb (isT d h) := ⟨_,rfl⟩
     rw [← hbb] at E3
     have HBB:=hide hbb
     clear hbb
     go_upto_region 19 with fail
     go_cut [5] (fun s5 wx => s5 = .bool bb ∧ ∃ W,TB w [.slice A d.n cp,.slice B m cq,.int .i64 (d.lp:Int)] [.int .i64 (a0:Int),.int .i64 (a1:Int),.int .i64 (a2:Int),.int .i64 (a3:Int),.int .i64 (a4:Int),.int .i64 (a5:Int),.int .i64 (a6:Int),.int .i64 (a7:Int),.int .i64 (a8:Int),.int .i64 (a9:Int),.int .i64 (a10:Int),.int .i64 (a11:Int)] W ∧ wx = (((((((((((((W.setCell ⟨w.heap.size + 1,0,none⟩ (.int .i64 (a0:Int))).setCell ⟨w.heap.size + 1,1,none⟩ (.int .i64 (a1:Int))).setCell ⟨w.heap.size + 1,2,none⟩ (.int .i64 (a2:Int))).setCell ⟨w.heap.size + 1,3,none⟩ (.int .i64 (a3:Int))).setCell ⟨w.heap.size + 1,4,none⟩ (.int .i64 (a4:Int))).setCell ⟨w.heap.size + 1,5,none⟩ (.int .i64 (a5:Int))).setCell ⟨w.heap.size + 1,6,none⟩ (.int .i64 (a6:Int))).setCell ⟨w.heap.size + 1,7,none⟩ (.int .i64 (a7:Int))).setCell ⟨w.heap.size + 1,8,none⟩ (.int .i64 (a8:Int))).setCell ⟨w.heap.size + 1,9,none⟩ (.int .i64 (a9:Int))).setCell ⟨w.heap.size + 1,10,none⟩ (.int .i64 (a10:Int))).setCell ⟨w.heap.size + 1,11,none⟩ (.int .i64 (a11:Int)))))
     case first =>
      by_cases c1:kO = 1
      ·have t1:((kO:Int) == 1) = true:=by rw [beq_iff_eq]; omega
       by_cases c2:kU = 1
       ·have t2:((kU:Int) == 1) = true:=by rw [beq_iff_eq]; omega
        have F:=hide (show bb = true by rw [E3.out]; simp [c1,c2])
        clear c1 c2
        go_wp2_with fail
        go_meet
        exact ⟨by rw [F.out],_,TBk.out,rfl⟩
       ·have t2:((kU:Int) == 1) = false:=by rw [beq_eq_false_iff_ne]; omega
        have F:=hide (show bb = false by rw [E3.out]; simp [c1,c2])
        clear c1 c2
        go_wp2_with fail
        go_meet
        exact ⟨by rw [F.out],_,TBk.out,rfl⟩
      ·have t1:((kO:Int) == 1) = false:=by rw [beq_eq_false_iff_ne]; omega
       have F:=hide (show bb = false by rw [E3.out]; simp [c1])
       clear c1
       go_wp2_with fail
       go_meet
       exact ⟨by rw [F.out],_,TBk.out,rfl⟩
     case rest =>
      obtain ⟨rfl,W,hT,rfl⟩:=hcut
      clear e0 e1 e2 e3 e4 e5 e6 e7 e8 e9 e10 e11 r0 r1 r2 r3 r4 r5 r6 r7 r8 r9 r10 r11
      go_wp2
      refine bodyPost_ret (v := .tuple #[.agg #[.int .i64 (a0:Int),.int .i64 (a1:Int),.int .i64 (a2:Int),.int .i64 (a3:Int),.int .i64 (a4:Int),.int .i64 (a5:Int),.int .i64 (a6:Int),.int .i64 (a7:Int),.int .i64 (a8:Int),.int .i64 (a9:Int),.int .i64 (a10:Int),.int .i64 (a11:Int)],.bool bb]) ?_ rfl ?_
      ·obtain ⟨r0,r1,r2,r3,r4,r5,r6,r7,r8,r9,r10,r11,rf⟩:=box12 (row12 hT.r rfl (.int .i64 (a0:Int)) (.int .i64 (a1:Int)) (.int .i64 (a2:Int)) (.int .i64 (a3:Int)) (.int .i64 (a4:Int)) (.int .i64 (a5:Int)) (.int .i64 (a6:Int)) (.int .i64 (a7:Int)) (.int .i64 (a8:Int)) (.int .i64 (a9:Int)) (.int .i64 (a10:Int)) (.int .i64 (a11:Int)))
       simp [results,Tryz.results90,go_sem,r0,r1,r2,r3,r4,r5,r6,r7,r8,r9,r10,r11]
      ·exact ⟨fun _ => by rw [HEDG.out,← HBB.out],fun h => absurd H3.out h,below_set12 hT.bel (by omega) _ _ _ _ _ _ _ _ _ _ _ _⟩
  ·have H3:=hide h3
   rw [Pl.vb_false h3]
   clear h3
   obtain ⟨r0,r1,r2,r3,r4,r5,r6,r7,r8,r9,r10,r11,rf⟩:=box12 TB0.out.r
   obtain ⟨e0,e1,e2,e3,e4,e5,e6,e7,e8,e9,e10,e11,ef⟩:=box12 TB0.out.e
   go_wp2
   refine bodyPost_ret (v := .tuple #[.agg (edg d h 0).toArray,.bool false]) ?_ rfl ?_
   ·obtain ⟨r0,r1,r2,r3,r4,r5,r6,r7,r8,r9,r10,r11,rf⟩:=box12 (row12 TB0.out.r rfl (.int .i64 0) (.int .i64 0) (.int .i64 0) (.int .i64 0) (.int .i64 0) (.int .i64 0) (.int .i64 0) (.int .i64 0) (.int .i64 0) (.int .i64 0) (.int .i64 0) (.int .i64 0))
    clear e0 e1 e2 e3 e4 e5 e6 e7 e8 e9 e10 e11
    show _ = Result.ok (Value.tuple #[Value.agg #[.int .i64 0,.int .i64 0,.int .i64 0,.int .i64 0,.int .i64 0,.int .i64 0,.int .i64 0,.int .i64 0,.int .i64 0,.int .i64 0,.int .i64 0,.int .i64 0],.bool false]) _
    simp [results,Tryz.results90,go_sem,r0,r1,r2,r3,r4,r5,r6,r7,r8,r9,r10,r11]
   ·exact ⟨fun h => absurd h H3.out,fun _ => rfl,below_set12 TB0.out.bel (by omega) _ _ _ _ _ _ _ _ _ _ _ _⟩
end Go.Proofs.YtghdiolnonejaaaGreatDoor
end
section
namespace Go.Proofs.YtghdiolnonejaaaGreatDoor.Pl
section
variable {S:Nat → Prop} {r a t:Nat → Nat} {h0 h1 h2 p0 p1 p2 u0 u1 u2 v0 v1 v2:Nat}
theorem perm_flip:[u0,u1,u2,v0,v1,v2,h0,h1,h2,p0,p1,p2].Perm [h0,h1,h2,p0,p1,p2,u0,u1,u2,v0,v1,v2] :=
 List.perm_append_comm (l₁ := [u0,u1,u2,v0,v1,v2]) (l₂ := [h0,h1,h2,p0,p1,p2])
theorem Tri.flip (T:Tri S r a t h0 h1 h2 p0 p1 p2 u0 u1 u2 v0 v1 v2):Tri S r (cj t a) t u0 u1 u2 v0 v1 v2 h0 h1 h2 p0 p1 p2 := by
 refine ⟨fun x hx => T.mem x (perm_flip.mem_iff.1 hx),T.rp0,T.rp1,T.rp2,T.rh0,T.rh1,T.rh2,T.rv0,T.rv1,T.rv2,T.ru0,T.ru1,T.ru2,?_,?_,?_,?_,?_,?_,?_,T.th0,T.th1,T.th2,T.tv1,T.tv2,T.tv0,T.tp0,T.tp1,T.tp2,T.tu2,T.tu0,T.tu1,fun x hx => T.tx x (fun h => hx (perm_flip.mem_iff.2 h))⟩
 ·unfold cj; rw [T.tu0,T.ap1,T.th0]
 ·unfold cj; rw [T.tu1,T.ap2,T.th1]
 ·unfold cj; rw [T.tu2,T.ap0,T.th2]
 ·unfold cj; rw [T.tv1,T.ah0,T.tp1]
 ·unfold cj; rw [T.tv2,T.ah1,T.tp2]
 ·unfold cj; rw [T.tv0,T.ah2,T.tp0]
 ·exact perm_flip.nodup_iff.2 T.nd
end
structure Sj (N:Nat) (m f:Nat → Nat) (Ou In:Nat → Prop):Prop where
 lt:∀ x,x < N → m x < N
 inv:∀ x,x < N → m (m x) = x
 fl:∀ x,x < N → f x < N
 ff:∀ x,f (f x) = x
 fO:∀ x,Ou x → In (f x)
 fx:∀ x,¬ Ou x → ¬ In x → f x = x
 fI:∀ x,In x → Ou (f x)
 mI:∀ x,In x → In (m x)
 no:∀ x,Ou x → ¬ In x
variable {N:Nat} {m f:Nat → Nat} {Ou In:Nat → Prop}
theorem Sj.far (h:Sj N m f Ou In) {u:Nat} (hu:u < N) (ho:Ou u) (hm:¬ Ou (m u)):f (m u) = m u :=
 h.fx _ hm (fun hi => h.no u ho (by have := h.mI _ hi; rwa [h.inv u hu] at this))
theorem Sj.step (h:Sj N m f Ou In) {l:List Nat} {k:Nat} (hl:Half N m (cj f m) (fun x => ∃ u,u < k ∧ Ou u ∧ (x = f u ∨ x = f (m u))) l) (hk:k < N) (ho:Ou k) :
 Half N m (cj f m) (fun x => ∃ u,u < k + 1 ∧ Ou u ∧ (x = f u ∨ x = f (m u))) ((l.set (f k) (f (m k))).set (f (m k)) (f k)) := by
 refine (hl.join (h.fl _ hk) (h.fl _ (h.lt _ hk)) (by unfold cj; rw [h.ff]) (by unfold cj; rw [h.ff,h.inv k hk])).mono ?_
 rintro x ⟨u,hu,hou,hx⟩
 by_cases e:u = k
 ·subst e
  exact hx.elim (fun h => .inr (.inl h)) (fun h => .inr (.inr h))
 ·exact .inl ⟨u,by omega,hou,hx⟩
theorem Sj.skip {l:List Nat} {k:Nat} (hl:Half N m (cj f m) (fun x => ∃ u,u < k ∧ Ou u ∧ (x = f u ∨ x = f (m u))) l) (ho:¬ Ou k) :
 Half N m (cj f m) (fun x => ∃ u,u < k + 1 ∧ Ou u ∧ (x = f u ∨ x = f (m u))) l := by
 refine hl.mono ?_
 rintro x ⟨u,hu,hou,hx⟩
 by_cases e:u = k
 ·subst e; exact absurd hou ho
 ·exact ⟨u,by omega,hou,hx⟩
theorem Sj.all (h:Sj N m f Ou In) {l:List Nat} {W:Nat → Prop} (hl:Half N m (cj f m) W l) (hw:∀ u,u < N → Ou u → W (f u) ∧ W (f (m u)) ∧ W u):∀ x,x < N → l.getD x 0 = cj f m x := by
 refine hl.all (fun x hx => ?_)
 by_cases h1:Ou x
 ·exact .inl (hw x hx h1).2.2
 ·by_cases h2:In x
  ·have:=(hw (f x) (h.fl x hx) (h.fI x h2)).1
   rw [h.ff] at this
   exact .inl this
  ·have e:=h.fx x h1 h2
   by_cases h3:Ou (m x)
   ·have:=(hw (m x) (h.lt x hx) h3).2.1
    rw [h.inv x hx,e] at this
    exact .inl this
   ·have h4:¬ In (m x):=fun hi => h2 (by have := h.mI _ hi; rwa [h.inv x hx] at this)
    refine .inr ?_
    unfold cj
    rw [e,h.fx _ h3 h4]
end Go.Proofs.YtghdiolnonejaaaGreatDoor.Pl
end
section
namespace Go.Proofs.YtghdiolnonejaaaGreatDoor
open Go Go.RowKit
def sheetV (A B L R:Option Addr) (n m:Nat) (lp:Int) (cp cq cl cr:Nat):Value := .agg #[.slice A n cp,.slice B m cq,.int .i64 lp,.slice L m cl,.slice R n cr]
def nearB (F R:List Nat) (d:Pl.Dg) (x y:Nat):Bool := (F.getD x 0 == F.getD y 0 || R.getD (x / 4) 0 != R.getD (y / 4) 0) && d.m x != y
structure ShAt (w:World) (A B L R:Option Addr) (d:Pl.Dg) (F P:List Nat):Prop where
 dg:DgAt w A B d
 l:IntsAt w L (4 * d.n) (nats F)
 p:IntsAt w R d.n (nats P)
theorem ShAt.keep {w w':World} {A B L R:Option Addr} {d:Pl.Dg} {F P:List Nat} (h:ShAt w A B L R d F P) (hb:Below w.heap.size w w'):ShAt w' A B L R d F P := ⟨h.dg.keep hb,h.l.keep hb,h.p.keep hb⟩
set_option maxRecDepth 100000 in
set_option maxHeartbeats 2000000 in
theorem near_any (d:Pl.Dg) (F P:List Nat) (A B L R:Option Addr) (cp cq cl cr m x y:Nat) (w:World) (hm:m = 4 * d.n) (hs:ShAt w A B L R d F P) (hn:d.n ≤ 64) (hx:x < 4 * d.n) (hy:y < 4 * d.n) :
 Calls Tryz.prog 108 #[sheetV A B L R d.n m d.lp cp cq cl cr,.int .i64 (x:Int),.int .i64 (y:Int)] w fun e w' => e = .returned (.bool (nearB F P d x y)) ∧ Below w.heap.size w w' := by
 unfold sheetV
 have b0:Below w.heap.size w (w.alloc (.cells #[.slice A d.n cp,.slice B m cq,.int .i64 d.lp,.slice L m cl,.slice R d.n cr] 82)):=(Below.refl _ _).alloc (Nat.le_refl _) _
 obtain ⟨W,hW⟩:∃ W,W = w.alloc (.cells #[.slice A d.n cp,.slice B m cq,.int .i64 d.lp,.slice L m cl,.slice R d.n cr] 82) := ⟨_,rfl⟩
 have BX:=hide (show Row W w.heap.size 82 [.slice A d.n cp,.slice B m cq,.int .i64 d.lp,.slice L m cl,.slice R d.n cr] by rw [hW]; exact Row.new w _ [_,_,_,_,_])
 rw [← hW] at b0
 have B0:=hide b0
 have HS:=hide (hs.keep b0)
 have HM:=hide hm
 have HW:=hide hW
 clear b0 hs hW
 obtain ⟨b1,o1,rfl,c1⟩:=nats_at HS.out.l (k := x) hx
 obtain ⟨b1',o1',e1,c2⟩:=nats_at HS.out.l (k := y) hy
 injection e1 with e1
 injection e1 with e11 e12
 subst e11
 subst e12
 obtain ⟨b2,o2,rfl,c3⟩:=nats_at HS.out.p (k := x / 4) (by omega)
 obtain ⟨b2',o2',e2,c4⟩:=nats_at HS.out.p (k := y / 4) (by omega)
 injection e2 with e2
 injection e2 with e21 e22
 subst e21
 subst e22
 obtain ⟨b3,o3,rfl,c5⟩:=mate_at HS.out.dg.m (k := x) hx
 have ix:(0:Int) ≤ (x:Int):=by omega
 have iy:(0:Int) ≤ (y:Int):=by omega
 have jx:(x:Int) < (m:Int):=by omega
 have jy:(y:Int) < (m:Int):=by omega
 have kx:(0:Int) ≤ (x:Int) / 4:=by omega
 have ky:(0:Int) ≤ (y:Int) / 4:=by omega
 have lx:(x:Int) / 4 < (d.n:Int):=by omega
 have ly:(y:Int) / 4 < (d.n:Int):=by omega
 clear hm
 obtain ⟨p,hp⟩:∃ p,p = F.getD x 0 := ⟨_,rfl⟩
 obtain ⟨q,hq⟩:∃ q,q = F.getD y 0 := ⟨_,rfl⟩
 obtain ⟨r,hr⟩:∃ r,r = P.getD (x / 4) 0 := ⟨_,rfl⟩
 obtain ⟨s,hss⟩:∃ s,s = P.getD (y / 4) 0 := ⟨_,rfl⟩
 obtain ⟨u,hu⟩:∃ u,u = d.m x := ⟨_,rfl⟩
 have E:=hide (show nearB F P d x y = ((p == q || r != s) && u != y) by unfold nearB; rw [hp,hq,hr,hss,hu])
 rw [← hp] at c1
 rw [← hq] at c2
 rw [← hr] at c3
 rw [← hss] at c4
 rw [← hu] at c5
 clear hp hq hr hss hu
 go_enter Tryz.func108,Tryz.ntmps108
 go_wp2_with fail
 rw [← HW.out]
 obtain ⟨f0,f1,f2,f3,f4,f5⟩:=box5 BX.out
 by_cases h1:p = q
 ·have E2:=hide (show nearB F P d x y = (u != y) by rw [E.out,h1]; simp)
  have t1:((p:Int) == (q:Int)) = true:=by rw [beq_iff_eq]; omega
  have E3:=hide (show (((u:Nat):Int) != ((y:Nat):Int)) = (u != y) by rw [Bool.eq_iff_iff]; simp; omega)
  clear h1
  go_wp2_with fail
  go_quiet (fail)
  go_wp2
  go_ret
  refine ⟨?_,below_drewN B0.out _⟩
  rw [E2.out]
  exact ret_bool E3.out
 ·have t1:((p:Int) == (q:Int)) = false:=by rw [beq_eq_false_iff_ne]; omega
  by_cases h2:r = s
  ·have E2:=hide (show nearB F P d x y = false by rw [E.out,h2]; simp [h1])
   have t2:((r:Int) != (s:Int)) = false:=by rw [bne_eq_false_iff_eq]; omega
   clear h1 h2
   go_wp2_with fail
   go_quiet (fail)
   go_wp2
   go_ret
   refine ⟨?_,below_drewN B0.out _⟩
   rw [E2.out]
   rfl
  ·have E2:=hide (show nearB F P d x y = (u != y) by rw [E.out]; simp [h1,h2])
   have t2:((r:Int) != (s:Int)) = true:=by rw [bne_iff_ne]; omega
   have E3:=hide (show (((u:Nat):Int) != ((y:Nat):Int)) = (u != y) by rw [Bool.eq_iff_iff]; simp; omega)
   clear h1 h2
   go_wp2_with fail
   go_quiet (fail)
   go_wp2
   go_ret
   refine ⟨?_,below_drewN B0.out _⟩
   rw [E2.out]
   exact ret_bool E3.out
end Go.Proofs.YtghdiolnonejaaaGreatDoor
end
section
namespace Go.Proofs.YtghdiolnonejaaaGreatDoor
open Go Go.RowKit
attribute [local go_sem ↓] Go.wp_at_zero Go.wp_at_succ
def lnS (d:Pl.Dg) (y:Int):Nat := if fwd d y then 0 else 2
def th0 (d:Pl.Dg) (x:Int):Nat := if fwd d x then 3 else 1
def th1 (d:Pl.Dg) (x:Int):Nat := if fwd d x then 1 else 3
def un0 (d:Pl.Dg) (x y:Int) (ov:Bool):Nat := if ov then lnS d y else th0 d x
def un1 (d:Pl.Dg) (x y:Int) (ov:Bool):Nat := if ov then lnS d y else th1 d x
def ov0 (d:Pl.Dg) (x y:Int) (ov:Bool):Nat := if ov then th0 d x else lnS d y
def ov1 (d:Pl.Dg) (x y:Int) (ov:Bool):Nat := if ov then th1 d x else lnS d y
def sgn2 (u o:Nat):Int := if plc 0 u o = 3 then 1 else -1
section
variable {w:World} {x0 x1 x2 y0 y1 y2 y3 y4:Value} {W W':World}
end
section
variable {w:World} {x0 x1 x2 y0 y1 y2 y3 y4:Value} {gu gs:Nat} {p0 p1 q0 q1:Value} {W W':World}
end
theorem own_base {w:World} {base base':Nat} {e:TypeId} {v:Value} {n:Nat} {xs:List Value} (h:w.ownsRow base e 1 v n xs) (hle:base' ≤ base):w.ownsRow base' e 1 v n xs := own_keep h (Below.refl _ _) hle
theorem two_ints (W:World) (a b:Int):IntsAt (W.alloc (.cells #[.int .i64 a,.int .i64 b] 3)).drew (some ⟨W.heap.size,0,none⟩) 2 [a,b] := by
 refine IntsAt.drew ⟨rfl,fun _ => ⟨_,0,rfl,fun j u hu => ?_⟩⟩
 have h:=heap_alloc_new W (.cells #[.int .i64 a,.int .i64 b] 3)
 match j,hu with
 | 0,hu => simp at hu; subst hu; exact (Lib.cell_of_heap h 0).trans rfl
 | 1,hu => simp at hu; subst hu; exact (Lib.cell_of_heap h 1).trans rfl
end Go.Proofs.YtghdiolnonejaaaGreatDoor
end
section
namespace Go.Proofs.YtghdiolnonejaaaGreatDoor
open Go Go.RowKit
def leadM (d:Pl.Dg) (mt:List Nat) (x:Int) (i o:Nat):List Nat := if x < 0 then jn mt i o else jn (jn mt x.toNat i) o (d.m x.toNat)
structure PK (w:World) (gd gn gr gf g1 c1 n1 g2 c2 n2 base n u0 u1:Nat) (s5 m5 dv ss:List Value) (lpr:Int) (mt:List Nat) (W:World):Prop where
 s:Row W w.heap.size 82 s5
 m:Row W (w.heap.size + 1) 43 m5
 rd:∃ vs,Row W (w.heap.size + 1 + 1) 24 vs ∧ vs.length = 3
 rm:∃ us,Row W (w.heap.size + 1 + 1 + 1) 43 us ∧ us.length = 5
 d:Row W gd 24 dv
 nb:Row W gn 3 [.int .i64 (n:Int)]
 f:Row W gf 124 [.int .i64 (u0:Int),.int .i64 (u1:Int)]
 r:Row W gr 24 [.slice (some ⟨g1,0,none⟩) n1 c1,.slice (some ⟨g2,0,none⟩) n2 c2,.int .i64 lpr]
 o1:W.ownsRow base 3 1 (.slice (some ⟨g1,0,none⟩) n1 c1) n1 ss
 o2:OwnN W base g2 n2 c2 mt
 ne:g1 ≠ g2
 bel:Below w.heap.size w W
 a1:w.heap.size + 1 + 1 + 1 < gd
 a2:w.heap.size + 1 + 1 + 1 < gn
 a3:w.heap.size + 1 + 1 + 1 < gr
 a5:gn < base
 a6:gr ≠ gd
section
variable {w:World} {gd gn gr gf g1 c1 n1 g2 c2 n2 base n u0 u1:Nat} {s5 m5 dv ss:List Value} {lpr:Int} {mt:List Nat} {W W2:World}
end
end Go.Proofs.YtghdiolnonejaaaGreatDoor
end
