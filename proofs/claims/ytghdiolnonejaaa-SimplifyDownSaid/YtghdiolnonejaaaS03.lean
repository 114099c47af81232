/-
 The texts Val, Wk, Wl, Wm, Wr, Ws, Wu, Dc, Xa, Xe, Wn, Xj, Xo, Xp, Wx, Wy, Wq, Wz, Xb, Ra, Rd, Re.
-/
import Derived.Test.YtghdiolnonejaaaS02
import Derived.Test.YtghdiolnonejaaaS04
set_option linter.unusedVariables false
set_option linter.unusedSimpArgs false
section
namespace Go.Proofs.Ytghdiolnonejaaa
open Go.RowKit
theorem ints_pv {w:World} {A:Option Addr} {n k:Nat} {zs:List Int} (h:IntsAt w A n zs) (hk:k < n) :
 ∃ b o,A = some ⟨b,o,none⟩ ∧ w.cell? ⟨b,o + k,none⟩ = some (.int .i64 (Pl.pv zs k)) := h.at_ hk
set_option maxRecDepth 100000 in
set_option maxHeartbeats 1500000 in
theorem valid_any (sg mt:List Int) (lp:Int) (A B:Option Addr) (n q cp cq:Nat) (w:World) (hs:IntsAt w A n sg) (hm:IntsAt w B q mt) (hn:n ≤ maxLen) (hq:q ≤ maxLen) (hlp:-9223372036854775808 ≤ lp ∧ lp ≤ 9223372036854775807) :
 Calls Try.prog 21 #[.agg #[.slice A n cp,.slice B q cq,.int .i64 lp]] w fun e w' => e = .returned (.bool (Pl.vb (Pl.VL sg mt lp))) ∧ Below w.heap.size w w' := by
 unfold maxLen at hn hq
 have HLS:=hide hs.len
 have HLM:=hide hm.len
 have b0:Below w.heap.size w (w.alloc (.cells #[.slice A n cp,.slice B q cq,.int .i64 lp] 24)):=(Below.refl _ _).alloc (Nat.le_refl _) _
 by_cases h1:64 < n
 ·have HV:=hide (fun h:Pl.VL sg mt lp => show False by have := h.few; have := HLS.out; omega)
  go_enter Try.func21,Try.ntmps21
  go_wp2
  go_ret
  exact ⟨ret_bool (Pl.vb_false HV.out).symm,b0⟩
 ·have h1':decide (64 < (n:Int)) = false:=by simp; omega
  by_cases h2:q = 4 * n
  ·by_cases h3:0 ≤ lp ∧ lp ≤ 64
   ·have h2':(((q:Nat):Int) != 4 * (n:Int)) = false:=by simp; omega
    have h3a:decide (lp < 0) = false:=by simp; omega
    have h3b:decide (64 < lp) = false:=by simp; omega
    have HQ4:=hide h2
    have hq6:q ≤ 256:=by omega
    clear h2
    have x0:Row (w.alloc (.cells #[.slice A n cp,.slice B q cq,.int .i64 lp] 24)) w.heap.size 24 (boxV A B n cp q cq (.int .i64 lp)):=Row.new w _ _
    go_enter Try.func21,Try.ntmps21
    go_wp2
    have B0:=hide b0
    have X0:=hide x0
    clear b0 x0 h1' h2' h3a h3b
    go_loopg [34] n (fun g i wx => ∃ k:Nat,k + g = n ∧ i = .int .i64 k ∧ (∀ c,c < k → Pl.pv sg c = 1 ∨ Pl.pv sg c = -1) ∧ Below w.heap.size w wx ∧ Row wx w.heap.size 24 (boxV A B n cp q cq (.int .i64 lp)))
    case atStart => exact ⟨0,by omega,rfl,fun c hc => absurd hc (by omega),B0.out,X0.out⟩
    case round =>
     clear B0 X0
     obtain ⟨k,hkg,rfl,hsg,b1,x1⟩:=hrel
     have HG:=hide hkg
     have HSG:=hide hsg
     have hkn:k ≤ n:=by omega
     clear hkg hsg
     by_cases hlt:k < n
     ·obtain ⟨ab,ao,rfl,hc⟩:=ints_pv hs hlt
      have hc1:=cell_below hc b1
      have B1:=hide b1
      have X1:=hide x1
      clear b1 x1 hc
      by_cases hz:Pl.pv sg k = 1
      ·have HZ:=hide hz
       rw [hz] at hc1
       clear hz
       go_wp2
       go_roundg (gk - 1)
       case measure => have := HG.out; omega
       case rel =>
        refine ⟨k + 1,by have := HG.out; omega,by go_num,fun c hc => ?_,B1.out,X1.out⟩
        by_cases e:c = k
        ·rw [e]; exact .inl HZ.out
        ·exact HSG.out c (by omega)
      ·by_cases hz2:Pl.pv sg k = -1
       ·have HZ:=hide hz2
        rw [hz2] at hc1
        clear hz hz2
        go_wp2
        go_roundg (gk - 1)
        case measure => have := HG.out; omega
        case rel =>
         refine ⟨k + 1,by have := HG.out; omega,by go_num,fun c hc => ?_,B1.out,X1.out⟩
         by_cases e:c = k
         ·rw [e]; exact .inr HZ.out
         ·exact HSG.out c (by omega)
       ·have HV := hide (fun h : Pl.VL sg mt lp => show False by
         rcases h.sign (c := k) (by have := HLS.out; omega) with e | e
         ·exact hz e
         ·exact hz2 e)
        have t1:(Pl.pv sg k != 1) = true:=by rw [bne_iff_ne]; exact hz
        have t2:(Pl.pv sg k != -1) = true:=by rw [bne_iff_ne]; exact hz2
        clear hz hz2
        go_wp2
        go_ret
        exact ⟨ret_bool (Pl.vb_false HV.out).symm,B1.out⟩
     ·have HSG':=hide (fun (c:Nat) (hc:c < sg.length) => HSG.out c (by have := HLS.out; omega))
      have B1:=hide b1
      have X1:=hide x1
      have x1c:wr.cell? ⟨w.heap.size,1,none⟩ = some (.slice B q cq):=x1.cell (i := 1) (by show 1 < 3; omega)
      clear b1 x1 HSG HG
      go_wp2
      clear x1c
      go_loopg [48] q (fun g i wx => ∃ k:Nat,k + g = q ∧ i = .int .i64 k ∧ (∀ h,h < k → 0 ≤ Pl.pv mt h ∧ Pl.pv mt h < mt.length ∧ Pl.pv mt h ≠ h ∧ Pl.pv mt (Pl.pv mt h).toNat = h ∧ Pl.out (Pl.mk sg mt lp) h ≠ Pl.out (Pl.mk sg mt lp) (Pl.pv mt h).toNat) ∧ Below w.heap.size w wx ∧ Row wx w.heap.size 24 (boxV A B n cp q cq (.int .i64 lp)))
      case atStart => exact ⟨0,by omega,rfl,fun c hc => absurd hc (by omega),B1.out,X1.out⟩
      case round =>
       clear B1 X1
       obtain ⟨j,hjg,rfl,hmo,b2,x2⟩:=hrel
       have HG:=hide hjg
       have HMO:=hide hmo
       have hjq:j ≤ q:=by omega
       clear hjg hmo
       by_cases hlt2:j < q
       ·obtain ⟨bb,bo,rfl,hc⟩:=ints_pv hm hlt2
        have hc1:=cell_below hc b2
        have x2c:wr.cell? ⟨w.heap.size,1,none⟩ = some (.slice (some ⟨bb,bo,none⟩) q cq):=x2.cell (i := 1) (by show 1 < 3; omega)
        have hjl:j < mt.length:=by have := HLM.out; omega
        have B2:=hide b2
        have X2:=hide x2
        clear b2 x2 hc
        by_cases hz0:Pl.pv mt j < 0
        ·have HV:=hide (fun h:Pl.VL sg mt lp => show False by have := (h.mate hjl).1; omega)
         have t1:decide (Pl.pv mt j < 0) = true:=by simpa using hz0
         clear hz0
         go_wp2
         go_ret
         exact ⟨ret_bool (Pl.vb_false HV.out).symm,B2.out⟩
        ·have t1:decide (Pl.pv mt j < 0) = false:=by simpa using hz0
         by_cases hz1:Pl.pv mt j < q
         ·obtain ⟨t,ht⟩:∃ t:Nat,Pl.pv mt j = t := ⟨(Pl.pv mt j).toNat,by omega⟩
          have htq:t < q:=by omega
          have t2:decide (4 * (n:Int) ≤ (t:Int)) = false:=by have := HQ4.out; simp; omega
          rw [ht] at hc1 t1
          have HT:=hide ht
          have hj4:j < 4 * n:=by have := HQ4.out; omega
          have ht4:t < 4 * n:=by have := HQ4.out; omega
          clear hz0 hz1 ht
          by_cases htj:t = j
          ·have HV:=hide (fun h:Pl.VL sg mt lp => show False by have := (h.mate hjl).2.2.1; rw [HT.out] at this; omega)
           have t3:(((t:Nat):Int) == (j:Int)) = true:=by simp; omega
           clear htj
           go_wp2
           go_ret
           exact ⟨ret_bool (Pl.vb_false HV.out).symm,B2.out⟩
          ·have t3:(((t:Nat):Int) == (j:Int)) = false:=by simp; omega
           obtain ⟨bb',bo',ebb,hcb⟩:=ints_pv hm htq
           injection ebb with ebb
           injection ebb with ebb1 ebb2
           subst ebb1; subst ebb2
           have hc2:=cell_below hcb B2.out
           clear hcb
           by_cases hinv:Pl.pv mt t = j
           ·have HI:=hide hinv
            rw [hinv] at hc2
            clear hinv
            have HSS:=hide (fun (p:Cls (fun w' => Row w' w.heap.size 24 (boxV A (some ⟨bb,bo,none⟩) n cp q cq (.int .i64 lp)) ∧ Below w.heap.size w w')) (h:Nat) (hh:h < 4 * n) =>
             calls_cls (C := fun w' => Row w' w.heap.size 24 (boxV A (some ⟨bb,bo,none⟩) n cp q cq (.int .i64 lp)) ∧ Below w.heap.size w w')
              (out_n (Pl.mk sg mt lp) A (some ⟨bb,bo,none⟩) n cp q cq (.int .i64 lp) h p.w HLS.out.symm hh (by omega) (hs.keep p.ok.2)) (fun e w' h => ⟨h.1,p.ok.1.below h.2,p.ok.2.trans (h.2.mono p.ok.2.size)⟩))
            have c30:∀ p:Cls (fun w' => Row w' w.heap.size 24 (boxV A (some ⟨bb,bo,none⟩) n cp q cq (.int .i64 lp)) ∧ Below w.heap.size w w'),p.w.cell? ⟨w.heap.size,0,none⟩ = some (.slice A n cp):=fun p => p.ok.1.cell (i := 0) (by show 0 < 3; omega)
            have c31:∀ p:Cls (fun w' => Row w' w.heap.size 24 (boxV A (some ⟨bb,bo,none⟩) n cp q cq (.int .i64 lp)) ∧ Below w.heap.size w w'),p.w.cell? ⟨w.heap.size,1,none⟩ = some (.slice (some ⟨bb,bo,none⟩) q cq):=fun p => p.ok.1.cell (i := 1) (by show 1 < 3; omega)
            have c32:∀ p:Cls (fun w' => Row w' w.heap.size 24 (boxV A (some ⟨bb,bo,none⟩) n cp q cq (.int .i64 lp)) ∧ Below w.heap.size w w'),p.w.cell? ⟨w.heap.size,2,none⟩ = some (.int .i64 lp):=fun p => p.ok.1.cell (i := 2) (by show 2 < 3; omega)
            go_wp2
            refine wp_region_cls (fun w' => Row w' w.heap.size 24 (boxV A (some ⟨bb,bo,none⟩) n cp q cq (.int .i64 lp)) ∧ Below w.heap.size w w') (by kernel_rfl) (by kernel_rfl) ⟨X2.out.drew,B2.out.drew⟩ (fun hne => ?_)
            repeat (quiet_step ((go_at_call 46; exact HSS.out _ _ (by omega))))
            refine wpQuiet_nil ?_
            rintro _ ⟨p,rfl⟩
            have hp1:=hide p.ok.1
            have hp2:=hide p.ok.2
            clear HSS c30 c31 c32
            go_wp2
            ·have t5:(Pl.out (Pl.mk sg mt lp) j == Pl.out (Pl.mk sg mt lp) t) = true:=by assumption
             go_ret
             refine ⟨ret_bool (Pl.vb_false fun h => ?_).symm,hp2.out⟩
             have h5:=(h.mate hjl).2.2.2.2
             rw [HT.out,Int.toNat_natCast] at h5
             exact h5 (beq_iff_eq.1 t5)
            ·have t5:(Pl.out (Pl.mk sg mt lp) j == Pl.out (Pl.mk sg mt lp) t) = false:=by assumption
             go_roundg (gk - 1)
             case measure => have := HG.out; omega
             case rel =>
              refine ⟨j + 1,by have := HG.out; omega,by go_num,fun h hh => ?_,hp2.out,hp1.out⟩
              by_cases e:h = j
              ·subst e
               rw [HT.out,Int.toNat_natCast]
               exact ⟨by omega,by have := HLM.out; omega,by omega,HI.out,beq_eq_false_iff_ne.1 t5⟩
              ·exact HMO.out h (by omega)
           ·have HV := hide (fun h : Pl.VL sg mt lp => show False by
             have:=(h.mate hjl).2.2.2.1
             rw [HT.out,Int.toNat_natCast] at this
             exact hinv this)
            have t4:(Pl.pv mt t != (j:Int)) = true:=by rw [bne_iff_ne]; exact hinv
            clear hinv
            go_wp2
            go_ret
            exact ⟨ret_bool (Pl.vb_false HV.out).symm,B2.out⟩
         ·have HV:=hide (fun h:Pl.VL sg mt lp => show False by have := (h.mate hjl).2.1; have := HLM.out; omega)
          have t2:decide (4 * (n:Int) ≤ Pl.pv mt j) = true:=by have := HQ4.out; simp; omega
          clear hz0 hz1
          go_wp2
          go_ret
          exact ⟨ret_bool (Pl.vb_false HV.out).symm,B2.out⟩
       ·have hjq':j = q:=by omega
        have hw:=Pl.wf_of (sg := sg) (mt := mt) (lp := lp) (by have := HLS.out; omega) (by have := HLS.out; have := HLM.out; have := HQ4.out; omega) h3 HSG'.out (fun k hk => HMO.out k (by have := HLM.out; omega))
        have hpos:∀ z,z ∈ mt → 0 ≤ z:=fun z hz => by
         obtain ⟨k,hk,rfl⟩:=Pl.mem_pv hz
         exact (HMO.out k (by have := HLM.out; omega)).1
        have HW:=hide hw
        have HR:=hide (Pl.VL.of hw hpos h3.1)
        have HN:=hide (Pl.nats_mk (sg := sg) (lp := lp) hpos)
        have B2:=hide b2
        have x20:wr.cell? ⟨w.heap.size,0,none⟩ = some (.slice A n cp):=x2.cell (i := 0) (by show 0 < 3; omega)
        have x21:wr.cell? ⟨w.heap.size,1,none⟩ = some (.slice B q cq):=x2.cell (i := 1) (by show 1 < 3; omega)
        have x22:wr.cell? ⟨w.heap.size,2,none⟩ = some (.int .i64 lp):=x2.cell (i := 2) (by show 2 < 3; omega)
        clear b2 x2 hw hpos hjq'
        go_wp2_with fail
        refine (spherical_n (Pl.mk sg mt lp) HW.out A B n q cp cq (.int .i64 lp) _ HLS.out.symm (by have := HQ4.out; have := HLS.out; rw [Pl.mk_n]; omega) ?_ ⟨?_,?_⟩).mono ?_
        ·show Value.int .i64 lp = .int .i64 ((lp.toNat:Nat):Int)
         rw [Int.toNat_of_nonneg h3.1]
        ·rw [Pl.mk_n,HLS.out]; exact hs.keep B2.out
        ·unfold nats
         rw [HN.out,Pl.mk_n,HLS.out,← HQ4.out]; exact hm.keep B2.out
        rintro e w3 ⟨rfl,hb3⟩
        go_wp2
        go_ret
        exact ⟨ret_bool (congrArg Pl.vb (propext HR.out.symm)),B2.out.trans (hb3.mono B2.out.size)⟩
   ·have HV:=hide (fun h:Pl.VL sg mt lp => show False by have := h.loops; omega)
    have h2':(((q:Nat):Int) != 4 * (n:Int)) = false:=by simp; omega
    have HQ2:=hide h2
    clear h2
    go_enter Try.func21,Try.ntmps21
    go_wp2
    all_goals
     go_ret
     exact ⟨ret_bool (Pl.vb_false HV.out).symm,b0⟩
  ·have HV:=hide (fun h:Pl.VL sg mt lp => show False by have := h.len; have := HLS.out; have := HLM.out; omega)
   have h2':(((q:Nat):Int) != 4 * (n:Int)) = true:=by simp; omega
   go_enter Try.func21,Try.ntmps21
   go_wp2
   go_ret
   exact ⟨ret_bool (Pl.vb_false HV.out).symm,b0⟩
end Go.Proofs.Ytghdiolnonejaaa
end
section
namespace Go.Proofs.Ytghdiolnonejaaa
open Go.RowKit
def ahd (gs:List Nat) (h k:Nat):Nat := ((gs.take k).filter (fun c => decide (c < h / 4))).length
theorem ahd_le (gs:List Nat) (h k:Nat):ahd gs h k ≤ k := by
 unfold ahd
 have:=List.length_filter_le (fun c => decide (c < h / 4)) (gs.take k)
 have:=List.length_take_le k gs
 omega
theorem ahd_succ {gs:List Nat} {k:Nat} (hk:k < gs.length) (h:Nat):ahd gs h (k + 1) = ahd gs h k + if gs.getD k 0 < h / 4 then 1 else 0 := by
 unfold ahd
 rw [List.take_succ_eq_append_getElem hk,List.filter_append,List.length_append,List.getD_eq_getElem?_getD,List.getElem?_eq_getElem hk]
 by_cases e:gs[k] < h / 4 <;> simp [List.filter_cons,e]
theorem ahd_all {gs:List Nat} {k:Nat} (hk:gs.length ≤ k) (h:Nat):ahd gs h k = (gs.filter (fun c => decide (c < h / 4))).length := by
 unfold ahd
 rw [List.take_of_length_le hk]
theorem nats_at {w:World} {A:Option Addr} {n k:Nat} {gs:List Nat} (h:IntsAt w A n (nats gs)) (hk:k < n) :
 ∃ b o,A = some ⟨b,o,none⟩ ∧ w.cell? ⟨b,o + k,none⟩ = some (.int .i64 (gs.getD k 0:Nat)) := by
 obtain ⟨b,o,e,hc⟩:=h.at_ hk
 refine ⟨b,o,e,hc.trans ?_⟩
 have hl:=h.len
 unfold nats at hl ⊢
 rw [List.length_map] at hl
 rw [List.getD_eq_getElem?_getD,List.getD_eq_getElem?_getD,List.getElem?_map,List.getElem?_eq_getElem (by omega)]; rfl
set_option maxRecDepth 100000 in
set_option maxHeartbeats 1000000 in
theorem shifted_any (gs:List Nat) (A:Option Addr) (n c h:Nat) (w:World) (hg:IntsAt w A n (nats gs)) (hn:n ≤ 100) (hh:h ≤ 100000) (hf:Pl.Few gs) :
 Calls Try.prog 83 #[.int .i64 (h:Int),.slice A n c] w fun e w' => e = .returned (.int .i64 (Pl.shf gs h:Nat)) ∧ w' = w := by
 have hl:=hg.len
 unfold nats at hl
 rw [List.length_map] at hl
 have HL:=hide hl
 have HG:=hide hg
 clear hl hg
 go_enter Try.func83,Try.ntmps83
 go_wp2
 go_loop [5,10] (fun b i => ∃ k:Nat,k ≤ n ∧ i = .int .i64 k ∧ b = .int .i64 (4 * (ahd gs h k:Nat))) (fun _ i => n - (intOf i).toNat)
 case atStart => exact ⟨0,by omega,rfl,rfl⟩
 case round =>
  obtain ⟨k,hk,rfl,rfl⟩:=hrel
  have hle:=ahd_le gs h k
  by_cases hlt:k < n
  ·obtain ⟨b,o,rfl,hc⟩:=nats_at HG.out hlt
   have HS:=hide (ahd_succ (gs := gs) (k := k) (by have := HL.out; omega) h)
   obtain ⟨x,hx⟩:∃ x,x = gs.getD k 0 := ⟨_,rfl⟩
   rw [← hx] at hc HS
   clear hx
   by_cases ht:x < h / 4
   ·have HT:=hide ht
    have t1:decide ((x:Int) < (h:Int) / 4) = true:=by simp; omega
    clear ht
    go_wp2
    go_round
    case rel => exact ⟨k + 1,by omega,by go_num,by rw [HS.out,if_pos HT.out]; go_num⟩
    case measure => simp [intOf]; omega
   ·have HT:=hide ht
    have t1:decide ((x:Int) < (h:Int) / 4) = false:=by simp; omega
    clear ht
    go_wp2
    go_round
    case rel => exact ⟨k + 1,by omega,by go_num,by rw [HS.out,if_neg HT.out]; go_num⟩
    case measure => simp [intOf]; omega
  ·go_wp2
   go_ret
   refine ⟨ret_int ?_,rfl⟩
   have h1:=ahd_all (gs := gs) (k := k) (by have := HL.out; omega) h
   have h2:=Pl.shf_le hf h
   unfold Pl.shf
   rw [h1]
   omega
end Go.Proofs.Ytghdiolnonejaaa
end
section
namespace Go.Proofs.Ytghdiolnonejaaa
open Go Go.RowKit
structure Shk (w:World) (vS vM:Value) (ss:List Int) (ms:List Nat) (lp:Int) (W:World):Prop where
 res:Row W w.heap.size 24 [.slice none 0 0,.slice none 0 0,.int .i64 0]
 box:Row W (w.heap.size + 1) 24 [vS,vM,.int .i64 lp]
 s:W.ownsRow (w.heap.size + 2) 3 1 vS ss.length (ss.map (.int .i64))
 m:W.ownsRow (w.heap.size + 2) 3 1 vM ms.length (ms.map (fun k:Nat => Value.int .i64 k))
 ne:∀ g,vS.ownBlock = some g → vM.ownBlock ≠ some g
 bel:Below w.heap.size w W
theorem Shk.big {w:World} {vS vM:Value} {ss:List Int} {ms:List Nat} {lp:Int} {W:World} (h:Shk w vS vM ss ms lp W):w.heap.size + 2 ≤ W.heap.size := by have := h.box.lt; omega
theorem Shk.below {w:World} {vS vM:Value} {ss:List Int} {ms:List Nat} {lp:Int} {W W':World} (h:Shk w vS vM ss ms lp W) (hb:Below W.heap.size W W'):Shk w vS vM ss ms lp W' :=
 ⟨h.res.below hb,h.box.below hb,own_keep h.s hb (Nat.le_refl _),own_keep h.m hb (Nat.le_refl _),h.ne,h.bel.trans (hb.mono (by have := h.big; omega))⟩
theorem Shk.alloc {w:World} {vS vM:Value} {ss:List Int} {ms:List Nat} {lp:Int} {W:World} (h:Shk w vS vM ss ms lp W) (o:Obj):Shk w vS vM ss ms lp (W.alloc o) := h.below ((Below.refl _ _).alloc (Nat.le_refl _) o)
theorem row_apart {W:World} {g:Nat} {vs:List Value} {base:Nat} {v:Value} {n:Nat} {xs:List Value} (h:Row W g 24 vs) (ho:W.ownsRow base 3 1 v n xs):some g ≠ v.ownBlock := by
 intro e
 obtain ⟨cs,fr,h3⟩:=ownsRow_block ho g e.symm
 rw [h] at h3
 injection h3 with h3
 injection h3 with _ h4
 exact absurd h4 (by decide)
theorem Shk.appS {w:World} {vS vM v':Value} {ss:List Int} {ms:List Nat} {lp x:Int} {W W2:World} (h:Shk w vS vM ss ms lp W) (own:W2.ownsRow (w.heap.size + 2) 3 1 v' (ss.length + 1) (ss.map (.int .i64) ++ [.int .i64 x])) (gr:W.grownBy W2 vS.ownBlock) {g':Nat} (hv:v'.ownBlock = some g') (hat0:vS.ownBlock = some g' ∨ g' = W.heap.size) :
 Shk w v' vM (ss ++ [x]) ms lp (W2.setCell ⟨w.heap.size + 1,0,none⟩ v') := by
 have hat:v'.ownBlock = vS.ownBlock ∨ v'.ownBlock = some W.heap.size:=by
  rcases hat0 with e | e
  ·exact .inl (hv.trans e.symm)
  ·exact .inr (hv.trans (congrArg some e))
 have hlt:=h.s.lt
 have hlm:=h.m.lt
 refine ⟨(h.res.grown gr (row_apart h.res h.s)).other (by simp) _,(h.box.grown gr (row_apart h.box h.s)).set 0 v',?_,?_,?_,?_⟩
 ·refine ownsRow_setCell_below ?_ (by simp) _
  simpa using own
 ·refine ownsRow_setCell_below (h.m.kept gr ?_) (by simp) _
  cases hm:vM.ownBlock with
  | none => exact .inl rfl
  | some g => exact .inr (fun e => h.ne g e.symm hm)
 ·intro g hg hm
  rcases hat with e | e
  ·exact h.ne g (e ▸ hg) hm
  ·rw [e] at hg
   injection hg with hg
   have:=(hlm g hm).2
   omega
 ·exact (h.bel.grown gr h.bel.size (fun k hk => by have := (hlt k hk).1; omega)).setCell (by simp) _
theorem Shk.appM {w:World} {vS vM v':Value} {ss:List Int} {ms:List Nat} {lp:Int} {x:Nat} {W W2:World} (h:Shk w vS vM ss ms lp W) (own:W2.ownsRow (w.heap.size + 2) 3 1 v' (ms.length + 1) (ms.map (fun k:Nat => Value.int .i64 k) ++ [.int .i64 x])) (gr:W.grownBy W2 vM.ownBlock) {g':Nat} (hv:v'.ownBlock = some g') (hat0:vM.ownBlock = some g' ∨ g' = W.heap.size) :
 Shk w vS v' ss (ms ++ [x]) lp (W2.setCell ⟨w.heap.size + 1,1,none⟩ v') := by
 have hat:v'.ownBlock = vM.ownBlock ∨ v'.ownBlock = some W.heap.size:=by
  rcases hat0 with e | e
  ·exact .inl (hv.trans e.symm)
  ·exact .inr (hv.trans (congrArg some e))
 have hlt:=h.s.lt
 have hlm:=h.m.lt
 refine ⟨(h.res.grown gr (row_apart h.res h.m)).other (by simp) _,(h.box.grown gr (row_apart h.box h.m)).set 1 v',?_,?_,?_,?_⟩
 ·refine ownsRow_setCell_below (h.s.kept gr ?_) (by simp) _
  cases hm:vS.ownBlock with
  | none => exact .inl rfl
  | some g => exact .inr (fun e => h.ne g hm e.symm)
 ·refine ownsRow_setCell_below ?_ (by simp) _
  simpa using own
 ·intro g hg hm
  rcases hat with e | e
  ·exact h.ne g hg (e ▸ hm)
  ·rw [e] at hm
   injection hm with hm
   have:=(hlt g hg).2
   omega
 ·exact (h.bel.grown gr h.bel.size (fun k hk => by have := (hlm k hk).1; omega)).setCell (by simp) _
theorem one_news (W:World) (x:Value):∀ j u,[x][j]? = some u → (W.alloc (.cells #[x] 3)).cell? ((⟨W.heap.size,0,none⟩:Addr).add j) = some u := by
 intro j u hu
 match j,hu with
 | 0,hu => simp at hu; subst hu; exact (Lib.cell_of_heap (heap_alloc_new W _) 0).trans rfl
theorem contains_nats (gs:List Nat) (k:Nat):(gs.map (fun m:Nat => (m:Int))).contains (k:Int) = gs.contains k := by
 rw [Bool.eq_iff_iff]
 simp
 exact ⟨fun ⟨a,h,e⟩ => (show a = k by omega) ▸ h,fun h => ⟨k,h,rfl⟩⟩
theorem contains_any (gs:List Nat) (A:Option Addr) (n c k:Nat) (w:World) (hg:IntsAt w A n (nats gs)) (hn:1 ≤ n ∧ n ≤ 100) :
 Calls Try.prog 131 #[.slice A n c,.int .i64 (k:Int)] w fun e w' => e = .returned (.bool (gs.contains k)) ∧ w' = w := by
 have hl:=hg.len
 obtain ⟨b,o,rfl,hc⟩:=hg.2 (by omega)
 have:=Try.slices_Contains_int b o n c (nats gs) (k:Int) w (by omega) (by omega) (fun j hj => hc j _ (by
  rw [List.getElem?_map,List.getElem?_eq_getElem hj,List.getD_eq_getElem?_getD,List.getElem?_eq_getElem hj]; rfl))
 refine this.mono ?_
 rintro e w' ⟨rfl,rfl⟩
 refine ⟨?_,rfl⟩
 rw [List.take_of_length_le (by omega)]
 unfold nats
 rw [contains_nats]
def shM (gs:List Nat) (mt:List Nat) (k:Nat):List Nat := (Pl.left k gs).flatMap (Pl.four (fun h => Pl.shf gs (mt.getD h 0)))
def shS (gs:List Nat) (sg:List Int) (k:Nat):List Int := (Pl.left k gs).map (fun c => sg.getD c 0)
theorem shM_stay {gs:List Nat} {k:Nat} (h:gs.contains k = false) (mt:List Nat):shM gs mt (k + 1) = shM gs mt k ++ [Pl.shf gs (mt.getD (4 * k) 0),Pl.shf gs (mt.getD (4 * k + 1) 0),Pl.shf gs (mt.getD (4 * k + 2) 0),Pl.shf gs (mt.getD (4 * k + 3) 0)] := by
 unfold shM
 rw [Pl.left_succ,h,List.flatMap_append]
 rfl
theorem shM_gone {gs:List Nat} {k:Nat} (h:gs.contains k = true) (mt:List Nat):shM gs mt (k + 1) = shM gs mt k := by
 unfold shM
 rw [Pl.left_succ,h]
 simp
theorem shS_stay {gs:List Nat} {k:Nat} (h:gs.contains k = false) (sg:List Int):shS gs sg (k + 1) = shS gs sg k ++ [sg.getD k 0] := by
 unfold shS
 rw [Pl.left_succ,h,List.map_append]
 rfl
theorem shS_gone {gs:List Nat} {k:Nat} (h:gs.contains k = true) (sg:List Int):shS gs sg (k + 1) = shS gs sg k := by
 unfold shS
 rw [Pl.left_succ,h]
 simp
theorem shS_len (gs:List Nat) (sg:List Int) (k:Nat):(shS gs sg k).length ≤ k := by unfold shS; rw [List.length_map]; exact Pl.left_le k gs
theorem shM_len (gs:List Nat) (mt:List Nat) (k:Nat):(shM gs mt k).length ≤ 4 * k := by unfold shM; rw [Pl.flat4]; have := Pl.left_le k gs; omega
theorem shr_fin {w:World} {vS vM:Value} {ss:List Int} {ms:List Nat} {lp:Int} {W:World} (h:Shk w vS vM ss ms lp W) :
 (((W.setCell ⟨w.heap.size,0,none⟩ vS).setCell ⟨w.heap.size,1,none⟩ vM).setCell ⟨w.heap.size,2,none⟩ (.int .i64 lp)).cell? ⟨w.heap.size,0,none⟩ = some vS ∧
 (((W.setCell ⟨w.heap.size,0,none⟩ vS).setCell ⟨w.heap.size,1,none⟩ vM).setCell ⟨w.heap.size,2,none⟩ (.int .i64 lp)).cell? ⟨w.heap.size,1,none⟩ = some vM ∧
 (((W.setCell ⟨w.heap.size,0,none⟩ vS).setCell ⟨w.heap.size,1,none⟩ vM).setCell ⟨w.heap.size,2,none⟩ (.int .i64 lp)).cell? ⟨w.heap.size,2,none⟩ = some (.int .i64 lp) := by
 have r:=((h.res.set 0 vS).set 1 vM).set 2 (.int .i64 lp)
 exact ⟨r.cell (i := 0) (by simp),r.cell (i := 1) (by simp),r.cell (i := 2) (by simp)⟩
theorem four_take {f:Nat → Nat} (k:Nat) {j:Nat} (hj:j < 4):(Pl.four f k).take (j + 1) = (Pl.four f k).take j ++ [f (4 * k + j)] := by
 have h:j = 0 ∨ j = 1 ∨ j = 2 ∨ j = 3:=by omega
 rcases h with rfl | rfl | rfl | rfl <;> rfl
def ShrPost (gs:List Nat) (sg:List Int) (mt:List Nat) (lp:Int) (w:World) (e:Ending) (w':World):Prop :=
 ∃ vS vM:Value,e = .returned (.agg #[vS,vM,.int .i64 lp]) ∧ w'.ownsRow (w.heap.size + 2) 3 1 vS (Pl.left sg.length gs).length ((Pl.shrS gs sg).map (.int .i64)) ∧ w'.ownsRow (w.heap.size + 2) 3 1 vM (4 * (Pl.left sg.length gs).length) ((Pl.shrM gs sg.length mt).map (fun k:Nat => Value.int .i64 k)) ∧ Below w.heap.size w w'
set_option maxRecDepth 100000 in
set_option maxHeartbeats 2000000 in
theorem shrunk_any (gs:List Nat) (sg:List Int) (mt:List Nat) (lp:Int) (A B C:Option Addr) (n q r cp cq cr:Nat) (w:World) (hs:IntsAt w A n sg) (hm:IntsAt w B q (nats mt)) (hg:IntsAt w C r (nats gs)) (hf:Pl.Few gs)
 (hq:q = 4 * n) (hcq:q ≤ cq) (hcq2:cq ≤ maxLen) (hn:n ≤ 100) (hr:1 ≤ r ∧ r ≤ 100) (hmt:∀ h,mt.getD h 0 ≤ 1000) :
 Calls Try.prog 84 #[.slice A n cp,.slice B q cq,.int .i64 lp,.slice C r cr] w (ShrPost gs sg mt lp w) := by
 unfold maxLen at hcq2
 have hls:=hs.len
 have HQ:=hide hq
 have HS:=hide hs
 have HMT:=hide hm
 have HG:=hide hg
 have HLS:=hide hls
 clear hq hs hm hg hls
 go_enter Try.func84,Try.ntmps84
 go_wp2
 have H0:=hide (show Shk w (.slice none 0 0) (.slice none 0 0) [] [] lp ((w.alloc (.cells #[.slice none 0 0,.slice none 0 0,.int .i64 0] 24)).alloc (.cells #[.slice none 0 0,.slice none 0 0,.int .i64 lp] 24)) from
  ⟨(Row.new w _ [_,_,_]).alloc _,by have := Row.new (w.alloc (.cells #[.slice none 0 0,.slice none 0 0,.int .i64 0] 24)) 24 [.slice none 0 0,.slice none 0 0,.int .i64 lp]; simpa using this,
   World.ownsRow_nil _ _ _ _,World.ownsRow_nil _ _ _ _,fun g h => by simp [Value.ownBlock] at h,((Below.refl _ _).alloc (Nat.le_refl _) _).alloc (by simp) _⟩)
 go_loopg [18] n (fun g i wx => ∃ (k:Nat) (vS vM:Value),k + g = n ∧ i = .int .i64 k ∧ Shk w vS vM (shS gs sg k) (shM gs mt k) lp wx)
 case atStart => exact ⟨0,.slice none 0 0,.slice none 0 0,by omega,rfl,H0.out⟩
 case round =>
  clear H0
  obtain ⟨k,vS,vM,hkg,rfl,hk⟩:=hrel
  have HKG:=hide hkg
  have hkn:k ≤ n:=by omega
  have HK:=hide hk
  clear hkg hk
  obtain ⟨go,rfl⟩:∃ go,go = gk := ⟨_,rfl⟩
  by_cases hlt:k < n
  ·obtain ⟨ab,ao,rfl,hca⟩:=ints_pv (HS.out.keep HK.out.bel) hlt
   obtain ⟨x,hx⟩:∃ x,x = Pl.pv sg k := ⟨_,rfl⟩
   rw [← hx] at hca
   have HX:=hide hx
   clear hx
   go_wp2_with fail
   refine (contains_any gs C r cr k _ (HG.out.keep HK.out.bel) hr).mono ?_
   rintro e w1 ⟨rfl,rfl⟩
   cases hc:gs.contains k with
   | true =>
     have HC:=hide hc
     clear hc
     go_wp2
     go_roundg (go - 1)
     case measure => have := HKG.out; omega
     case rel => exact ⟨k + 1,vS,vM,by have := HKG.out; omega,by go_num,by rw [shM_gone HC.out,shS_gone HC.out]; exact HK.out⟩
   | false =>
     have HC:=hide hc
     clear hc
     obtain ⟨i0,hi0,hz0,hz1,hz2⟩:=info_parts intInfo
     obtain ⟨e0,e1,e2,e3⟩:=box3 HK.out.box
     have hbig:=HK.out.big
     have hsl:=shS_len gs sg k
     obtain ⟨mb,mo,rfl,_⟩:=nats_at HMT.out (k := 4 * k) (by have := HQ.out; omega)
     have hq1:(4:Int) * (k:Int) + 4 ≤ (q:Int):=by have := HQ.out; omega
     have hq2:(4:Int) * (k:Int) + 4 ≤ (cq:Int):=by omega
     have hq3:(q:Int) ≤ (cq:Int):=by omega
     go_wp2_with (at_builtin; refine wpList_append_lies _ (by rfl) _ _ 22 (by rfl) (w.heap.size + 2) 3 i0 (.int .i64 0) 1 8 Try.underlying22 hi0 hz0 hz1 hz2 rfl (by omega) vS (shS gs sg k).length ((shS gs sg k).map (.int .i64)) (by rfl) (HK.out.s.alloc _) ⟨w1.heap.size,0,none⟩ 1 1 [.int .i64 x] (by rfl) (by rfl) (one_news w1 (.int .i64 x)) (by simp [Value.oneCell']) (by omega) (by unfold maxLen; omega) (by omega) (by simp; omega) (w1.heap.size + 1) (by simp) ?_; intro g2 c2 w2 own2 grow2 at2 lt2; obtain ⟨q0,q1,q2,q3⟩:=box3 (Row.grown (Row.alloc HK.out.box (.cells #[.int .i64 x] 3)) grow2 (row_apart (Row.alloc HK.out.box (.cells #[.int .i64 x] 3)) (World.ownsRow.alloc HK.out.s (.cells #[.int .i64 x] 3)))); have OWN2 := hide own2; have GR2 := hide grow2; have AT2 := hide at2; clear own2 grow2 at2)
     have H3:=hide (Shk.appS (HK.out.alloc (.cells #[.int .i64 x] 3)) OWN2.out GR2.out rfl (by simpa using AT2.out))
     clear q0 q1 q2 q3 e0 e1 e2 e3
     obtain ⟨vS',hvS'⟩:∃ v,v = Value.slice (some ⟨g2,0,none⟩) ((shS gs sg k).length + 1) c2 := ⟨_,rfl⟩
     rw [← hvS'] at H3
     rw [HX.out,show Pl.pv sg k = sg.getD k 0 from rfl,← shS_stay HC.out] at H3
     have HV:=hide hvS'
     clear hvS'
     rw [show 4 * k + 4 - 4 * k = 4 from by omega]
     go_loopg [40] 4 (fun g i wx => ∃ (j:Nat) (vN:Value),j + g = 4 ∧ i = .int .i64 j ∧ Shk w vS' vN (shS gs sg (k + 1)) (shM gs mt k ++ (Pl.four (fun h => Pl.shf gs (mt.getD h 0)) k).take j) lp wx)
     case atStart => exact ⟨0,vM,by omega,rfl,by rw [← HV.out]; simpa using H3.out⟩
     case round =>
      clear H3
      obtain ⟨j,vN,hjg,rfl,hj⟩:=hrel
      have HJG:=hide hjg
      have hj4:j ≤ 4:=by omega
      have HJ:=hide hj
      clear hjg hj
      by_cases hlj:j < 4
      ·obtain ⟨mb',mo',e',hcm⟩:=nats_at (HMT.out.keep HJ.out.bel) (k := 4 * k + j) (by have := HQ.out; omega)
       injection e' with e'
       injection e' with e1' e2'
       subst e1'
       subst e2'
       obtain ⟨y,hy⟩:∃ y,y = mt.getD (4 * k + j) 0 := ⟨_,rfl⟩
       have hy1:=hmt (4 * k + j)
       rw [← hy,← Nat.add_assoc] at hcm
       rw [← hy] at hy1
       have HY:=hide hy
       clear hy
       obtain ⟨e0,e1,e2,e3⟩:=box3 HJ.out.box
       have hml:=shM_len gs mt k
       have htl:((Pl.four (fun h => Pl.shf gs (mt.getD h 0)) k).take j).length ≤ 4:=by have := List.length_take_le j (Pl.four (fun h => Pl.shf gs (mt.getD h 0)) k); omega
       have hll:(shM gs mt k ++ (Pl.four (fun h => Pl.shf gs (mt.getD h 0)) k).take j).length ≤ 404:=by rw [List.length_append]; omega
       obtain ⟨l,hl⟩:∃ l,l = shM gs mt k ++ (Pl.four (fun h => Pl.shf gs (mt.getD h 0)) k).take j := ⟨_,rfl⟩
       rw [← hl] at hll HJ
       have HL:=hide hl
       clear hl hml htl
       have hbig2:=HJ.out.big
       go_wp2_with fail
       have P1:∀ u ∈ [Value.int .i64 (Pl.shf gs y:Nat)],u.oneCell' = true:=by simp [Value.oneCell']
       have P2:l.length + 1 ≤ maxLen:=by unfold maxLen; omega
       have P3:(l.length + 1) * 8 ≤ 140737488355328:=by omega
       have P4:w.heap.size + 2 ≤ (wr.alloc (.cells #[.int .i64 (Pl.shf gs y:Nat)] 3)).drew.heap.size:=by simp; omega
       have P5:(wr.alloc (.cells #[.int .i64 (Pl.shf gs y:Nat)] 3)).drew.heap.size = wr.heap.size + 1:=by simp
       have PP:=hide P1
       have P5H:=hide P5
       have KB:=hide (show Row (wr.alloc (.cells #[.int .i64 (Pl.shf gs y:Nat)] 3)).drew (w.heap.size + 1) 24 [vS',vN,.int .i64 lp] from Row.drew (Row.alloc HJ.out.box _))
       have KM:=hide (show (wr.alloc (.cells #[.int .i64 (Pl.shf gs y:Nat)] 3)).drew.ownsRow (w.heap.size + 2) 3 1 vN l.length (l.map (fun k:Nat => Value.int .i64 k)) from ((HJ.out.m.alloc _).drew))
       clear P1 P5
       have HGd:IntsAt wr.drew C r (nats gs):=IntsAt.drew (HG.out.keep HJ.out.bel)
       obtain ⟨_,kb1,_,kb3⟩:=box3 KB.out
       go_region_law
        (first
          | (refine step_append_lies _ ?_ (.tmp 45) (.tmp 49) 22 ?_ (w.heap.size + 2) 3 i0 (.int .i64 0) 1 8 Try.underlying22 hi0 hz0 hz1 hz2 rfl Nat.zero_lt_one vN l.length (l.map (fun k : Nat => Value.int .i64 k)) ?_ KM.out ⟨wr.heap.size, 0, none⟩ 1 1 [.int .i64 (Pl.shf gs y : Nat)] ?_ rfl (World.news_of_block (cs := #[.int .i64 (Pl.shf gs y : Nat)]) (t := 3) (fr := (0, 0)) (heap_alloc_new wr _)) PP.out Nat.zero_lt_one P2 P3 P4 (wr.heap.size + 1) P5H.out ?_
             ·rfl
             ·rfl
             ·rfl
             ·rfl
             intro g3 c3 w3 own3 grow3 at3 lt3
             obtain ⟨q0,q1,q2,q3⟩:=box3 (KB.out.grown grow3 (row_apart KB.out KM.out))
             have OWN3:=hide own3
             have GR3:=hide grow3
             have AT3:=hide at3
             clear own3 grow3 at3 q0 q2)
          | (go_simp
             go_wp2_with ((go_at_call 83); refine Calls.mono (shifted_any gs C r cr y _ ?_ (by omega) (by omega) hf) ?_; (focus (exact HGd)); rintro e w5 ⟨rfl,rfl⟩)))
       all_goals
        go_wp2
        go_roundg (gk - 1)
        case measure => have := HJG.out; omega
        case rel =>
         refine ⟨j + 1,.slice (some ⟨g3,0,none⟩) (l.length + 1) c3,by have := HJG.out; omega,by go_num,?_⟩
         have hh:=Shk.appM (x := Pl.shf gs y) (Shk.below (HJ.out.alloc (.cells #[.int .i64 (Pl.shf gs y:Nat)] 3)) ((Below.refl _ _).drew)) OWN3.out GR3.out rfl (by simpa using AT3.out)
         rw [HL.out,HY.out,List.append_assoc,← four_take (f := fun h => Pl.shf gs (mt.getD h 0)) k hlj,← HL.out] at hh
         exact hh
      ·have hj44:j = 4:=by omega
       subst hj44
       go_wp2
       go_roundg (go - 1)
       case measure => have := HKG.out; omega
       case rel =>
        refine ⟨k + 1,vS',vN,by have := HKG.out; omega,by go_num,?_⟩
        rw [shM_stay HC.out]
        exact HJ.out
  ·obtain ⟨A2,c2,rfl⟩:=owns_slice HK.out.s
   obtain ⟨A3,c3,rfl⟩:=owns_slice HK.out.m
   obtain ⟨e0,e1,e2,e3⟩:=box3 HK.out.box
   obtain ⟨f0,f1,f2,f3⟩:=box3 HK.out.res
   have HFIN:=hide (shr_fin HK.out)
   obtain rfl:k = n := by omega
   go_wp2
   refine bodyPost_ret (v := .agg #[.slice A2 (shS gs sg k).length c2,.slice A3 (shM gs mt k).length c3,.int .i64 lp]) ?_ rfl ?_
   ·obtain ⟨r0,r1,r2⟩:=HFIN.out
    simp [results,Try.results84,go_sem,r0,r1,r2]
   ·have e1:shS gs sg k = Pl.shrS gs sg:=by unfold shS Pl.shrS; rw [HLS.out]
    have e2:shM gs mt k = Pl.shrM gs sg.length mt:=by unfold shM Pl.shrM; rw [HLS.out]
    refine ⟨.slice A2 (shS gs sg k).length c2,.slice A3 (shM gs mt k).length c3,rfl,?_,?_,?_⟩
    ·rw [← Pl.shrS_len,← e1]
     exact ownsRow_setCell_below (ownsRow_setCell_below (ownsRow_setCell_below HK.out.s (by simp) _) (by simp) _) (by simp) _
    ·rw [← Pl.shrM_len gs sg.length mt,← e2]
     exact ownsRow_setCell_below (ownsRow_setCell_below (ownsRow_setCell_below HK.out.m (by simp) _) (by simp) _) (by simp) _
    ·exact ((HK.out.bel.setCell (by simp) _).setCell (by simp) _).setCell (by simp) _
end Go.Proofs.Ytghdiolnonejaaa
end
section
namespace Go.Proofs.Ytghdiolnonejaaa
open Go Go.RowKit
structure UC (w:World) (gi:Nat) (x0 x1 x2 y0 y1 y2 y3 y4:Value) (W:World):Prop where
 d:Row W w.heap.size 24 [x0,x1,x2]
 i:Row W gi 37 [y0,y1,y2,y3,y4]
 rd:∃ vs,Row W (w.heap.size + 1 + 1) 24 vs ∧ vs.length = 3
 rm:∃ us,Row W (w.heap.size + 1 + 1 + 1) 37 us ∧ us.length = 5
 bel:Below w.heap.size w W
 lo:w.heap.size + 1 + 1 + 1 < gi
section
variable {w:World} {gi:Nat} {x0 x1 x2 y0 y1 y2 y3 y4:Value} {W W':World}
theorem UC.drew (h:UC w gi x0 x1 x2 y0 y1 y2 y3 y4 W):UC w gi x0 x1 x2 y0 y1 y2 y3 y4 W.drew := ⟨h.d,h.i,h.rd,h.rm,h.bel.drew,h.lo⟩
theorem UC.below (h:UC w gi x0 x1 x2 y0 y1 y2 y3 y4 W) (hb:Below W.heap.size W W'):UC w gi x0 x1 x2 y0 y1 y2 y3 y4 W' :=
 let ⟨vs,r1,l1⟩:=h.rd
 let ⟨us,r2,l2⟩:=h.rm
 ⟨h.d.below hb,h.i.below hb,⟨vs,r1.below hb,l1⟩,⟨us,r2.below hb,l2⟩,h.bel.trans (hb.mono h.bel.size),h.lo⟩
theorem UC.alloc (h:UC w gi x0 x1 x2 y0 y1 y2 y3 y4 W) (o:Obj):UC w gi x0 x1 x2 y0 y1 y2 y3 y4 (W.alloc o) := h.below ((Below.refl _ _).alloc (Nat.le_refl _) o)
theorem UC.setD (h:UC w gi x0 x1 x2 y0 y1 y2 y3 y4 W) (o:Nat) (v:Value):UC w gi x0 x1 x2 y0 y1 y2 y3 y4 (W.setCell ⟨w.heap.size + 1 + 1,o,none⟩ v) :=
 let ⟨vs,r1,l1⟩:=h.rd
 let ⟨us,r2,l2⟩:=h.rm
 have hl:=h.lo
 ⟨h.d.other (by show _ ≠ w.heap.size + 1 + 1; omega) v,h.i.other (by show _ ≠ w.heap.size + 1 + 1; omega) v,⟨vs.set o v,r1.set o v,by rw [List.length_set,l1]⟩,⟨us,r2.other (by show _ ≠ w.heap.size + 1 + 1; omega) v,l2⟩,h.bel.setCell (by show _ ≤ w.heap.size + 1 + 1; omega) v,h.lo⟩
theorem UC.setM (h:UC w gi x0 x1 x2 y0 y1 y2 y3 y4 W) (o:Nat) (v:Value):UC w gi x0 x1 x2 y0 y1 y2 y3 y4 (W.setCell ⟨w.heap.size + 1 + 1 + 1,o,none⟩ v) :=
 let ⟨vs,r1,l1⟩:=h.rd
 let ⟨us,r2,l2⟩:=h.rm
 have hl:=h.lo
 ⟨h.d.other (by show _ ≠ w.heap.size + 1 + 1 + 1; omega) v,h.i.other (by show _ ≠ w.heap.size + 1 + 1 + 1; omega) v,⟨vs,r1.other (by show _ ≠ w.heap.size + 1 + 1 + 1; omega) v,l1⟩,⟨us.set o v,r2.set o v,by rw [List.length_set,l2]⟩,h.bel.setCell (by show _ ≤ w.heap.size + 1 + 1 + 1; omega) v,h.lo⟩
theorem UC.all (h:UC w gi x0 x1 x2 y0 y1 y2 y3 y4 W):W.cell? ⟨w.heap.size,0,none⟩ = some x0 ∧ W.cell? ⟨gi,0,none⟩ = some y0 ∧ W.cell? ⟨gi,1,none⟩ = some y1 ∧ W.cell? ⟨gi,2,none⟩ = some y2 ∧ W.cell? ⟨gi,3,none⟩ = some y3 ∧ W.cell? ⟨gi,4,none⟩ = some y4 ∧
 W.cell? ⟨w.heap.size + 1 + 1,0,none⟩ = some (cv W ⟨w.heap.size + 1 + 1,0,none⟩) ∧ W.cell? ⟨w.heap.size + 1 + 1,1,none⟩ = some (cv W ⟨w.heap.size + 1 + 1,1,none⟩) ∧ W.cell? ⟨w.heap.size + 1 + 1,2,none⟩ = some (cv W ⟨w.heap.size + 1 + 1,2,none⟩) ∧
 W.cell? ⟨w.heap.size + 1 + 1 + 1,0,none⟩ = some (cv W ⟨w.heap.size + 1 + 1 + 1,0,none⟩) ∧ W.cell? ⟨w.heap.size + 1 + 1 + 1,1,none⟩ = some (cv W ⟨w.heap.size + 1 + 1 + 1,1,none⟩) ∧ W.cell? ⟨w.heap.size + 1 + 1 + 1,2,none⟩ = some (cv W ⟨w.heap.size + 1 + 1 + 1,2,none⟩) ∧ W.cell? ⟨w.heap.size + 1 + 1 + 1,3,none⟩ = some (cv W ⟨w.heap.size + 1 + 1 + 1,3,none⟩) ∧ W.cell? ⟨w.heap.size + 1 + 1 + 1,4,none⟩ = some (cv W ⟨w.heap.size + 1 + 1 + 1,4,none⟩) ∧
 (∀ o,W.frozen? ⟨w.heap.size + 1 + 1,o,none⟩ = false) ∧ (∀ o,W.frozen? ⟨w.heap.size + 1 + 1 + 1,o,none⟩ = false) ∧ UC w gi x0 x1 x2 y0 y1 y2 y3 y4 W := by
 obtain ⟨vs,r1,l1⟩:=h.rd
 obtain ⟨us,r2,l2⟩:=h.rm
 obtain ⟨d0,_,_,_⟩:=box3 h.d
 obtain ⟨i0,i1,i2,i3,i4,_⟩:=box5 h.i
 exact ⟨d0,i0,i1,i2,i3,i4,cv_some (r1.cell (i := 0) (by omega)),cv_some (r1.cell (i := 1) (by omega)),cv_some (r1.cell (i := 2) (by omega)),cv_some (r2.cell (i := 0) (by omega)),cv_some (r2.cell (i := 1) (by omega)),cv_some (r2.cell (i := 2) (by omega)),cv_some (r2.cell (i := 3) (by omega)),cv_some (r2.cell (i := 4) (by omega)),r1.free,r2.free,h⟩
end
theorem own_ints' {w:World} {base:Nat} {e:TypeId} {A:Option Addr} {n c:Nat} {zs:List Int} (h:w.ownsRow base e 1 (.slice A n c) n (zs.map (.int .i64))):IntsAt w A n zs := by
 have hl:=h.1
 rcases h.2 with ⟨h1,h2⟩ | ⟨g,cap,cur,h1,_⟩
 ·subst h2
  exact ⟨by simpa using hl,fun h => absurd h (by omega)⟩
 ·injection h1 with h1 _ h3
  subst h1
  exact own_ints h
theorem map_nats (l:List Nat):(nats l).map (Value.int .i64) = l.map (fun k:Nat => Value.int .i64 k) := by unfold nats; rw [List.map_map]; rfl
theorem getD_m {d:Pl.Dg} {k:Nat} (hk:k < d.mt.length):d.mt.getD k 0 = d.m k := by
 unfold Pl.Dg.m
 rw [List.getD_eq_getElem?_getD,List.getD_eq_getElem?_getD,List.getElem?_eq_getElem hk]; rfl
theorem getD_le {d:Pl.Dg} (hd:Pl.Wf d) (h:Nat):d.mt.getD h 0 ≤ 256 := by
 have hn:=hd.few
 have hl:=hd.len
 by_cases hh:h < d.mt.length
 ·rw [getD_m hh]
  have:=hd.lt h (by omega)
  omega
 ·rw [List.getD_eq_getElem?_getD,List.getElem?_eq_none (by omega)]
  exact Nat.zero_le _
theorem set_le {l:List Nat} {N a b:Nat} (h:∀ k,l.getD k 0 ≤ N) (hb:b ≤ N):∀ k,(l.set a b).getD k 0 ≤ N := by
 intro k
 have hk:=h k
 rw [List.getD_eq_getElem?_getD] at hk ⊢
 rw [List.getElem?_set]
 split
 ·split
  ·simpa using hb
  ·simp
 ·exact hk
theorem jn_le {l:List Nat} {N a b:Nat} (h:∀ k,l.getD k 0 ≤ N) (ha:a ≤ N) (hb:b ≤ N):∀ k,(jn l a b).getD k 0 ≤ N := set_le (set_le h hb) ha
def kA (d:Pl.Dg) (c:Nat):Nat := Pl.tn (kk d c) 2
def kB (d:Pl.Dg) (c:Nat):Nat := Pl.tn (d.m (kk d c)) 2
def uncC (d:Pl.Dg) (c:Nat):Int := if d.m (kk d c) / 4 = c then (if d.m (kA d c) = kB d c then (if 64 < d.lp + 1 then 5 else 0) else 0) else 6
def unM (d:Pl.Dg) (c:Nat):List Nat := if d.m (kA d c) = kB d c then d.mt else jn d.mt (d.m (kA d c)) (d.m (kB d c))
def unD (d:Pl.Dg) (c:Nat):Pl.Dg := ⟨Pl.shrS [c] d.sg,Pl.shrM [c] d.n (unM d c),if d.m (kA d c) = kB d c then d.lp + 1 else d.lp⟩
def unI (d:Pl.Dg) (c:Nat):Mv := ⟨1,if d.m (kA d c) = kB d c then -1 else (Pl.shf [c] (d.m (kA d c)):Nat),0,d.s c,decide (kA d c % 2 = 1)⟩
def UncPost (d:Pl.Dg) (c:Nat) (w:World) (e:Ending) (w':World):Prop := (uncC d c ≠ 0 → ResErr (uncC d c) e) ∧ (uncC d c = 0 → ResOk (unD d c) (unI d c) e w') ∧ Below w.heap.size w w'
theorem kk_lt {d:Pl.Dg} {c:Nat} (hc:c < d.n):kk d c < 4 * d.n := by unfold kk; split <;> (try split) <;> omega
theorem kA_lt {d:Pl.Dg} {c:Nat} (hc:c < d.n):kA d c < 4 * d.n := Pl.tn_lt (kk_lt hc)
theorem kB_lt {d:Pl.Dg} (hd:Pl.Wf d) {c:Nat} (hc:c < d.n):kB d c < 4 * d.n := Pl.tn_lt (hd.lt _ (kk_lt hc))
theorem shrunk_sl (gs:List Nat) (sg:List Int) (mt:List Nat) (lp:Int) (A B C:Option Addr) (n q r cp cq cr:Nat) (w:World) (hs:IntsAt w A n sg) (hm:IntsAt w B q (nats mt)) (hg:IntsAt w C r (nats gs)) (hf:Pl.Few gs)
 (hq:q = 4 * n) (hcq:q ≤ cq) (hcq2:cq ≤ maxLen) (hn:n ≤ 100) (hr:1 ≤ r ∧ r ≤ 100) (hmt:∀ h,mt.getD h 0 ≤ 1000) :
 Calls Try.prog 84 #[.slice A n cp,.slice B q cq,.int .i64 lp,.slice C r cr] w fun e w' => ∃ (A7 A8:Option Addr) (c7 c8:Nat),e = .returned (.agg #[.slice A7 (Pl.left sg.length gs).length c7,.slice A8 (4 * (Pl.left sg.length gs).length) c8,.int .i64 lp]) ∧
  w'.ownsRow (w.heap.size + 2) 3 1 (.slice A7 (Pl.left sg.length gs).length c7) (Pl.left sg.length gs).length ((Pl.shrS gs sg).map (.int .i64)) ∧ w'.ownsRow (w.heap.size + 2) 3 1 (.slice A8 (4 * (Pl.left sg.length gs).length) c8) (4 * (Pl.left sg.length gs).length) ((Pl.shrM gs sg.length mt).map (fun k:Nat => Value.int .i64 k)) ∧ Below w.heap.size w w' := by
 refine (shrunk_any gs sg mt lp A B C n q r cp cq cr w hs hm hg hf hq hcq hcq2 hn hr hmt).mono ?_
 rintro e w' ⟨vS,vM,rfl,o1,o2,hb⟩
 obtain ⟨A7,c7,rfl⟩:=owns_slice o1
 obtain ⟨A8,c8,rfl⟩:=owns_slice o2
 exact ⟨A7,A8,c7,c8,rfl,o1,o2,hb⟩
def W4 (w:World) (x0 x1 x2 y0 y1 y2 y3 y4:Value):World := ((((w.alloc (.cells #[x0,x1,x2] 24)).alloc (.cells #[y0,y1,y2,y3,y4] 37)).alloc (.cells #[.slice none 0 0,.slice none 0 0,.int .i64 0] 24)).alloc (.cells #[.int .i64 0,.int .i64 0,.int .i64 0,.int .i64 0,.bool false] 37))
theorem row_at {W:World} {t:TypeId} {vs:List Value} {g:Nat} (h:g = W.heap.size):Row (W.alloc (.cells vs.toArray t)) g t vs := by subst h; exact Row.new W t vs
theorem boxes4 (w:World) (x0 x1 x2 y0 y1 y2 y3 y4:Value) :
 Row (W4 w x0 x1 x2 y0 y1 y2 y3 y4) w.heap.size 24 [x0,x1,x2] ∧ Row (W4 w x0 x1 x2 y0 y1 y2 y3 y4) (w.heap.size + 1) 37 [y0,y1,y2,y3,y4] ∧ Row (W4 w x0 x1 x2 y0 y1 y2 y3 y4) (w.heap.size + 1 + 1) 24 [.slice none 0 0,.slice none 0 0,.int .i64 0] ∧
 Row (W4 w x0 x1 x2 y0 y1 y2 y3 y4) (w.heap.size + 1 + 1 + 1) 37 [.int .i64 0,.int .i64 0,.int .i64 0,.int .i64 0,.bool false] ∧ Below w.heap.size w (W4 w x0 x1 x2 y0 y1 y2 y3 y4) ∧ (W4 w x0 x1 x2 y0 y1 y2 y3 y4).heap.size = w.heap.size + 4 := by
 unfold W4
 refine ⟨(((row_at (vs := [x0,x1,x2]) rfl).alloc _).alloc _).alloc _,((row_at (vs := [y0,y1,y2,y3,y4]) (by simp)).alloc _).alloc _,(row_at (vs := [.slice none 0 0,.slice none 0 0,.int .i64 0]) (by simp)).alloc _,row_at (vs := [.int .i64 0,.int .i64 0,.int .i64 0,.int .i64 0,.bool false]) (by simp),?_,by simp⟩
 exact ((((Below.refl _ _).alloc (Nat.le_refl _) _).alloc (by simp) _).alloc (by simp; omega) _).alloc (by simp; omega) _
end Go.Proofs.Ytghdiolnonejaaa
end
section
namespace Go.Proofs.Ytghdiolnonejaaa
open Go Go.RowKit
def fv1 (k:Nat) (c:Value):Value := .func (.func k) #[] #[c]
theorem own_one (W:World) (x:Value):(W.alloc (.cells #[x] 3)).ownsRow W.heap.size 3 1 (.slice (some ⟨W.heap.size,0,none⟩) 1 1) 1 [x] :=
 ⟨rfl,.inr ⟨W.heap.size,1,#[x],rfl,Nat.le_refl _,heap_alloc_new W _,Nat.le_refl _,by unfold maxLen; omega,rfl,rfl⟩⟩
theorem it_lt {f:Nat → Nat} {N:Nat} (hf:∀ x,x < N → f x < N) {h:Nat} (hh:h < N):∀ k,Pl.it f k h < N
 | 0 => hh
 | k + 1 => hf _ (it_lt hf hh k)
end Go.Proofs.Ytghdiolnonejaaa
end
section
namespace Go.Proofs.Ytghdiolnonejaaa
open Go Go.RowKit
theorem RowT.store {w:World} {t t':TypeId} {A:Option Addr} {n:Nat} {xs:List Value} {g i:Nat} {vs:List Value} (h:RowT w t A n xs) (hr:Row w g t' vs) (hne:t ≠ t') (v:Value):RowT (w.setCell ⟨g,i,none⟩ v) t A n xs :=
 ⟨h.1, fun hn => let ⟨b, o, cs, fr, e, hb, hc⟩ := h.2 hn; ⟨b, o, cs, fr, e, (Below.heap_setCell w _ v b (fun he => by
   have hr':=hr
   unfold Row at hr'
   have he':b = g:=he
   rw [he',hr'] at hb
   injection hb with hb
   injection hb with _ h4
   exact hne h4.symm)).trans hb,hc⟩⟩
theorem own_rowT {w:World} {base:Nat} {t:TypeId} {A:Option Addr} {n c:Nat} {xs:List Value} (h:w.ownsRow base t 1 (.slice A n c) n xs):RowT w t A n xs := by
 refine ⟨by simpa using h.1,fun hn => ?_⟩
 rcases h.2 with ⟨_,h2⟩ | ⟨g,cap,cur,h1,_,h3,_,_,_,h5⟩
 ·omega
 ·injection h1 with h1 _ _
  refine ⟨g,0,cur,(0,0),h1,h3,fun j u hu => ?_⟩
  rw [Nat.zero_add]
  have hj:j < n:=by
   have:=(List.getElem?_eq_some_iff.1 hu).1
   have:=h.1
   omega
  rw [← h5,List.getElem?_take,if_pos (by omega)] at hu
  rw [← hu]
  simp
def FaceAt (w:World) (v:Value) (l:List Nat):Prop := ∃ A c,v = .slice A l.length c ∧ RowT w 3 A l.length (l.map (fun k:Nat => Value.int .i64 k))
def Vs (w:World) (vs:List Value) (fs:List (List Nat)):Prop := vs.length = fs.length ∧ ∀ (i:Nat) l,fs[i]? = some l → ∃ v,vs[i]? = some v ∧ FaceAt w v l
theorem Vs.below {w w':World} {vs:List Value} {fs:List (List Nat)} (h:Vs w vs fs) (hb:Below w.heap.size w w'):Vs w' vs fs :=
 ⟨h.1,fun i l e => let ⟨v,h1,A,c,h2,h3⟩:=h.2 i l e; ⟨v,h1,A,c,h2,h3.keep hb⟩⟩
theorem Vs.grown {w w':World} {vs:List Value} {fs:List (List Nat)} {row:Option Nat} {t':TypeId} (h:Vs w vs fs) (hg:w.grownBy w' row) (hr:∀ g,row = some g → ∃ cs fr,w.heap[g]? = some (.cells cs t' fr)) (hne:3 ≠ t'):Vs w' vs fs :=
 ⟨h.1,fun i l e => let ⟨v,h1,A,c,h2,h3⟩:=h.2 i l e; ⟨v,h1,A,c,h2,h3.grown hg hr hne⟩⟩
theorem Vs.add {w:World} {vs:List Value} {fs:List (List Nat)} {v:Value} {l:List Nat} (h:Vs w vs fs) (hv:FaceAt w v l):Vs w (vs ++ [v]) (fs ++ [l]) := by
 refine ⟨by simp [h.1],fun i m e => ?_⟩
 rw [List.getElem?_append] at e ⊢
 by_cases hi:i < fs.length
 ·rw [if_pos hi] at e
  rw [if_pos (by rw [h.1]; exact hi)]
  exact h.2 i m e
 ·rw [if_neg hi] at e
  rw [if_neg (by rw [h.1]; exact hi),h.1]
  have h1:=(List.getElem?_eq_some_iff.1 e).1
  simp only [List.length_singleton] at h1
  have h0:i - fs.length = 0:=by omega
  rw [h0] at e ⊢
  simp only [List.getElem?_cons_zero,Option.some.injEq] at e
  subst e
  exact ⟨v,rfl,hv⟩
theorem Vs.nil (w:World):Vs w [] [] := ⟨rfl,fun i l e => by simp at e⟩
theorem FaceAt.below {w w':World} {v:Value} {l:List Nat} (h:FaceAt w v l) (hb:Below w.heap.size w w'):FaceAt w' v l := let ⟨A,c,h2,h3⟩:=h; ⟨A,c,h2,h3.keep hb⟩
theorem FaceAt.grown {w w':World} {v:Value} {l:List Nat} {row:Option Nat} {t':TypeId} (h:FaceAt w v l) (hg:w.grownBy w' row) (hr:∀ g,row = some g → ∃ cs fr,w.heap[g]? = some (.cells cs t' fr)) (hne:3 ≠ t'):FaceAt w' v l := let ⟨A,c,h2,h3⟩:=h; ⟨A,c,h2,h3.grown hg hr hne⟩
theorem FaceAt.ints {w:World} {A:Option Addr} {n c:Nat} {l:List Nat} (h:FaceAt w (.slice A n c) l):n = l.length ∧ IntsAt w A n (nats l) := by
 obtain ⟨A',c',h1,h2⟩:=h
 injection h1 with h1 h3 h4
 subst h1 h3
 refine ⟨rfl,?_⟩
 unfold IntsAt
 rw [map_nats]
 exact h2.row
theorem rowInfo:(Try.prog.info? 22).map (fun i => (i.zero,i.size,i.bytes)) = some (some (.slice none 0 0),1,24) := by kernel_rfl
end Go.Proofs.Ytghdiolnonejaaa
end
section
namespace Go.Proofs.Ytghdiolnonejaaa
open Go Go.RowKit
theorem mk_self (d:Pl.Dg):Pl.mk d.sg (nats d.mt) d.lp = d := by
 unfold Pl.mk nats
 rw [List.map_map]
 have:(Int.toNat ∘ fun m:Nat => (m:Int)) = id:=by funext x; rfl
 rw [this,List.map_id]
 rfl
theorem vl_of {d:Pl.Dg}:Pl.VL d.sg (nats d.mt) d.lp ↔ Pl.Valid d := by
 constructor
 ·intro h; have := h.1; rwa [mk_self] at this
 ·intro h; exact ⟨by rw [mk_self]; exact h,fun z hz => by unfold nats at hz; obtain ⟨m,_,rfl⟩:=List.mem_map.1 hz; omega,by omega⟩
theorem valid_yes (d:Pl.Dg) (hd:Pl.Valid d) (A B:Option Addr) (cp cq m:Nat) (w:World) (hm:m = 4 * d.n) (hg:DgAt w A B d) :
 Calls Try.prog 21 #[.agg #[.slice A d.n cp,.slice B m cq,.int .i64 d.lp]] w fun e w' => e = .returned (.bool true) ∧ Below w.heap.size w w' := by
 have hn:=hd.wf.few
 have hl:=hd.wf.lp
 refine (valid_any d.sg (nats d.mt) d.lp A B d.n m cp cq w hg.s (by rw [hm]; exact hg.m) (by unfold maxLen; omega) (by unfold maxLen; omega) (by omega)).mono ?_
 rintro e w' ⟨h1,h2⟩
 rw [Pl.vb_true (vl_of.2 hd)] at h1
 exact ⟨h1,h2⟩
end Go.Proofs.Ytghdiolnonejaaa
end
section
namespace Go.Proofs.Ytghdiolnonejaaa
open Go Go.RowKit
def DC (w:World) (dv:List Value) (w':World):Prop := Row w' w.heap.size 24 dv ∧ Below w.heap.size w w'
end Go.Proofs.Ytghdiolnonejaaa
end
section
namespace Go.Proofs.Ytghdiolnonejaaa
open Go Go.RowKit
theorem next_i (d:Pl.Dg) (hd:Pl.Wf d) (B:Option Addr) (cq m:Nat) (h:Int) (w:World) (e:m = 4 * d.n) (hh:0 ≤ h ∧ h < (m:Int)) (hm:IntsAt w B m (nats d.mt)) :
 Calls Try.prog 96 #[.slice B m cq,.int .i64 h] w fun e w' => e = .returned (.int .i64 (Pl.nx d h.toNat:Nat)) ∧ w' = w := by
 subst e
 obtain ⟨k,rfl⟩:=Int.eq_ofNat_of_zero_le hh.1
 have hk:k < 4 * d.n:=by omega
 refine (next_any d B cq k w hk (by have := hd.few; omega) hm (hd.lt k hk)).mono ?_
 rintro e w' ⟨rfl,rfl⟩
 exact ⟨rfl,rfl⟩
def lnH (x y i:Nat):Nat := if i < 4 then 4 * x + i else 4 * y + i - 4
def lnO (x y i:Nat):Nat := if i < 4 then y else x
def isL (d:Pl.Dg) (x y i:Nat):Prop := Pl.nx d (lnH x y i) / 4 = lnO x y i ∧ Pl.nx d (Pl.nx d (lnH x y i)) = lnH x y i ∧ lnH x y i % 2 = d.m (lnH x y i) % 2
instance (d:Pl.Dg) (x y i:Nat):Decidable (isL d x y i) := by unfold isL; infer_instance
def lensI (d:Pl.Dg) (x y:Nat):Option Nat := (List.range 8).find? (fun i => decide (isL d x y i))
def lensV (d:Pl.Dg) (h:Nat):Value :=
 .agg #[.int .i64 (h:Int),.int .i64 (d.m (Pl.nx d h):Int),.int .i64 (Pl.tn h 2:Int),.int .i64 (Pl.tn (d.m (Pl.nx d h)) 2:Int),.int .i64 (Pl.tn (d.m h) 2:Int),.int .i64 (Pl.nx d h:Int),.int .i64 (d.m h:Int),.int .i64 (Pl.tn (Pl.nx d h) 2:Int)]
def noLens:Value := .agg #[.int .i64 0,.int .i64 0,.int .i64 0,.int .i64 0,.int .i64 0,.int .i64 0,.int .i64 0,.int .i64 0]
def findE (d:Pl.Dg) (x y:Nat):Option Nat → Ending
 | some i => .returned (.tuple #[lensV d (lnH x y i),.bool true])
 | none => .returned (.tuple #[noLens,.bool false])
def FindPost (d:Pl.Dg) (x y:Nat) (w:World) (e:Ending) (w':World):Prop := e = findE d x y (lensI d x y) ∧ Below w.heap.size w w'
theorem find_some {p:Nat → Bool} {k:Nat}:∀ n,k < n → p k = true → (∀ j,j < k → p j = false) → (List.range n).find? p = some k := by
 intro n
 induction n with
 | zero => intro h; omega
 | succ n ih =>
   intro hk hp hn
   rw [List.range_succ,List.find?_append]
   rcases Nat.lt_or_ge k n with h | h
   ·rw [ih h hp hn]; rfl
   ·have:k = n:=by omega
    subst this
    have h0:(List.range k).find? p = none:=by
     rw [List.find?_eq_none]
     intro x hx
     rw [hn x (List.mem_range.1 hx)]; decide
    rw [h0]
    simp [hp]
theorem find_none {p:Nat → Bool} {n:Nat} (hn:∀ j,j < n → p j = false):(List.range n).find? p = none := by
 rw [List.find?_eq_none]
 intro x hx
 rw [hn x (List.mem_range.1 hx)]; decide
theorem lens_at {d:Pl.Dg} {x y k:Nat} (hk:k < 8) (hp:isL d x y k) (hn:∀ j,j < k → ¬ isL d x y j):lensI d x y = some k :=
 find_some 8 hk (by simpa using hp) (fun j hj => by simpa using hn j hj)
theorem lens_no {d:Pl.Dg} {x y:Nat} (hn:∀ j,j < 8 → ¬ isL d x y j):lensI d x y = none := find_none (fun j hj => by simpa using hn j hj)
theorem find_more {p:Nat → Prop} {k:Nat} (h:∀ j,j < k → ¬ p j) (hk:¬ p k):∀ j,j < k + 1 → ¬ p j := fun j hj => by
 rcases Nat.lt_or_ge j k with h1 | h1
 ·exact h j h1
 ·have:j = k:=by omega
  subst this; exact hk
theorem row8 {W:World} {g:Nat} {t:TypeId} {vs:List Value} (h:Row W g t vs) (l:vs.length = 8) (y0 y1 y2 y3 y4 y5 y6 y7:Value) :
 Row ((((((((W.setCell ⟨g,0,none⟩ y0).setCell ⟨g,1,none⟩ y1).setCell ⟨g,2,none⟩ y2).setCell ⟨g,3,none⟩ y3).setCell ⟨g,4,none⟩ y4).setCell ⟨g,5,none⟩ y5).setCell ⟨g,6,none⟩ y6).setCell ⟨g,7,none⟩ y7) g t [y0,y1,y2,y3,y4,y5,y6,y7] := by
 obtain ⟨a,b,c,d,e,f,g',h',rfl⟩:∃ a b c d e f g h,vs = [a,b,c,d,e,f,g,h] := by
  match vs,l with
  | [a,b,c,d,e,f,g,h],_ => exact ⟨a,b,c,d,e,f,g,h,rfl⟩
 exact (((((((h.set 0 y0).set 1 y1).set 2 y2).set 3 y3).set 4 y4).set 5 y5).set 6 y6).set 7 y7
theorem box8 {W:World} {g:Nat} {t:TypeId} {a b c d e f p q:Value} (h:Row W g t [a,b,c,d,e,f,p,q]):W.cell? ⟨g,0,none⟩ = some a ∧ W.cell? ⟨g,1,none⟩ = some b ∧ W.cell? ⟨g,2,none⟩ = some c ∧ W.cell? ⟨g,3,none⟩ = some d ∧ W.cell? ⟨g,4,none⟩ = some e ∧ W.cell? ⟨g,5,none⟩ = some f ∧ W.cell? ⟨g,6,none⟩ = some p ∧ W.cell? ⟨g,7,none⟩ = some q ∧ ∀ o,W.frozen? ⟨g,o,none⟩ = false :=
 ⟨h.cell (i := 0) (by simp),h.cell (i := 1) (by simp),h.cell (i := 2) (by simp),h.cell (i := 3) (by simp),h.cell (i := 4) (by simp),h.cell (i := 5) (by simp),h.cell (i := 6) (by simp),h.cell (i := 7) (by simp),h.free⟩
theorem below_set8 {w W:World} {g:Nat} (h:Below w.heap.size w W) (hg:w.heap.size ≤ g) (y0 y1 y2 y3 y4 y5 y6 y7:Value) :
 Below w.heap.size w ((((((((W.setCell ⟨g,0,none⟩ y0).setCell ⟨g,1,none⟩ y1).setCell ⟨g,2,none⟩ y2).setCell ⟨g,3,none⟩ y3).setCell ⟨g,4,none⟩ y4).setCell ⟨g,5,none⟩ y5).setCell ⟨g,6,none⟩ y6).setCell ⟨g,7,none⟩ y7) :=
 (((((((h.setCell hg _).setCell hg _).setCell hg _).setCell hg _).setCell hg _).setCell hg _).setCell hg _).setCell hg _
set_option maxRecDepth 100000 in
set_option maxHeartbeats 4000000 in
theorem find_any (d:Pl.Dg) (hd:Pl.Wf d) (A B:Option Addr) (cp cq m x y:Nat) (w:World) (hm:m = 4 * d.n) (hg:DgAt w A B d) (hx:x < d.n) (hy:y < d.n) :
 Calls Try.prog 93 #[.agg #[.slice A d.n cp,.slice B m cq,.int .i64 d.lp],.int .i64 (x:Int),.int .i64 (y:Int)] w (FindPost d x y w) := by
 have hn:=hd.few
 have HM:=hide hm
 have HG:=hide hg
 have hm2:m ≤ 256:=by omega
 clear hm hg
 have X0:=hide (show Row ((w.alloc (.cells #[.slice A d.n cp,.slice B m cq,.int .i64 d.lp] 24)).alloc (.cells #[.int .i64 0,.int .i64 0,.int .i64 0,.int .i64 0,.int .i64 0,.int .i64 0,.int .i64 0,.int .i64 0] 101)) w.heap.size 24 [.slice A d.n cp,.slice B m cq,.int .i64 d.lp] from Row.alloc (Row.new w _ [_,_,_]) _)
 have R0:=hide (show Row ((w.alloc (.cells #[.slice A d.n cp,.slice B m cq,.int .i64 d.lp] 24)).alloc (.cells #[.int .i64 0,.int .i64 0,.int .i64 0,.int .i64 0,.int .i64 0,.int .i64 0,.int .i64 0,.int .i64 0] 101)) (w.heap.size + 1) 101 [.int .i64 0,.int .i64 0,.int .i64 0,.int .i64 0,.int .i64 0,.int .i64 0,.int .i64 0,.int .i64 0] from row_at (vs := [_,_,_,_,_,_,_,_]) (by simp))
 have B0:=hide (show Below w.heap.size w ((w.alloc (.cells #[.slice A d.n cp,.slice B m cq,.int .i64 d.lp] 24)).alloc (.cells #[.int .i64 0,.int .i64 0,.int .i64 0,.int .i64 0,.int .i64 0,.int .i64 0,.int .i64 0,.int .i64 0] 101)) from ((Below.refl _ _).alloc (Nat.le_refl _) _).alloc (by simp) _)
 go_enter Try.func93,Try.ntmps93
 go_wp2
 go_loopg [15] 8 (fun g i wx => ∃ k:Nat,k + g = 8 ∧ i = .int .i64 k ∧ (∀ j,j < k → ¬ isL d x y j) ∧ Below w.heap.size w wx ∧ Row wx w.heap.size 24 [.slice A d.n cp,.slice B m cq,.int .i64 d.lp] ∧ Row wx (w.heap.size + 1) 101 [.int .i64 0,.int .i64 0,.int .i64 0,.int .i64 0,.int .i64 0,.int .i64 0,.int .i64 0,.int .i64 0])
 case atStart => exact ⟨0,rfl,rfl,fun j h => absurd h (by omega),B0.out,X0.out,R0.out⟩
 case round =>
  clear B0 X0 R0
  obtain ⟨k,hkg,rfl,hno,b1,x1,r1⟩:=hrel
  have HKG:=hide hkg
  have HNO:=hide hno
  have B1:=hide b1
  have X1:=hide x1
  have R1:=hide r1
  clear hno b1 x1 r1
  by_cases hk:k = 8
  ·subst hk
   clear hkg
   obtain ⟨p0,p1,p2,p3,p4,p5,p6,p7,p8⟩:=box8 R1.out
   go_wp2
   refine bodyPost_ret (v := .tuple #[noLens,.bool false]) ?_ rfl ?_
   ·obtain ⟨e0,e1,e2,e3,e4,e5,e6,e7,_⟩:=box8 (row8 R1.out rfl (.int .i64 0) (.int .i64 0) (.int .i64 0) (.int .i64 0) (.int .i64 0) (.int .i64 0) (.int .i64 0) (.int .i64 0))
    unfold noLens
    simp [results,Try.results93,go_sem,e0,e1,e2,e3,e4,e5,e6,e7]
   ·refine ⟨?_,below_set8 B1.out (by omega) _ _ _ _ _ _ _ _⟩
    rw [lens_no HNO.out]
    rfl
  ·have hk8:k < 8:=by omega
   have HK8:=hide hk8
   clear hkg hk
   obtain ⟨f0,f1,f2,f3⟩:=box3 X1.out
   go_upto_if 24 with fail
   go_cut [9,10] (fun s9 s10 wx => s9 = .int .i64 (lnH x y k:Nat) ∧ s10 = .int .i64 (lnO x y k:Nat) ∧ wx = wr)
   case first =>
    by_cases h4:k < 4
    ·have e1:((lnH x y k:Nat):Int) = 4 * (x:Int) + (k:Int):=by unfold lnH; rw [if_pos h4]; omega
     have e2:lnO x y k = y:=by unfold lnO; rw [if_pos h4]
     have E1:=hide e1
     have E2:=hide e2
     clear e1 e2
     go_wp2_with fail
     go_meet
     exact ⟨by rw [E1.out],by rw [E2.out],rfl⟩
    ·have e1:((lnH x y k:Nat):Int) = 4 * (y:Int) + (k:Int) - 4:=by unfold lnH; rw [if_neg h4]; omega
     have e2:lnO x y k = x:=by unfold lnO; rw [if_neg h4]
     have E1:=hide e1
     have E2:=hide e2
     clear e1 e2
     go_wp2_with fail
     go_meet
     exact ⟨by rw [E1.out],by rw [E2.out],rfl⟩
   case rest =>
    obtain ⟨rfl,rfl,rfl⟩:=hcut
    have hh:lnH x y k < 4 * d.n:=by unfold lnH; split <;> omega
    have ho:lnO x y k < d.n:=by unfold lnO; split <;> omega
    obtain ⟨h,hH⟩:∃ h,h = lnH x y k := ⟨_,rfl⟩
    obtain ⟨o,hO⟩:∃ o,o = lnO x y k := ⟨_,rfl⟩
    rw [← hH] at hh ⊢
    rw [← hO] at ho ⊢
    have HH:=hide hH
    have HO:=hide hO
    clear hH hO
    have hmh:h < m:=by have := HM.out; omega
    have ih0:(0:Int) ≤ (h:Int):=by omega
    have ih1:(h:Int) < (m:Int):=by omega
    have HGc:=hide (HG.out.keep B1.out)
    have HGM:=hide (show IntsAt wc B m (nats d.mt) by rw [HM.out]; exact HGc.out.m)
    obtain ⟨mb,mo,rfl,cm⟩:=mate_at HGc.out.m hh
    have hmm:=hd.lt h hh
    have hgg:Pl.nx d h < 4 * d.n:=Pl.tn_lt (hd.lt h hh)
    obtain ⟨u,hu⟩:∃ u,u = d.m h := ⟨_,rfl⟩
    rw [← hu] at cm hmm
    obtain ⟨g,hgx⟩:∃ g,g = Pl.nx d h := ⟨_,rfl⟩
    rw [← hgx] at hgg
    have HU:=hide hu
    have HGX:=hide hgx
    clear hu hgx
    have hg2:Pl.nx d g < 4 * d.n:=Pl.tn_lt (hd.lt g hgg)
    have hgm:g < m:=by have := HM.out; omega
    have ig0:(0:Int) ≤ (g:Int):=by omega
    have ig1:(g:Int) < (m:Int):=by omega
    go_wp2_with fail
    refine (next_i d hd (some ⟨mb,mo,none⟩) cq m (h:Int) _ HM.out (by omega) HGM.out).mono ?_
    rintro e w2 ⟨rfl,rfl⟩
    rw [Int.toNat_natCast,← HGX.out]
    have HL:=hide (show isL d x y k ↔ (g / 4 = o ∧ Pl.nx d g = h ∧ h % 2 = u % 2) by unfold isL; rw [← HH.out,← HO.out,← HGX.out,← HU.out])
    obtain ⟨v,hv⟩:∃ v,v = Pl.nx d g := ⟨_,rfl⟩
    have HV:=hide hv
    clear hv cm
    by_cases c1:g / 4 = o
    ·have t1:((g:Int) / 4 != (o:Int)) = false:=by rw [bne_eq_false_iff_eq]; omega
     have C1:=hide c1
     clear c1
     go_wp2_with fail
     refine (next_i d hd (some ⟨mb,mo,none⟩) cq m (g:Int) _ HM.out (by omega) HGM.out).mono ?_
     rintro e w3 ⟨rfl,rfl⟩
     rw [Int.toNat_natCast,← HV.out]
     by_cases c2:v = h
     ·have t2:((v:Int) != (h:Int)) = false:=by rw [bne_eq_false_iff_eq]; omega
      by_cases c3:h % 2 = u % 2
      ·have t3:((h:Int) % 2 != (u:Int) % 2) = false:=by rw [bne_eq_false_iff_eq]; omega
       have E:=hide (lens_at HK8.out (HL.out.2 ⟨C1.out,by rw [← HV.out]; exact c2,c3⟩) HNO.out)
       have C2:=hide c2
       clear c2 c3
       have HGn:=hide (HG.out.keep B1.out)
       obtain ⟨mb',mo',hmb',cn⟩:=mate_at HGn.out.m hgg
       injection hmb' with hmb'
       injection hmb' with hmb1 hmb2
       subst hmb1
       subst hmb2
       have hmg:=hd.lt g hgg
       obtain ⟨up,hup⟩:∃ up,up = d.m g := ⟨_,rfl⟩
       rw [← hup] at cn hmg
       have HUP:=hide hup
       clear hup
       obtain ⟨p0,p1,p2,p3,p4,p5,p6,p7,p8⟩:=box8 R1.out
       go_wp2_with fail
       refine (opp_i (h:Int) _ (by omega)).mono ?_
       rintro e w4 ⟨rfl,rfl⟩
       go_wp2_with fail
       refine (opp_i (up:Int) _ (by omega)).mono ?_
       rintro e w5 ⟨rfl,rfl⟩
       go_wp2_with fail
       refine (opp_i (u:Int) _ (by omega)).mono ?_
       rintro e w6 ⟨rfl,rfl⟩
       go_wp2_with fail
       refine (opp_i (g:Int) _ (by omega)).mono ?_
       rintro e w7 ⟨rfl,rfl⟩
       have hlt:=R1.out.lt
       go_wp2
       refine bodyPost_ret (v := .tuple #[lensV d h,.bool true]) ?_ rfl ?_
       ·obtain ⟨e0,e1,e2,e3,e4,e5,e6,e7,_⟩:=box8 ((row8 R1.out rfl (.int .i64 (h:Int)) (.int .i64 (up:Int)) (.int .i64 (Pl.tn h 2:Int)) (.int .i64 (Pl.tn up 2:Int)) (.int .i64 (Pl.tn u 2:Int)) (.int .i64 (g:Int)) (.int .i64 (u:Int)) (.int .i64 (Pl.tn g 2:Int))).alloc (.cells #[.int .i64 (h:Int),.int .i64 (up:Int),.int .i64 (Pl.tn h 2:Int),.int .i64 (Pl.tn up 2:Int),.int .i64 (Pl.tn u 2:Int),.int .i64 (g:Int),.int .i64 (u:Int),.int .i64 (Pl.tn g 2:Int)] 101))
        unfold lensV
        rw [← HGX.out,← HU.out,← HUP.out]
        simp [results,Try.results93,go_sem,e0,e1,e2,e3,e4,e5,e6,e7]
       ·refine ⟨?_,Below.alloc (below_set8 B1.out (by omega) _ _ _ _ _ _ _ _) (below_set8 B1.out (by omega) _ _ _ _ _ _ _ _).size _⟩
        rw [E.out]
        show _ = Ending.returned (.tuple #[lensV d (lnH x y k),.bool true])
        rw [← HH.out]
      ·have t3:((h:Int) % 2 != (u:Int) % 2) = true:=by rw [bne_iff_ne]; omega
       have E:=hide (show ¬ isL d x y k from fun h => c3 (HL.out.1 h).2.2)
       clear c2 c3
       go_wp2_with fail
       go_roundg (gk - 1)
       case measure => have := HKG.out; have := HK8.out; omega
       case rel => exact ⟨k + 1,by have := HKG.out; have := HK8.out; omega,by go_num,find_more HNO.out E.out,B1.out,X1.out,R1.out⟩
     ·have t2:((v:Int) != (h:Int)) = true:=by rw [bne_iff_ne]; omega
      have E:=hide (show ¬ isL d x y k from fun h => c2 (by rw [HV.out]; exact (HL.out.1 h).2.1))
      clear c2
      go_wp2_with fail
      go_roundg (gk - 1)
      case measure => have := HKG.out; have := HK8.out; omega
      case rel => exact ⟨k + 1,by have := HKG.out; have := HK8.out; omega,by go_num,find_more HNO.out E.out,B1.out,X1.out,R1.out⟩
    ·have t1:((g:Int) / 4 != (o:Int)) = true:=by rw [bne_iff_ne]; omega
     have E:=hide (show ¬ isL d x y k from fun h => c1 (HL.out.1 h).1)
     clear c1
     go_wp2_with fail
     go_roundg (gk - 1)
     case measure => have := HKG.out; have := HK8.out; omega
     case rel => exact ⟨k + 1,by have := HKG.out; have := HK8.out; omega,by go_num,find_more HNO.out E.out,B1.out,X1.out,R1.out⟩
end Go.Proofs.Ytghdiolnonejaaa
end
section
namespace Go.Proofs.Ytghdiolnonejaaa
open Go Go.RowKit
attribute [local go_sem ↓] Go.wp_at_zero Go.wp_at_succ
def eo (d:Pl.Dg) (o:Nat):Nat := if Pl.out d o = true then o else d.m o
def ei (d:Pl.Dg) (o:Nat):Nat := d.m (eo d o)
def isO (d:Pl.Dg) (o:Nat):Bool := eo d o % 2 == 1 && ei d o % 2 == 1
def isU (d:Pl.Dg) (o:Nat):Bool := eo d o % 2 == 0 && ei d o % 2 == 0
def th (d:Pl.Dg) (h k:Nat):Nat := if k = 0 then h else if k = 1 then Pl.nx d h else Pl.nx d (Pl.nx d h)
def is3 (d:Pl.Dg) (h:Nat):Prop := Pl.nx d (th d h 2) = h ∧ h / 4 ≠ th d h 1 / 4 ∧ th d h 1 / 4 ≠ th d h 2 / 4 ∧ h / 4 ≠ th d h 2 / 4
def cntO (d:Pl.Dg) (h k:Nat):Nat := ((List.range k).filter (fun i => isO d (th d h i))).length
def cntU (d:Pl.Dg) (h k:Nat):Nat := ((List.range k).filter (fun i => isU d (th d h i))).length
def isT (d:Pl.Dg) (h:Nat):Prop := is3 d h ∧ cntO d h 3 = 1 ∧ cntU d h 3 = 1
theorem th_lt {d:Pl.Dg} (hd:Pl.Wf d) {h:Nat} (hh:h < 4 * d.n) (k:Nat):th d h k < 4 * d.n := by
 have a:∀ z,z < 4 * d.n → Pl.nx d z < 4 * d.n:=fun z hz => Pl.tn_lt (hd.lt z hz)
 unfold th
 split
 ·exact hh
 ·split
  ·exact a _ hh
  ·exact a _ (a _ hh)
section
variable {w W W':World} {dv ev:List Value}
end
end Go.Proofs.Ytghdiolnonejaaa
end
section
namespace Go.Proofs.Ytghdiolnonejaaa
open Go Go.RowKit
attribute [local go_sem ↓] Go.wp_at_zero Go.wp_at_succ
theorem below8 {w W:World} (h:Below w.heap.size w W) (y0 y1 y2 z0 z1 z2 z3 z4:Value) :
 Below w.heap.size w ((((((((W.setCell ⟨w.heap.size + 1 + 1,0,none⟩ y0).setCell ⟨w.heap.size + 1 + 1,1,none⟩ y1).setCell ⟨w.heap.size + 1 + 1,2,none⟩ y2).setCell ⟨w.heap.size + 1 + 1 + 1,0,none⟩ z0).setCell ⟨w.heap.size + 1 + 1 + 1,1,none⟩ z1).setCell ⟨w.heap.size + 1 + 1 + 1,2,none⟩ z2).setCell ⟨w.heap.size + 1 + 1 + 1,3,none⟩ z3).setCell ⟨w.heap.size + 1 + 1 + 1,4,none⟩ z4) :=
 (((((((h.setCell (by show _ ≤ w.heap.size + 1 + 1; omega) _).setCell (by show _ ≤ w.heap.size + 1 + 1; omega) _).setCell (by show _ ≤ w.heap.size + 1 + 1; omega) _).setCell (by show _ ≤ w.heap.size + 1 + 1 + 1; omega) _).setCell (by show _ ≤ w.heap.size + 1 + 1 + 1; omega) _).setCell (by show _ ≤ w.heap.size + 1 + 1 + 1; omega) _).setCell (by show _ ≤ w.heap.size + 1 + 1 + 1; omega) _).setCell (by show _ ≤ w.heap.size + 1 + 1 + 1; omega) _
theorem one_ints (W:World) (c:Nat):IntsAt (W.alloc (.cells #[.int .i64 (c:Int)] 3)).drew (some ⟨W.heap.size,0,none⟩) 1 (nats [c]) := by
 refine IntsAt.drew ⟨rfl,fun _ => ⟨_,0,rfl,fun j u hu => ?_⟩⟩
 match j,hu with
 | 0,hu => simp [nats] at hu; subst hu; exact (Lib.cell_of_heap (heap_alloc_new W _) 0).trans rfl
theorem one_ints' (W:World) (c:Nat) {g:Nat} (h:g = W.heap.size):IntsAt (W.alloc (.cells #[.int .i64 (c:Int)] 3)) (some ⟨g,0,none⟩) 1 (nats [c]) := by
 subst h
 exact one_ints W c
theorem OwnN.alloc {w:World} {base g n c:Nat} {l:List Nat} (h:OwnN w base g n c l) (o:Obj):OwnN (w.alloc o) base g n c l := World.ownsRow.alloc h o
theorem OwnN.caps {w:World} {base g n c:Nat} {l:List Nat} (h:OwnN w base g n c l):n ≤ c ∧ c ≤ maxLen := by
 rcases h.2 with ⟨h1,h2⟩ | ⟨g',cap,cur,h1,_,_,h4,h5,_⟩
 ·injection h1 with h1; injection h1
 ·injection h1 with _ _ h3
  subst h3
  exact ⟨h4,h5⟩
theorem own8 {w W:World} {base:Nat} {v:Value} {n:Nat} {xs:List Value} (h:W.ownsRow base 3 1 v n xs) (hb:w.heap.size + 1 + 1 + 1 < base) (y0 y1 y2 z0 z1 z2 z3 z4:Value) :
 ((((((((W.setCell ⟨w.heap.size + 1 + 1,0,none⟩ y0).setCell ⟨w.heap.size + 1 + 1,1,none⟩ y1).setCell ⟨w.heap.size + 1 + 1,2,none⟩ y2).setCell ⟨w.heap.size + 1 + 1 + 1,0,none⟩ z0).setCell ⟨w.heap.size + 1 + 1 + 1,1,none⟩ z1).setCell ⟨w.heap.size + 1 + 1 + 1,2,none⟩ z2).setCell ⟨w.heap.size + 1 + 1 + 1,3,none⟩ z3).setCell ⟨w.heap.size + 1 + 1 + 1,4,none⟩ z4).ownsRow base 3 1 v n xs :=
 ownsRow_setCell_below (ownsRow_setCell_below (ownsRow_setCell_below (ownsRow_setCell_below (ownsRow_setCell_below (ownsRow_setCell_below (ownsRow_setCell_below (ownsRow_setCell_below h (by show w.heap.size + 1 + 1 < base; omega) _) (by show w.heap.size + 1 + 1 < base; omega) _) (by show w.heap.size + 1 + 1 < base; omega) _) (by show w.heap.size + 1 + 1 + 1 < base; omega) _) (by show w.heap.size + 1 + 1 + 1 < base; omega) _) (by show w.heap.size + 1 + 1 + 1 < base; omega) _) (by show w.heap.size + 1 + 1 + 1 < base; omega) _) (by show w.heap.size + 1 + 1 + 1 < base; omega) _
theorem closed_yes (base g n cap a b:Nat) (l:List Nat) (w:World) (h:OwnN w base g n cap l) (ha:a < n) (hb:b < n) (hn:n ≤ 100000) (hl:∀ k,k < n → l.getD k 0 < n) (hy:l.getD a 0 = b) :
 Calls Try.prog 82 #[.slice (some ⟨g,0,none⟩) n cap,.int .i64 (a:Int),.int .i64 (b:Int)] w fun e w' => e = .returned (.int .i64 1) ∧ OwnN w' base g n cap l ∧ w.grownBy w' (some g) := by
 refine (closed_any base g n cap a b l w h ha hb hn hl).mono ?_
 rintro e w' ⟨h1,h2,h3⟩
 rw [if_pos hy] at h1 h2
 exact ⟨h1,h2,h3⟩
theorem closed_no (base g n cap a b:Nat) (l:List Nat) (w:World) (h:OwnN w base g n cap l) (ha:a < n) (hb:b < n) (hn:n ≤ 100000) (hl:∀ k,k < n → l.getD k 0 < n) (hy:¬ l.getD a 0 = b) :
 Calls Try.prog 82 #[.slice (some ⟨g,0,none⟩) n cap,.int .i64 (a:Int),.int .i64 (b:Int)] w fun e w' => e = .returned (.int .i64 0) ∧ OwnN w' base g n cap (jn l (l.getD a 0) (l.getD b 0)) ∧ w.grownBy w' (some g) := by
 refine (closed_any base g n cap a b l w h ha hb hn hl).mono ?_
 rintro e w' ⟨h1,h2,h3⟩
 rw [if_neg hy] at h1 h2
 exact ⟨h1,h2,h3⟩
set_option maxRecDepth 100000 in
set_option maxHeartbeats 4000000 in
theorem uncurl_any (d:Pl.Dg) (hd:Pl.Wf d) (A B:Option Addr) (cp cq c:Nat) (k y sg:Int) (ov:Bool) (w:World) (hg:DgAt w A B d) (hc:c < d.n) :
 Calls Try.prog 50 #[.agg #[.slice A d.n cp,.slice B (4 * d.n) cq,.int .i64 d.lp],.agg #[.int .i64 k,.int .i64 (c:Int),.int .i64 y,.int .i64 sg,.bool ov]] w (UncPost d c w) := by
 have hn:=hd.few
 have hlp:=hd.lp
 obtain ⟨m,hm⟩:∃ m,m = 4 * d.n := ⟨_,rfl⟩
 have HG:=hide hg
 clear hg
 rw [← hm]
 have HM:=hide hm
 clear hm
 obtain ⟨x0,x1,x2,x3,b0,s0⟩:=boxes4 w (.slice A d.n cp) (.slice B m cq) (.int .i64 d.lp) (.int .i64 k) (.int .i64 (c:Int)) (.int .i64 y) (.int .i64 sg) (.bool ov)
 unfold W4 at x0 x1 x2 x3 b0 s0
 have X0:=hide x0
 have X1:=hide x1
 have X2:=hide x2
 have X3:=hide x3
 have B0:=hide b0
 have S0:=hide s0
 clear x0 x1 x2 x3 b0 s0
 go_enter Try.func50,Try.ntmps50
 go_wp2_with fail
 refine (kink_any d hd A B cp cq m c _ HM.out (HG.out.keep B0.out) hc).mono ?_
 rintro e w1 ⟨rfl,hb1⟩
 have Y0:=hide (X0.out.below hb1)
 have Y1:=hide (X1.out.below hb1)
 have Y2:=hide (X2.out.below hb1)
 have Y3:=hide (X3.out.below hb1)
 have B1:=hide (B0.out.trans (hb1.mono B0.out.size))
 have hsz:w.heap.size + 4 ≤ w1.heap.size:=by have := hb1.size; have := S0.out; omega
 clear X0 X1 X2 X3 B0 S0 hb1
 obtain ⟨f0,f1,f2,f3⟩:=box3 Y0.out
 obtain ⟨m0,m1,m2,m3,m4,m5⟩:=box5 Y1.out
 obtain ⟨p0,p1,p2,p3⟩:=box3 Y2.out
 obtain ⟨q0,q1,q2,q3,q4,q5⟩:=box5 Y3.out
 by_cases hK:d.m (kk d c) / 4 = c
 ·rw [Pl.vb_true (show isK d c from hK)]
  unfold kinkE
  rw [if_pos rfl]
  have HK:=hide hK
  clear hK
  have ha1:=kA_lt (d := d) hc
  have hb1:=kB_lt hd hc
  unfold kA at ha1
  unfold kB at hb1
  obtain ⟨a,ha⟩:∃ a,a = Pl.tn (kk d c) 2 := ⟨_,rfl⟩
  obtain ⟨b,hb⟩:∃ b,b = Pl.tn (d.m (kk d c)) 2 := ⟨_,rfl⟩
  rw [← ha,← hb]
  rw [← ha] at ha1
  rw [← hb] at hb1
  have HA:=hide (show a = kA d c from ha)
  have HB:=hide (show b = kB d c from hb)
  clear ha hb
  have hml:d.mt.length = m:=by have := hd.len; have := HM.out; omega
  have HML:=hide hml
  have ham:a < m:=by have := HM.out; omega
  have hbm:b < m:=by have := HM.out; omega
  have hm1:0 < m:=by omega
  have hm2:m ≤ 256:=by have := HM.out; omega
  have HLT:=hide (show ∀ k,k < m → d.mt.getD k 0 < m from fun k hk => by
   rw [getD_m (by rw [HML.out]; exact hk)]
   have:=hd.lt k (by have := HM.out; omega)
   have:=HM.out
   omega)
  have HGA:=hide (show d.mt.getD a 0 = d.m a from getD_m (by rw [HML.out]; exact ham))
  have HGM:=hide (show IntsAt w1 B m (nats d.mt) by rw [HM.out]; exact (HG.out.keep B1.out).m)
  clear hml
  obtain ⟨i0,hi0,hz0,hz1,hz2⟩:=info_parts intInfo
  go_wp2_with (at_builtin; refine wpList_append_ints _ rfl _ _ 22 rfl w1.heap.size 3 i0 (.int .i64 0) 8 Try.underlying22 hi0 hz0 hz1 hz2 rfl (.slice none 0 0) 0 [] (by rfl) (World.ownsRow_nil _ _ _ _) B m cq (nats d.mt) (by rfl) HGM.out (by unfold maxLen; omega) (by omega) (Nat.le_refl _) ?_; intro v2 w2 own2 grow2)
  simp only [Nat.zero_add,List.nil_append] at own2
  obtain ⟨A2,c2,rfl⟩:=owns_slice own2
  obtain ⟨g2,rfl,lo2,hi2⟩:=owns_pos hm1 own2
  have OWN2:=hide (show OwnN w2 w1.heap.size g2 m c2 d.mt by unfold OwnN; rw [← map_nats]; exact own2)
  have GR2:=hide grow2
  clear own2 grow2
  have Z0:=hide (Y0.out.grown GR2.out (by simp [Value.ownBlock]))
  have Z1:=hide (Y1.out.grown GR2.out (by simp [Value.ownBlock]))
  have Z2:=hide (Y2.out.grown GR2.out (by simp [Value.ownBlock]))
  have Z3:=hide (Y3.out.grown GR2.out (by simp [Value.ownBlock]))
  have B2:=hide (B1.out.grown GR2.out B1.out.size (fun k hk => by simp [Value.ownBlock] at hk))
  have hs2:=GR2.out.size
  clear f0 f1 f2 f3 m0 m1 m2 m3 m4 m5 p0 p1 p2 p3 q0 q1 q2 q3 q4 q5 Y0 Y1 Y2 Y3
  have HG2:=hide (HG.out.keep B2.out)
  by_cases hcl:d.m a = b
  ·have HC:=hide (show d.mt.getD a 0 = b by rw [HGA.out]; exact hcl)
   have HCL:=hide hcl
   clear hcl
   obtain ⟨f0,f1,f2,f3⟩:=box3 Z0.out
   have hwr:IntKind.i64.wrap ((d.lp:Int) + 1) = (d.lp:Int) + 1:=IntWalk.i64_in _ (by omega)
   go_region_held3 (fun w' => w'.cell? ⟨w.heap.size,2,none⟩ = some (.int .i64 (d.lp:Int))) (first | go_keep | assumption)
    (first
      | (go_at_call 82
         refine Calls.mono (closed_yes w1.heap.size g2 m c2 a b d.mt _ ?_ ham hbm (by omega) HLT.out HC.out) ?_
         ·exact OwnN.drew' rfl OWN2.out
         rintro e w3 ⟨rfl,own3,gr3⟩
         obtain ⟨_,_,h2,_⟩:=box3 ((Z0.out.drew).grown gr3 (by intro h; injection h; omega))
         have OWN3:=hide own3
         have GR3:=hide gr3
         clear own3 gr3))
   clear hwr f0 f1 f2 f3 h2
   have V0:=hide ((Z0.out.drew).grown GR3.out (by intro h; injection h; omega))
   have V1:=hide ((Z1.out.drew).grown GR3.out (by intro h; injection h; omega))
   have V2:=hide ((Z2.out.drew).grown GR3.out (by intro h; injection h; omega))
   have V3:=hide ((Z3.out.drew).grown GR3.out (by intro h; injection h; omega))
   have B3:=hide ((B2.out.drew).grown GR3.out (B2.out.drew).size (fun k hk => by injection hk with hk; omega))
   have hs3:w.heap.size + 4 ≤ w3.heap.size:=by have := GR3.out.size; have:w2.drew.heap.size = w2.heap.size := rfl; omega
   have l1:w.heap.size < w3.heap.size:=by omega
   have l2:w.heap.size + 1 < w3.heap.size:=by omega
   have l3:w.heap.size + 1 + 1 < w3.heap.size:=by omega
   have l4:w.heap.size + 1 + 1 + 1 < w3.heap.size:=by omega
   obtain ⟨f0,f1,f2,f3⟩:=box3 V0.out
   obtain ⟨m0,m1,m2,m3,m4,m5⟩:=box5 V1.out
   obtain ⟨p0,p1,p2,p3⟩:=box3 V2.out
   obtain ⟨q0,q1,q2,q3,q4,q5⟩:=box5 V3.out
   by_cases hfull:64 < d.lp + 1
   ·have hfu:(64:Int) < (d.lp:Int) + 1:=by omega
    go_wp2
    refine bodyPost_ret (v := .tuple #[nilD,nilM,.int .i64 5]) ?_ rfl ?_
    ·obtain ⟨e0,e1,e2,e3,e4,e5,e6,e7⟩:=fin8 V2.out V3.out rfl rfl (by omega) (.slice none 0 0) (.slice none 0 0) (.int .i64 0) (.int .i64 0) (.int .i64 0) (.int .i64 0) (.int .i64 0) (.bool false)
     unfold nilD nilM
     simp [results,Try.results50,go_sem,e0,e1,e2,e3,e4,e5,e6,e7]
    ·have e6:uncC d c = 5:=by unfold uncC; rw [if_pos HK.out,← HA.out,← HB.out,if_pos HCL.out,if_pos hfull]
     refine ⟨fun _ => by rw [e6]; exact rfl,fun h => absurd h (by rw [e6]; decide),below8 B3.out _ _ _ _ _ _ _ _⟩
   ·have hfu:(d.lp:Int) + 1 ≤ 64:=by omega
    have t3:((d.lp:Int) + 1 == (d.lp:Int)) = false:=by rw [beq_eq_false_iff_ne]; omega
    have HG3:=hide (HG.out.keep B3.out)
    obtain ⟨ab,ao,rfl,hcs⟩:=sign_at HG3.out.s hc
    go_wp2_with fail
    obtain ⟨W5,hW5⟩:∃ W5:World,W5 = w3.alloc (.cells #[.int .i64 1,.int .i64 (-1),.int .i64 0,.int .i64 (d.s c),.bool ((a:Int) % 2 == 1)] 37) := ⟨_,rfl⟩
    rw [← hW5]
    obtain ⟨bb,hbb⟩:∃ bb,bb = ((a:Int) % 2 == 1) := ⟨_,rfl⟩
    have HBB:=hide hbb
    rw [← hbb] at hW5 ⊢
    clear hbb
    obtain ⟨gi,hgi⟩:∃ gi,gi = w3.heap.size := ⟨_,rfl⟩
    rw [← hgi]
    have HU:=hide (show UC w gi (.slice (some ⟨ab,ao,none⟩) d.n cp) (.slice B m cq) (.int .i64 (d.lp:Int)) (.int .i64 1) (.int .i64 (-1)) (.int .i64 0) (.int .i64 (d.s c)) (.bool bb) W5 by
     rw [hW5]
     exact ⟨V0.out.alloc _,row_at (vs := [.int .i64 1,.int .i64 (-1),.int .i64 0,.int .i64 (d.s c),.bool bb]) hgi,⟨_,V2.out.alloc _,rfl⟩,⟨_,V3.out.alloc _,rfl⟩,B3.out.alloc (by omega) _,by omega⟩)
    obtain ⟨LL,hLL⟩:∃ LL,LL = d.mt := ⟨_,rfl⟩
    have HMo:=hide (show OwnN W5 w1.heap.size g2 m c2 LL by rw [hW5,hLL]; exact OWN3.out.alloc _)
    have HLE:=hide (show ∀ k,LL.getD k 0 ≤ 1000 from fun k => by rw [hLL]; exact Nat.le_trans (getD_le hd k) (by omega))
    have HG5:=hide (show DgAt W5 (some ⟨ab,ao,none⟩) B d from HG.out.keep HU.out.bel)
    have HLL:=hide (show LL = unM d c by unfold unM; rw [← HA.out,← HB.out,if_pos HCL.out,hLL])
    have HE0:=hide (show uncC d c = 0 by unfold uncC; rw [if_pos HK.out,← HA.out,← HB.out,if_pos HCL.out,if_neg hfull])
    clear hW5 hgi hLL f0 f1 f2 f3 m0 m1 m2 m3 m4 m5 p0 p1 p2 p3 q0 q1 q2 q3 q4 q5 hcs t3 l1 l2 l3 l4
    have HCAP:=hide HMo.out.caps
    have KS:=hide (IntsAt.drew ((HG5.out.s).alloc (.cells #[.int .i64 (c:Int)] 3)))
    have KM:=hide (OwnN.ints (OwnN.drew' rfl (HMo.out.alloc (.cells #[.int .i64 (c:Int)] 3))))
    have KG:=hide (one_ints W5 c)
    go_region_held3 (fun w' => w'.cell? ⟨w.heap.size,0,none⟩ = some (.slice (some ⟨ab,ao,none⟩) d.n cp) ∧ w'.cell? ⟨gi,0,none⟩ = some (.int .i64 1) ∧ w'.cell? ⟨gi,1,none⟩ = some (.int .i64 (-1)) ∧ w'.cell? ⟨gi,2,none⟩ = some (.int .i64 0) ∧ w'.cell? ⟨gi,3,none⟩ = some (.int .i64 (d.s c)) ∧ w'.cell? ⟨gi,4,none⟩ = some (.bool bb) ∧
     w'.cell? ⟨w.heap.size + 1 + 1,0,none⟩ = some (cv w' ⟨w.heap.size + 1 + 1,0,none⟩) ∧ w'.cell? ⟨w.heap.size + 1 + 1,1,none⟩ = some (cv w' ⟨w.heap.size + 1 + 1,1,none⟩) ∧ w'.cell? ⟨w.heap.size + 1 + 1,2,none⟩ = some (cv w' ⟨w.heap.size + 1 + 1,2,none⟩) ∧
     w'.cell? ⟨w.heap.size + 1 + 1 + 1,0,none⟩ = some (cv w' ⟨w.heap.size + 1 + 1 + 1,0,none⟩) ∧ w'.cell? ⟨w.heap.size + 1 + 1 + 1,1,none⟩ = some (cv w' ⟨w.heap.size + 1 + 1 + 1,1,none⟩) ∧ w'.cell? ⟨w.heap.size + 1 + 1 + 1,2,none⟩ = some (cv w' ⟨w.heap.size + 1 + 1 + 1,2,none⟩) ∧ w'.cell? ⟨w.heap.size + 1 + 1 + 1,3,none⟩ = some (cv w' ⟨w.heap.size + 1 + 1 + 1,3,none⟩) ∧ w'.cell? ⟨w.heap.size + 1 + 1 + 1,4,none⟩ = some (cv w' ⟨w.heap.size + 1 + 1 + 1,4,none⟩) ∧
     (∀ o,w'.frozen? ⟨w.heap.size + 1 + 1,o,none⟩ = false) ∧ (∀ o,w'.frozen? ⟨w.heap.size + 1 + 1 + 1,o,none⟩ = false) ∧ UC w gi (.slice (some ⟨ab,ao,none⟩) d.n cp) (.slice B m cq) (.int .i64 (d.lp:Int)) (.int .i64 1) (.int .i64 (-1)) (.int .i64 0) (.int .i64 (d.s c)) (.bool bb) w')
     ((go_split_ands; refine UC.all ?_; (repeat (first | (with_reducible assumption) | (with_reducible exact HU.out) | (with_reducible refine UC.setD ?_ _ _) | (with_reducible refine UC.setM ?_ _ _) | (with_reducible refine UC.alloc ?_ _) | (with_reducible refine UC.drew ?_) | (with_reducible refine UC.below ?_ hb6)))))
     (first
       | (go_at_call 84
          refine Calls.mono (shrunk_sl [c] d.sg LL ((d.lp:Int) + 1) (some ⟨ab,ao,none⟩) (some ⟨g2,0,none⟩) (some ⟨W5.heap.size,0,none⟩) d.n m 1 cp c2 1 _ ?_ ?_ ?_ (Pl.few_one c) HM.out HCAP.out.1 HCAP.out.2 (by omega) (by omega) HLE.out) ?_
          ·exact KS.out
          ·exact KM.out
          ·exact KG.out
          rintro e w6 ⟨A7,A8,c7,c8,rfl,owS,owM,hb6⟩
          have OWS:=hide owS
          have OWM:=hide owM
          clear owS owM))
    all_goals
     have HU6:=hide (show UC w gi (.slice (some ⟨ab,ao,none⟩) d.n cp) (.slice B m cq) (.int .i64 (d.lp:Int)) (.int .i64 1) (.int .i64 (-1)) (.int .i64 0) (.int .i64 (d.s c)) (.bool bb) w6 from by
      repeat (first | (with_reducible assumption) | (with_reducible exact HU.out) | (with_reducible refine UC.alloc ?_ _) | (with_reducible refine UC.drew ?_) | (with_reducible refine UC.below ?_ hb6)))
     have hb6s:W5.heap.size + 1 + 2 ≤ w6.heap.size ∨ True:=.inr trivial
     go_wp2
     obtain ⟨vs6,r6,l6⟩:=HU6.out.rd
     obtain ⟨us6,t6,k6⟩:=HU6.out.rm
     refine bodyPost_ret (v := .tuple #[.agg #[.slice A7 (Pl.left d.sg.length [c]).length c7,.slice A8 (4 * (Pl.left d.sg.length [c]).length) c8,.int .i64 ((d.lp:Int) + 1)],.agg #[.int .i64 1,.int .i64 (-1),.int .i64 0,.int .i64 (d.s c),.bool bb],.int .i64 0]) ?_ rfl ?_
     ·obtain ⟨e0,e1,e2,e3,e4,e5,e6,e7⟩:=fin8 r6 t6 l6 k6 (by omega) (.slice A7 (Pl.left d.sg.length [c]).length c7) (.slice A8 (4 * (Pl.left d.sg.length [c]).length) c8) (.int .i64 ((d.lp:Int) + 1)) (.int .i64 1) (.int .i64 (-1)) (.int .i64 0) (.int .i64 (d.s c)) (.bool bb)
      simp [results,Try.results50,go_sem,e0,e1,e2,e3,e4,e5,e6,e7]
     ·have hn7:(unD d c).n = (Pl.left d.sg.length [c]).length:=by unfold unD Pl.Dg.n; exact Pl.shrS_len _ _
      refine ⟨fun h => absurd HE0.out h,fun _ => ⟨A7,A8,c7,c8,?_,?_,?_⟩,below8 HU6.out.bel _ _ _ _ _ _ _ _⟩
      ·rw [hn7]
       unfold unD unI Mv.v
       simp only [← HA.out,← HB.out,if_pos HCL.out]
       have e1:((d.lp + 1:Nat):Int) = (d.lp:Int) + 1:=by omega
       have e2:decide (a % 2 = 1) = bb:=by rw [HBB.out,Bool.eq_iff_iff]; simp; omega
       rw [e1,e2]
      ·rw [hn7]
       refine own_intsT (base := (W5.alloc (.cells #[.int .i64 (c:Int)] 3)).drew.heap.size + 2) (e := 3) (c := c7) (own8 ?_ ?_ _ _ _ _ _ _ _ _)
       ·exact OWS.out
       ·have:=HU.out.i.lt; have := HU.out.lo; simp; omega
      ·rw [hn7]
       refine own_intsT (base := (W5.alloc (.cells #[.int .i64 (c:Int)] 3)).drew.heap.size + 2) (e := 3) (c := c8) (own8 ?_ ?_ _ _ _ _ _ _ _ _)
       ·rw [map_nats]
        have:=OWM.out
        rw [HLL.out] at this
        exact this
       ·have:=HU.out.i.lt; have := HU.out.lo; simp; omega
  ·have HC:=hide (show ¬ d.mt.getD a 0 = b by rw [HGA.out]; exact hcl)
   have HCL:=hide hcl
   have HGB:=hide (show d.mt.getD b 0 = d.m b from getD_m (by rw [HML.out]; exact hbm))
   clear hcl
   obtain ⟨f0,f1,f2,f3⟩:=box3 Z0.out
   have hwr:IntKind.i64.wrap (d.lp:Int) = (d.lp:Int):=IntWalk.i64_in _ (by omega)
   have hwr0:IntKind.i64.wrap ((d.lp:Int) + 0) = (d.lp:Int):=by rw [Int.add_zero]; exact hwr
   go_region_held3 (fun w' => w'.cell? ⟨w.heap.size,2,none⟩ = some (.int .i64 (d.lp:Int))) (first | go_keep | assumption)
    (first
      | (go_at_call 82
         refine Calls.mono (closed_no w1.heap.size g2 m c2 a b d.mt _ ?_ ham hbm (by omega) HLT.out HC.out) ?_
         ·exact OwnN.drew' rfl OWN2.out
         rintro e w3 ⟨rfl,own3,gr3⟩
         obtain ⟨_,_,h2,_⟩:=box3 ((Z0.out.drew).grown gr3 (by intro h; injection h; omega))
         have OWN3:=hide own3
         have GR3:=hide gr3
         clear own3 gr3))
   clear hwr hwr0 f0 f1 f2 f3 h2
   have V0:=hide ((Z0.out.drew).grown GR3.out (by intro h; injection h; omega))
   have V1:=hide ((Z1.out.drew).grown GR3.out (by intro h; injection h; omega))
   have V2:=hide ((Z2.out.drew).grown GR3.out (by intro h; injection h; omega))
   have V3:=hide ((Z3.out.drew).grown GR3.out (by intro h; injection h; omega))
   have B3:=hide ((B2.out.drew).grown GR3.out (B2.out.drew).size (fun k hk => by injection hk with hk; omega))
   have hs3:w.heap.size + 4 ≤ w3.heap.size:=by have := GR3.out.size; have:w2.drew.heap.size = w2.heap.size := rfl; omega
   have l1:w.heap.size < w3.heap.size:=by omega
   have l2:w.heap.size + 1 < w3.heap.size:=by omega
   have l3:w.heap.size + 1 + 1 < w3.heap.size:=by omega
   have l4:w.heap.size + 1 + 1 + 1 < w3.heap.size:=by omega
   obtain ⟨f0,f1,f2,f3⟩:=box3 V0.out
   obtain ⟨m0,m1,m2,m3,m4,m5⟩:=box5 V1.out
   obtain ⟨p0,p1,p2,p3⟩:=box3 V2.out
   obtain ⟨q0,q1,q2,q3,q4,q5⟩:=box5 V3.out
   have hfu:(d.lp:Int) ≤ 64:=by omega
   have HG3:=hide (HG.out.keep B3.out)
   obtain ⟨ab,ao,rfl,hcs⟩:=sign_at HG3.out.s hc
   obtain ⟨mb,mo,rfl,hcm⟩:=mate_at HG3.out.m (k := a) (by have := HM.out; omega)
   have lmb:mb < w3.heap.size:=lt_of_cell hcm
   have ia:(0:Int) ≤ (a:Int):=by omega
   have ib:(a:Int) < (m:Int):=by omega
   have hma:d.m a ≤ 256:=by have := hd.lt a ha1; omega
   obtain ⟨u,hu⟩:∃ u,u = d.m a := ⟨_,rfl⟩
   rw [← hu] at hcm hma
   have HUU:=hide hu
   clear hu
   go_wp2_with fail
   obtain ⟨bb,hbb⟩:∃ bb,bb = ((a:Int) % 2 == 1) := ⟨_,rfl⟩
   have HBB:=hide hbb
   rw [← hbb]
   clear hbb
   refine (shifted_any [c] (some ⟨w3.heap.size + 1,0,none⟩) 1 1 u _ ?_ (by omega) (by omega) (Pl.few_one c)).mono ?_
   ·exact one_ints' (w3.alloc (.cells #[.int .i64 1,.int .i64 (-1),.int .i64 0,.int .i64 (d.s c),.bool bb] 37)) c (by simp)
   rintro e w4 ⟨rfl,rfl⟩
   go_wp2_with fail
   obtain ⟨W5,hW5⟩:∃ W5:World,W5 = (w3.alloc (.cells #[.int .i64 1,.int .i64 (Pl.shf [c] u:Nat),.int .i64 0,.int .i64 (d.s c),.bool bb] 37)).alloc (.cells #[.int .i64 (c:Int)] 3) := ⟨_,rfl⟩
   rw [← hW5]
   obtain ⟨gi,hgi⟩:∃ gi,gi = w3.heap.size := ⟨_,rfl⟩
   rw [← hgi]
   have HU:=hide (show UC w gi (.slice (some ⟨ab,ao,none⟩) d.n cp) (.slice (some ⟨mb,mo,none⟩) m cq) (.int .i64 (d.lp:Int)) (.int .i64 1) (.int .i64 (Pl.shf [c] u:Nat)) (.int .i64 0) (.int .i64 (d.s c)) (.bool bb) W5 by
    rw [hW5]
    exact ⟨(V0.out.alloc _).alloc _,Row.alloc (row_at (vs := [.int .i64 1,.int .i64 (Pl.shf [c] u:Nat),.int .i64 0,.int .i64 (d.s c),.bool bb]) hgi) _,⟨_,(V2.out.alloc _).alloc _,rfl⟩,⟨_,(V3.out.alloc _).alloc _,rfl⟩,(B3.out.alloc (by omega) _).alloc (by simp; omega) _,by omega⟩)
   obtain ⟨LL,hLL⟩:∃ LL,LL = jn d.mt (d.mt.getD a 0) (d.mt.getD b 0) := ⟨_,rfl⟩
   have HMo:=hide (show OwnN W5 w1.heap.size g2 m c2 LL by rw [hW5,hLL]; exact (OWN3.out.alloc _).alloc _)
   have HLE:=hide (show ∀ k,LL.getD k 0 ≤ 1000 from fun k => by rw [hLL]; exact Nat.le_trans (jn_le (getD_le hd) (getD_le hd a) (getD_le hd b) k) (by omega))
   have HG5:=hide (show DgAt W5 (some ⟨ab,ao,none⟩) (some ⟨mb,mo,none⟩) d from HG.out.keep HU.out.bel)
   have HLL:=hide (show LL = unM d c by unfold unM; rw [← HA.out,← HB.out,if_neg HCL.out,hLL,HGA.out,HGB.out])
   have HE0:=hide (show uncC d c = 0 by unfold uncC; rw [if_pos HK.out,← HA.out,← HB.out,if_neg HCL.out])
   clear hW5 hgi hLL f0 f1 f2 f3 m0 m1 m2 m3 m4 m5 p0 p1 p2 p3 q0 q1 q2 q3 q4 q5 hcs hcm l1 l2 l3 l4
   have HCAP:=hide HMo.out.caps
   have KS:=hide (IntsAt.drew ((HG5.out.s).alloc (.cells #[.int .i64 (c:Int)] 3)))
   have KM:=hide (OwnN.ints (OwnN.drew' rfl (HMo.out.alloc (.cells #[.int .i64 (c:Int)] 3))))
   have KG:=hide (one_ints W5 c)
   go_region_held3 (fun w' => w'.cell? ⟨w.heap.size,0,none⟩ = some (.slice (some ⟨ab,ao,none⟩) d.n cp) ∧ w'.cell? ⟨gi,0,none⟩ = some (.int .i64 1) ∧ w'.cell? ⟨gi,1,none⟩ = some (.int .i64 (Pl.shf [c] u:Nat)) ∧ w'.cell? ⟨gi,2,none⟩ = some (.int .i64 0) ∧ w'.cell? ⟨gi,3,none⟩ = some (.int .i64 (d.s c)) ∧ w'.cell? ⟨gi,4,none⟩ = some (.bool bb) ∧
    w'.cell? ⟨w.heap.size + 1 + 1,0,none⟩ = some (cv w' ⟨w.heap.size + 1 + 1,0,none⟩) ∧ w'.cell? ⟨w.heap.size + 1 + 1,1,none⟩ = some (cv w' ⟨w.heap.size + 1 + 1,1,none⟩) ∧ w'.cell? ⟨w.heap.size + 1 + 1,2,none⟩ = some (cv w' ⟨w.heap.size + 1 + 1,2,none⟩) ∧
    w'.cell? ⟨w.heap.size + 1 + 1 + 1,0,none⟩ = some (cv w' ⟨w.heap.size + 1 + 1 + 1,0,none⟩) ∧ w'.cell? ⟨w.heap.size + 1 + 1 + 1,1,none⟩ = some (cv w' ⟨w.heap.size + 1 + 1 + 1,1,none⟩) ∧ w'.cell? ⟨w.heap.size + 1 + 1 + 1,2,none⟩ = some (cv w' ⟨w.heap.size + 1 + 1 + 1,2,none⟩) ∧ w'.cell? ⟨w.heap.size + 1 + 1 + 1,3,none⟩ = some (cv w' ⟨w.heap.size + 1 + 1 + 1,3,none⟩) ∧ w'.cell? ⟨w.heap.size + 1 + 1 + 1,4,none⟩ = some (cv w' ⟨w.heap.size + 1 + 1 + 1,4,none⟩) ∧
    (∀ o,w'.frozen? ⟨w.heap.size + 1 + 1,o,none⟩ = false) ∧ (∀ o,w'.frozen? ⟨w.heap.size + 1 + 1 + 1,o,none⟩ = false) ∧ UC w gi (.slice (some ⟨ab,ao,none⟩) d.n cp) (.slice (some ⟨mb,mo,none⟩) m cq) (.int .i64 (d.lp:Int)) (.int .i64 1) (.int .i64 (Pl.shf [c] u:Nat)) (.int .i64 0) (.int .i64 (d.s c)) (.bool bb) w')
    ((go_split_ands; refine UC.all ?_; (repeat (first | (with_reducible assumption) | (with_reducible exact HU.out) | (with_reducible refine UC.setD ?_ _ _) | (with_reducible refine UC.setM ?_ _ _) | (with_reducible refine UC.alloc ?_ _) | (with_reducible refine UC.drew ?_) | (with_reducible refine UC.below ?_ hb6)))))
    (first
      | (go_at_call 84
         refine Calls.mono (shrunk_sl [c] d.sg LL (d.lp:Int) (some ⟨ab,ao,none⟩) (some ⟨g2,0,none⟩) (some ⟨W5.heap.size,0,none⟩) d.n m 1 cp c2 1 _ ?_ ?_ ?_ (Pl.few_one c) HM.out HCAP.out.1 HCAP.out.2 (by omega) (by omega) HLE.out) ?_
         ·exact KS.out
         ·exact KM.out
         ·exact KG.out
         rintro e w6 ⟨A7,A8,c7,c8,rfl,owS,owM,hb6⟩
         have OWS:=hide owS
         have OWM:=hide owM
         clear owS owM))
   all_goals
    have HU6:=hide (show UC w gi (.slice (some ⟨ab,ao,none⟩) d.n cp) (.slice (some ⟨mb,mo,none⟩) m cq) (.int .i64 (d.lp:Int)) (.int .i64 1) (.int .i64 (Pl.shf [c] u:Nat)) (.int .i64 0) (.int .i64 (d.s c)) (.bool bb) w6 from by
     repeat (first | (with_reducible assumption) | (with_reducible exact HU.out) | (with_reducible refine UC.alloc ?_ _) | (with_reducible refine UC.drew ?_) | (with_reducible refine UC.below ?_ hb6)))
    have hb6s:W5.heap.size + 1 + 2 ≤ w6.heap.size ∨ True:=.inr trivial
    go_wp2
    obtain ⟨vs6,r6,l6⟩:=HU6.out.rd
    obtain ⟨us6,t6,k6⟩:=HU6.out.rm
    refine bodyPost_ret (v := .tuple #[.agg #[.slice A7 (Pl.left d.sg.length [c]).length c7,.slice A8 (4 * (Pl.left d.sg.length [c]).length) c8,.int .i64 (d.lp:Int)],.agg #[.int .i64 1,.int .i64 (Pl.shf [c] u:Nat),.int .i64 0,.int .i64 (d.s c),.bool bb],.int .i64 0]) ?_ rfl ?_
    ·obtain ⟨e0,e1,e2,e3,e4,e5,e6,e7⟩:=fin8 r6 t6 l6 k6 (by omega) (.slice A7 (Pl.left d.sg.length [c]).length c7) (.slice A8 (4 * (Pl.left d.sg.length [c]).length) c8) (.int .i64 (d.lp:Int)) (.int .i64 1) (.int .i64 (Pl.shf [c] u:Nat)) (.int .i64 0) (.int .i64 (d.s c)) (.bool bb)
     simp [results,Try.results50,go_sem,e0,e1,e2,e3,e4,e5,e6,e7]
    ·have hn7:(unD d c).n = (Pl.left d.sg.length [c]).length:=by unfold unD Pl.Dg.n; exact Pl.shrS_len _ _
     refine ⟨fun h => absurd HE0.out h,fun _ => ⟨A7,A8,c7,c8,?_,?_,?_⟩,below8 HU6.out.bel _ _ _ _ _ _ _ _⟩
     ·rw [hn7]
      unfold unD unI Mv.v
      simp only [← HA.out,← HB.out,if_neg HCL.out]
      simp only [← HUU.out]
      have e2:decide (a % 2 = 1) = bb:=by rw [HBB.out,Bool.eq_iff_iff]; simp; omega
      rw [e2]
     ·rw [hn7]
      refine own_intsT (base := (W5.alloc (.cells #[.int .i64 (c:Int)] 3)).drew.heap.size + 2) (e := 3) (c := c7) (own8 ?_ ?_ _ _ _ _ _ _ _ _)
      ·exact OWS.out
      ·have:=HU.out.i.lt; have := HU.out.lo; simp; omega
     ·rw [hn7]
      refine own_intsT (base := (W5.alloc (.cells #[.int .i64 (c:Int)] 3)).drew.heap.size + 2) (e := 3) (c := c8) (own8 ?_ ?_ _ _ _ _ _ _ _ _)
      ·rw [map_nats]
       have:=OWM.out
       rw [HLL.out] at this
       exact this
      ·have:=HU.out.i.lt; have := HU.out.lo; simp; omega
 ·rw [Pl.vb_false (show ¬ isK d c from hK)]
  unfold kinkE
  rw [if_neg (by decide)]
  have HK:=hide hK
  clear hK
  go_wp2
  refine bodyPost_ret (v := .tuple #[nilD,nilM,.int .i64 6]) ?_ rfl ?_
  ·obtain ⟨e0,e1,e2,e3,e4,e5,e6,e7⟩:=fin8 Y2.out Y3.out rfl rfl (by omega) (.slice none 0 0) (.slice none 0 0) (.int .i64 0) (.int .i64 0) (.int .i64 0) (.int .i64 0) (.int .i64 0) (.bool false)
   unfold nilD nilM
   simp [results,Try.results50,go_sem,e0,e1,e2,e3,e4,e5,e6,e7]
  ·have e6:uncC d c = 6:=by unfold uncC; rw [if_neg HK.out]
   refine ⟨fun _ => by rw [e6]; exact rfl,fun h => absurd h (by rw [e6]; decide),below8 B1.out _ _ _ _ _ _ _ _⟩
end Go.Proofs.Ytghdiolnonejaaa
end
section
namespace Go.Proofs.Ytghdiolnonejaaa
open Go Go.RowKit
attribute [local go_sem ↓] Go.wp_at_zero Go.wp_at_succ
def sb (d:Pl.Dg) (h k:Nat):Nat := Pl.tn (eo d (th d h k)) 2
def so (d:Pl.Dg) (h k:Nat):Nat := eo d (th d h k)
def si (d:Pl.Dg) (h k:Nat):Nat := ei d (th d h k)
def sf (d:Pl.Dg) (h k:Nat):Nat := Pl.tn (ei d (th d h k)) 2
def sTo (d:Pl.Dg) (h:Nat):Nat → List Nat
 | 0 => List.range (4 * d.n)
 | k + 1 => ((sTo d h k).set (sb d h k) (si d h k)).set (sf d h k) (so d h k)
def sOu (d:Pl.Dg) (h:Nat):Nat → List Bool
 | 0 => List.replicate (4 * d.n) false
 | k + 1 => ((sOu d h k).set (sb d h k) true).set (sf d h k) true
def sM (d:Pl.Dg) (h:Nat):Nat → List Nat
 | 0 => d.mt
 | u + 1 => if (sOu d h 3).getD u false = true then jn (sM d h u) ((sTo d h 3).getD u 0) ((sTo d h 3).getD (d.m u) 0) else sM d h u
def sF (d:Pl.Dg) (h:Nat):Nat → List Nat
 | 0 => sM d h (4 * d.n)
 | k + 1 => jn (sF d h k) (sb d h k) (sf d h k)
def lnx (l:List Nat) (u:Nat):Nat := Pl.tn (l.getD u 0) 3
def sC (d:Pl.Dg) (h u:Nat):Bool := (sOu d h 3).getD u false && (sOu d h 3).getD (lnx (sF d h 3) u) false && (sOu d h 3).getD (lnx (sF d h 3) (lnx (sF d h 3) u)) false && lnx (sF d h 3) (lnx (sF d h 3) (lnx (sF d h 3) u)) == u
def sX (d:Pl.Dg) (h:Nat):Nat → Nat
 | 0 => 0
 | g + 1 => if sC d h (4 * d.n - (g + 1)) then 4 * d.n - (g + 1) else sX d h g
open Classical in
noncomputable def sldC (d:Pl.Dg) (h:Nat):Int := if isT d h then 0 else 6
def sldD (d:Pl.Dg) (h:Nat):Pl.Dg := ⟨d.sg,sF d h 3,d.lp⟩
def sldI (d:Pl.Dg) (h:Nat):Mv := ⟨5,sX d h (4 * d.n),0,0,false⟩
theorem jn_len0 (l:List Nat) (a b:Nat):(jn l a b).length = l.length := by unfold jn; simp
theorem sTo_len (d:Pl.Dg) (h:Nat):∀ k,(sTo d h k).length = 4 * d.n
 | 0 => by simp [sTo]
 | k + 1 => by simp [sTo,sTo_len d h k]
theorem sOu_len (d:Pl.Dg) (h:Nat):∀ k,(sOu d h k).length = 4 * d.n
 | 0 => by simp [sOu]
 | k + 1 => by simp [sOu,sOu_len d h k]
theorem sM_len {d:Pl.Dg} (hd:Pl.Wf d) (h:Nat):∀ u,(sM d h u).length = 4 * d.n
 | 0 => hd.len
 | u + 1 => by unfold sM; split <;> simp [jn_len0,sM_len hd h u]
theorem sF_len {d:Pl.Dg} (hd:Pl.Wf d) (h:Nat):∀ k,(sF d h k).length = 4 * d.n
 | 0 => sM_len hd h _
 | k + 1 => by unfold sF; simp [jn_len0,sF_len hd h k]
theorem cl1 (A:Option Addr) (n c:Nat) (xs:List Int) (w:World) (hx:IntsAt w A n xs) (hn:0 < n ∧ n ≤ 1000) :
 Calls Try.prog 65 #[.slice A n c] w fun e w' => ∃ g c':Nat,e = .returned (.slice (some ⟨g,0,none⟩) n c') ∧ w'.ownsRow w.heap.size 3 1 (.slice (some ⟨g,0,none⟩) n c') n (xs.map (.int .i64)) ∧ Below w.heap.size w w' := by
 have hl:=hx.len
 obtain ⟨b,o,rfl,_⟩:=hx.at_ (k := 0) hn.1
 refine (Try.slices_Clone_int b o n c xs w (by omega) (by omega) (fun j hj => ?_)).mono ?_
 ·obtain ⟨b',o',e,hc⟩:=hx.at_ (k := j) (by omega)
  injection e with e
  injection e with e1 e2
  subst e1
  subst e2
  exact hc
 ·rintro e w' ⟨v,rfl,own,_,hb⟩
  rw [List.take_of_length_le (by omega)] at own
  obtain ⟨A',c',rfl⟩:=owns_slice own
  obtain ⟨g,rfl,_,_⟩:=owns_pos hn.1 own
  exact ⟨g,c',rfl,own,hb⟩
set_option maxRecDepth 100000 in
set_option maxHeartbeats 2000000 in
theorem clone_any (d:Pl.Dg) (A B:Option Addr) (cp cq m:Nat) (w:World) (hm:m = 4 * d.n) (hg:DgAt w A B d) (hn:0 < d.n ∧ d.n ≤ 64) :
 Calls Try.prog 37 #[.agg #[.slice A d.n cp,.slice B m cq,.int .i64 d.lp]] w fun e w' => ∃ g1 c1 g2 c2:Nat,e = .returned (.agg #[.slice (some ⟨g1,0,none⟩) d.n c1,.slice (some ⟨g2,0,none⟩) m c2,.int .i64 d.lp]) ∧
  w'.ownsRow w.heap.size 3 1 (.slice (some ⟨g1,0,none⟩) d.n c1) d.n (d.sg.map (.int .i64)) ∧ OwnN w' w.heap.size g2 m c2 d.mt ∧ g1 ≠ g2 ∧ Below w.heap.size w w' := by
 have HG:=hide hg
 have HGM:=hide (show IntsAt w B m (nats d.mt) by rw [hm]; exact hg.m)
 have hm0:0 < m ∧ m ≤ 1000:=by omega
 have hnn:0 < d.n ∧ d.n ≤ 1000:=by omega
 clear hm hg
 have HGS:=hide (GS.start w (.slice A d.n cp) (.slice B m cq) (.int .i64 d.lp) (.slice none 0 0) (.slice none 0 0) (.int .i64 0))
 go_enter Try.func37,Try.ntmps37
 go_wp2_with fail
 obtain ⟨V0,hV0⟩:∃ V:World,V = (w.alloc (.cells #[.slice A d.n cp,.slice B m cq,.int .i64 d.lp] 24)).alloc (.cells #[.slice none 0 0,.slice none 0 0,.int .i64 0] 24) := ⟨_,rfl⟩
 rw [← hV0] at HGS ⊢
 have hv0:w.heap.size + 2 ≤ V0.heap.size:=by rw [hV0]; simp
 clear hV0
 obtain ⟨c0,c1,c2,c3,c4,c5,c6,_⟩:=HGS.out.all
 go_region_held3 (fun w' => w'.cell? ⟨w.heap.size,0,none⟩ = some (.slice A d.n cp) ∧ w'.cell? ⟨w.heap.size,1,none⟩ = some (.slice B m cq) ∧ w'.cell? ⟨w.heap.size,2,none⟩ = some (.int .i64 d.lp) ∧ w'.cell? ⟨w.heap.size + 1,0,none⟩ = some (cv w' ⟨w.heap.size + 1,0,none⟩) ∧ w'.cell? ⟨w.heap.size + 1,1,none⟩ = some (cv w' ⟨w.heap.size + 1,1,none⟩) ∧ w'.cell? ⟨w.heap.size + 1,2,none⟩ = some (cv w' ⟨w.heap.size + 1,2,none⟩) ∧ (∀ o,w'.frozen? ⟨w.heap.size + 1,o,none⟩ = false) ∧ GS w w.heap.size (.slice A d.n cp) (.slice B m cq) (.int .i64 d.lp) w')
  ((go_split_ands; refine GS.all ?_; (repeat (first | (with_reducible assumption) | (with_reducible exact HGS.out) | (with_reducible refine GS.set ?_ _ _) | (with_reducible refine GS.drew ?_) | (with_reducible refine GS.below ?_ hbb) | (with_reducible refine GS.below ?_ hba)))))
  (first
    | (have hxa := hba
       clear hxa
       go_at_call 65
       refine Calls.mono (cl1 B m cq (nats d.mt) _ ?_ hm0) ?_
       ·exact HGM.out.keep (HGS.out.drew.below hba).bel
       rintro e wb ⟨g2,k2,rfl,ownb,hbb⟩)
    | (go_at_call 65
       refine Calls.mono (cl1 A d.n cp d.sg _ ?_ hnn) ?_
       ·exact HG.out.s.keep HGS.out.drew.bel
       rintro e wa ⟨g1,k1,rfl,owna,hba⟩))
 clear c0 c1 c2 c3 c4 c5 c6
 have G5:=hide ((HGS.out.drew.below hba).below hbb)
 go_wp2
 have ga:=World.ownsRow.lt owna g1 rfl
 have gb:=World.ownsRow.lt ownb g2 rfl
 have e9:V0.drew.heap.size = V0.heap.size:=rfl
 refine bodyPost_ret (v := .agg #[.slice (some ⟨g1,0,none⟩) d.n k1,.slice (some ⟨g2,0,none⟩) m k2,.int .i64 d.lp]) ?_ rfl ⟨g1,k1,g2,k2,rfl,?_,?_,?_,?_⟩
 ·obtain ⟨e0,e1,e2⟩:=G5.out.fin (.slice (some ⟨g1,0,none⟩) d.n k1) (.slice (some ⟨g2,0,none⟩) m k2) (.int .i64 d.lp)
  simp [results,Try.results37,go_sem,e0,e1,e2]
 ·exact own_set (own_set (own_set (own_keep (own_keep owna hbb (Nat.le_refl _)) (Below.refl _ _) (by omega)) (by omega)) (by omega)) (by omega)
 ·unfold OwnN
  rw [← map_nats]
  exact own_set (own_set (own_set (own_keep ownb (Below.refl _ _) (by have := hba.size; omega)) (by omega)) (by omega)) (by omega)
 ·omega
 ·exact ((G5.out.bel.setCell (by show _ ≤ w.heap.size + 1; omega) _).setCell (by show _ ≤ w.heap.size + 1; omega) _).setCell (by show _ ≤ w.heap.size + 1; omega) _
section
variable {w W W':World} {ge:Nat} {dv mv ev:List Value}
end
section
variable {w W W2:World} {ge gt gu gr g1 c1 g2 c2 base m n:Nat} {dv mv ev:List Value} {tl:List Int} {ou:List Bool} {ss:List Value} {lp:Int} {L L':List Nat}
end
end Go.Proofs.Ytghdiolnonejaaa
end
section
namespace Go.Proofs.Ytghdiolnonejaaa
open Go Go.RowKit
theorem tr_of {d:Pl.Dg} {h:Nat} (hh:h < 4 * d.n) (hi:is3 d h):Pl.Tr d (th d h 0) (th d h 1) (th d h 2) :=
 ⟨hh,rfl,rfl,hi.1,hi.2.1,hi.2.2.1,hi.2.2.2⟩
def sT (d:Pl.Dg) (h x:Nat):Nat := Pl.tu (th d h 0) (th d h 1) (th d h 2) x
def sO (d:Pl.Dg) (h x:Nat):Prop := x = Pl.tn (th d h 0) 2 ∨ x = Pl.tn (th d h 1) 2 ∨ x = Pl.tn (th d h 2) 2 ∨ x = Pl.tn (th d h 0) 3 ∨ x = Pl.tn (th d h 1) 3 ∨ x = Pl.tn (th d h 2) 3
def sI (d:Pl.Dg) (h x:Nat):Prop := x = th d h 0 ∨ x = th d h 1 ∨ x = th d h 2 ∨ x = Pl.tn (th d h 0) 1 ∨ x = Pl.tn (th d h 1) 1 ∨ x = Pl.tn (th d h 2) 1
abbrev TriAt (d:Pl.Dg) (h0 h1 h2:Nat) (m t:Nat → Nat):Prop :=
 Pl.Tri (Pl.dart d) Pl.rot m t h0 h1 h2 (Pl.tn h0 1) (Pl.tn h1 1) (Pl.tn h2 1) (Pl.tn h0 2) (Pl.tn h1 2) (Pl.tn h2 2) (Pl.tn h0 3) (Pl.tn h1 3) (Pl.tn h2 3)
theorem tri_at {d:Pl.Dg} (hd:Pl.Wf d) {h:Nat} (hh:h < 4 * d.n) (hi:is3 d h):TriAt d (th d h 0) (th d h 1) (th d h 2) d.m (sT d h) := (tr_of hh hi).tri hd
theorem sj_at {d:Pl.Dg} (hd:Pl.Wf d) {h:Nat} (hh:h < 4 * d.n) (hi:is3 d h):Pl.Sj (4 * d.n) d.m (sT d h) (sO d h) (sI d h) := by
 have T:=tri_at hd hh hi
 refine ⟨hd.lt,hd.inv,fun x hx => ?_,T.tt,?_,?_,?_,?_,?_⟩
 ·exact T.tS x hx
 ·rintro x (e | e | e | e | e | e) <;> rw [e]
  ·rw [T.tu0]; simp [sI]
  ·rw [T.tu1]; simp [sI]
  ·rw [T.tu2]; simp [sI]
  ·rw [T.tv0]; simp [sI]
  ·rw [T.tv1]; simp [sI]
  ·rw [T.tv2]; simp [sI]
 ·intro x h1 h2
  unfold sO at h1
  unfold sI at h2
  refine T.tx x ?_
  simp only [List.mem_cons,List.not_mem_nil,or_false]
  intro h3
  rcases h3 with e | e | e | e | e | e | e | e | e | e | e | e <;> first | (apply h1; simp [e]; done) | (apply h2; simp [e]; done)
 ·rintro x (e | e | e | e | e | e) <;> rw [e]
  ·rw [T.th0]; simp [sO]
  ·rw [T.th1]; simp [sO]
  ·rw [T.th2]; simp [sO]
  ·rw [T.tp0]; simp [sO]
  ·rw [T.tp1]; simp [sO]
  ·rw [T.tp2]; simp [sO]
 ·rintro x (e | e | e | e | e | e) <;> rw [e]
  ·rw [T.ah0]; simp [sI]
  ·rw [T.ah1]; simp [sI]
  ·rw [T.ah2]; simp [sI]
  ·rw [T.ap0]; simp [sI]
  ·rw [T.ap1]; simp [sI]
  ·rw [T.ap2]; simp [sI]
 ·obtain ⟨_,c1,c2,c3⟩:=hi
  intro x h1 h2
  unfold sO at h1
  unfold sI at h2
  have e0:th d h 0 = h:=rfl
  rw [e0] at h1 h2
  unfold Pl.tn at h1 h2
  rcases h1 with e | e | e | e | e | e <;> rcases h2 with e' | e' | e' | e' | e' | e' <;> omega
theorem ends {d:Pl.Dg} (hd:Pl.Wf d) {h k q:Nat} (hl:th d h k < 4 * d.n) (hq:d.m (th d h k) = Pl.tn q 1) :
 (sb d h k = Pl.tn (th d h k) 2 ∧ so d h k = th d h k ∧ si d h k = Pl.tn q 1 ∧ sf d h k = Pl.tn q 3) ∨ (sb d h k = Pl.tn q 3 ∧ so d h k = Pl.tn q 1 ∧ si d h k = th d h k ∧ sf d h k = Pl.tn (th d h k) 2) := by
 have e3:Pl.tn (Pl.tn q 1) 2 = Pl.tn q 3:=Pl.tn_tn _ _ _
 by_cases ho:Pl.out d (th d h k) = true
 ·left
  have e1:eo d (th d h k) = th d h k:=by unfold eo; rw [if_pos ho]
  have e2:ei d (th d h k) = Pl.tn q 1:=by unfold ei; rw [e1,hq]
  exact ⟨by unfold sb; rw [e1],e1,e2,by unfold sf; rw [e2,e3]⟩
 ·right
  have e1:eo d (th d h k) = Pl.tn q 1:=by unfold eo; rw [if_neg ho,hq]
  have e2:ei d (th d h k) = th d h k:=by unfold ei; rw [e1,← hq,hd.inv _ hl]
  exact ⟨by unfold sb; rw [e1,e3],e1,e2,by unfold sf; rw [e2]⟩
theorem sTo_s {d:Pl.Dg} (hd:Pl.Wf d) {h k q:Nat} (hl:th d h k < 4 * d.n) (hq:d.m (th d h k) = Pl.tn q 1) (hql:q < 4 * d.n) (hne:Pl.tn (th d h k) 2 ≠ Pl.tn q 3) (x:Nat) :
 (sTo d h (k + 1)).getD x 0 = if x = Pl.tn (th d h k) 2 then Pl.tn q 1 else if x = Pl.tn q 3 then th d h k else (sTo d h k).getD x 0 := by
 have l1:Pl.tn (th d h k) 2 < (sTo d h k).length:=by rw [sTo_len]; exact Pl.tn_lt hl
 have l2:Pl.tn q 3 < (sTo d h k).length:=by rw [sTo_len]; exact Pl.tn_lt hql
 show (((sTo d h k).set (sb d h k) (si d h k)).set (sf d h k) (so d h k)).getD x 0 = _
 rcases ends hd hl hq with ⟨e1,e2,e3,e4⟩ | ⟨e1,e2,e3,e4⟩ <;> rw [e1,e2,e3,e4]
 ·rw [Pl.set_getD _ _ _ _ (by simpa using l2),Pl.set_getD _ _ _ _ l1]
  by_cases h1:x = Pl.tn q 3
  ·rw [if_pos h1,if_neg (fun h2 => hne (h2.symm.trans h1)),if_pos h1]
  ·rw [if_neg h1,if_neg h1]
 ·rw [Pl.set_getD _ _ _ _ (by simpa using l1),Pl.set_getD _ _ _ _ l2]
theorem setB (l:List Bool) (a x:Nat) (ha:a < l.length):(l.set a true).getD x false = if x = a then true else l.getD x false := by
 rw [List.getD_eq_getElem?_getD,List.getElem?_set,List.getD_eq_getElem?_getD]
 by_cases h:a = x
 ·subst h; simp [ha]
 ·rw [if_neg h,if_neg (Ne.symm h)]
theorem sOu_s {d:Pl.Dg} (hd:Pl.Wf d) {h k q:Nat} (hl:th d h k < 4 * d.n) (hq:d.m (th d h k) = Pl.tn q 1) (hql:q < 4 * d.n) (x:Nat) :
 (sOu d h (k + 1)).getD x false = true ↔ x = Pl.tn (th d h k) 2 ∨ x = Pl.tn q 3 ∨ (sOu d h k).getD x false = true := by
 have l1:Pl.tn (th d h k) 2 < (sOu d h k).length:=by rw [sOu_len]; exact Pl.tn_lt hl
 have l2:Pl.tn q 3 < (sOu d h k).length:=by rw [sOu_len]; exact Pl.tn_lt hql
 show (((sOu d h k).set (sb d h k) true).set (sf d h k) true).getD x false = true ↔ _
 rcases ends hd hl hq with ⟨e1,e2,e3,e4⟩ | ⟨e1,e2,e3,e4⟩ <;> rw [e1,e4]
 ·rw [setB _ _ _ (by simpa using l2),setB _ _ _ l1]
  by_cases h1:x = Pl.tn q 3
  ·simp [h1]
  ·by_cases h2:x = Pl.tn (th d h k) 2 <;> simp [h1,h2]
 ·rw [setB _ _ _ (by simpa using l1),setB _ _ _ l2]
  by_cases h1:x = Pl.tn q 3
  ·simp [h1]
  ·by_cases h2:x = Pl.tn (th d h k) 2 <;> simp [h1,h2]
section
variable {d:Pl.Dg} {h:Nat}
theorem sTo_v (hd:Pl.Wf d) (hh:h < 4 * d.n) (hi:is3 d h) {x:Nat} (hx:x < 4 * d.n):(sO d h x → (sTo d h 3).getD x 0 = sT d h x) ∧ (¬ sO d h x → (sTo d h 3).getD x 0 = x) := by
 have T:=tri_at hd hh hi
 have t0:=th_lt hd hh 0
 have t1:=th_lt hd hh 1
 have t2:=th_lt hd hh 2
 obtain ⟨_,c1,c2,c3⟩:=hi
 have c0:th d h 0 = h:=rfl
 have s2:=sTo_s hd (h := h) (k := 2) (q := th d h 0) t2 T.ah2 t0 (by unfold Pl.tn; omega) x
 have s1:=sTo_s hd (h := h) (k := 1) (q := th d h 2) t1 T.ah1 t2 (by unfold Pl.tn; omega) x
 have s0:=sTo_s hd (h := h) (k := 0) (q := th d h 1) t0 T.ah0 t1 (by unfold Pl.tn; omega) x
 have sz:(sTo d h 0).getD x 0 = x:=by simp [sTo,List.getD_eq_getElem?_getD,hx]
 rw [s2,s1,s0,sz]
 have n:=T.nd
 constructor
 ·rintro (e | e | e | e | e | e) <;> rw [e]
  ·rw [T.tu0,if_neg (by unfold Pl.tn; omega),if_neg (by unfold Pl.tn; omega),if_neg (by unfold Pl.tn; omega),if_neg (by unfold Pl.tn; omega),if_pos rfl]
  ·rw [T.tu1,if_neg (by unfold Pl.tn; omega),if_neg (by unfold Pl.tn; omega),if_pos rfl]
  ·rw [T.tu2,if_pos rfl]
  ·rw [T.tv0,if_neg (by unfold Pl.tn; omega),if_pos rfl]
  ·rw [T.tv1,if_neg (by unfold Pl.tn; omega),if_neg (by unfold Pl.tn; omega),if_neg (by unfold Pl.tn; omega),if_neg (by unfold Pl.tn; omega),if_neg (by unfold Pl.tn; omega),if_pos rfl]
  ·rw [T.tv2,if_neg (by unfold Pl.tn; omega),if_neg (by unfold Pl.tn; omega),if_neg (by unfold Pl.tn; omega),if_pos rfl]
 ·intro hn
  unfold sO at hn
  rw [if_neg (fun e => hn (by simp [e])),if_neg (fun e => hn (by simp [e])),if_neg (fun e => hn (by simp [e])),if_neg (fun e => hn (by simp [e])),if_neg (fun e => hn (by simp [e])),if_neg (fun e => hn (by simp [e]))]
theorem sOu_v (hd:Pl.Wf d) (hh:h < 4 * d.n) (hi:is3 d h) (x:Nat):(sOu d h 3).getD x false = true ↔ sO d h x := by
 have T:=tri_at hd hh hi
 have t0:=th_lt hd hh 0
 have t1:=th_lt hd hh 1
 have t2:=th_lt hd hh 2
 have s2:=sOu_s hd (h := h) (k := 2) (q := th d h 0) t2 T.ah2 t0 x
 have s1:=sOu_s hd (h := h) (k := 1) (q := th d h 2) t1 T.ah1 t2 x
 have s0:=sOu_s hd (h := h) (k := 0) (q := th d h 1) t0 T.ah0 t1 x
 have sz:(sOu d h 0).getD x false = false:=by
  unfold sOu
  rw [List.getD_eq_getElem?_getD,List.getElem?_replicate]
  split <;> rfl
 rw [s2,s1,s0,sz]
 unfold sO
 constructor
 ·rintro (h | h | h | h | h | h | h)
  ·exact .inr (.inr (.inl h))
  ·exact .inr (.inr (.inr (.inl h)))
  ·exact .inr (.inl h)
  ·exact .inr (.inr (.inr (.inr (.inr h))))
  ·exact .inl h
  ·exact .inr (.inr (.inr (.inr (.inl h))))
  ·cases h
 ·rintro (h | h | h | h | h | h) <;> simp [h]
theorem jn_eq (l:List Nat) (a b:Nat):jn l a b = (l.set a b).set b a := rfl
theorem sM_half (hd:Pl.Wf d) (hh:h < 4 * d.n) (hi:is3 d h):∀ k,k ≤ 4 * d.n → Pl.Half (4 * d.n) d.m (Pl.cj (sT d h) d.m) (fun x => ∃ u,u < k ∧ sO d h u ∧ (x = sT d h u ∨ x = sT d h (d.m u))) (sM d h k)
 | 0,_ => ⟨hd.len,fun x hx => .inr ⟨getD_m (by rw [hd.len]; exact hx),fun ⟨u,h,_⟩ => absurd h (by omega)⟩⟩
 | k + 1, hk => by
   have ih:=sM_half hd hh hi k (by omega)
   have J:=sj_at hd hh hi
   have hk2:k < 4 * d.n:=by omega
   show Pl.Half _ _ _ _ (if (sOu d h 3).getD k false = true then jn (sM d h k) ((sTo d h 3).getD k 0) ((sTo d h 3).getD (d.m k) 0) else sM d h k)
   by_cases ho:sO d h k
   ·rw [if_pos ((sOu_v hd hh hi k).2 ho),(sTo_v hd hh hi hk2).1 ho,jn_eq]
    have e:(sTo d h 3).getD (d.m k) 0 = sT d h (d.m k):=by
     by_cases h2:sO d h (d.m k)
     ·exact (sTo_v hd hh hi (hd.lt k hk2)).1 h2
     ·rw [(sTo_v hd hh hi (hd.lt k hk2)).2 h2,J.far hk2 ho h2]
    rw [e]
    exact J.step ih hk2 ho
   ·rw [if_neg (fun h2 => ho ((sOu_v hd hh hi k).1 h2))]
    exact Pl.Sj.skip ih ho
theorem sF_half (hd:Pl.Wf d) (hh:h < 4 * d.n) (hi:is3 d h) {k q:Nat} {W:Nat → Prop} (hl:Pl.Half (4 * d.n) d.m (Pl.cj (sT d h) d.m) W (sF d h k)) (hq:d.m (th d h k) = Pl.tn q 1) (hql:q < 4 * d.n) (e:Pl.cj (sT d h) d.m (Pl.tn (th d h k) 2) = Pl.tn q 3) :
 Pl.Half (4 * d.n) d.m (Pl.cj (sT d h) d.m) (fun x => W x ∨ x = Pl.tn (th d h k) 2 ∨ x = Pl.tn q 3) (sF d h (k + 1)) := by
 have J:=sj_at hd hh hi
 have lh:=th_lt hd hh k
 have l1:Pl.tn (th d h k) 2 < 4 * d.n:=Pl.tn_lt lh
 have l2:Pl.tn q 3 < 4 * d.n:=Pl.tn_lt hql
 have e':Pl.cj (sT d h) d.m (Pl.tn q 3) = Pl.tn (th d h k) 2:=by
  rw [← e]
  unfold Pl.cj
  rw [J.ff,J.inv _ (J.fl _ l1),J.ff]
 show Pl.Half _ _ _ _ (jn (sF d h k) (sb d h k) (sf d h k))
 rw [jn_eq]
 rcases ends hd lh hq with ⟨e1,_,_,e4⟩ | ⟨e1,_,_,e4⟩ <;> rw [e1,e4]
 ·exact hl.join l1 l2 e e'
 ·refine (hl.join l2 l1 e' e).mono ?_
  rintro x (h | h | h)
  ·exact .inl h
  ·exact .inr (.inr h)
  ·exact .inr (.inl h)
theorem sF_v (hd:Pl.Wf d) (hh:h < 4 * d.n) (hi:is3 d h):∀ x,x < 4 * d.n → (sF d h 3).getD x 0 = Pl.cj (sT d h) d.m x := by
 have T:=tri_at hd hh hi
 have T':=T.flip
 have J:=sj_at hd hh hi
 have t0:=th_lt hd hh 0
 have t1:=th_lt hd hh 1
 have t2:=th_lt hd hh 2
 have a0:Pl.Half (4 * d.n) d.m (Pl.cj (sT d h) d.m) _ (sF d h 0):=sM_half hd hh hi (4 * d.n) (Nat.le_refl _)
 have a1:=sF_half hd hh hi (k := 0) (q := th d h 1) a0 T.ah0 t1 T'.ah0
 have a2:=sF_half hd hh hi (k := 1) (q := th d h 2) a1 T.ah1 t2 T'.ah1
 have a3:=sF_half hd hh hi (k := 2) (q := th d h 0) a2 T.ah2 t0 T'.ah2
 refine J.all a3 (fun u hu ho => ⟨?_,?_,?_⟩)
 ·exact .inl (.inl (.inl ⟨u,hu,ho,.inl rfl⟩))
 ·exact .inl (.inl (.inl ⟨u,hu,ho,.inr rfl⟩))
 ·rcases ho with h | h | h | h | h | h <;> simp [h]
theorem sld_m (hd:Pl.Wf d) (hh:h < 4 * d.n) (hi:is3 d h):∀ x,x < 4 * d.n → (sldD d h).m x = Pl.cj (sT d h) d.m x := fun x hx => by
 rw [← sF_v hd hh hi x hx,← getD_m (by show x < (sF d h 3).length; rw [sF_len hd]; exact hx)]
 rfl
theorem sld_valid (hd:Pl.Valid d) (hh:h < 4 * d.n) (hi:is3 d h):Pl.Valid (sldD d h) :=
 have hw:=(Pl.Valid.iff.1 hd).1
 (tr_of hh hi).valid hd rfl rfl (sF_len hw h 3) (sld_m hw hh hi)
end
end Go.Proofs.Ytghdiolnonejaaa
end
section
namespace Go.Proofs.Ytghdiolnonejaaa
open Go Go.RowKit
attribute [local go_sem ↓] Go.wp_at_zero Go.wp_at_succ
theorem moveInfo:(Try.prog.info? 37).map (fun i => (i.zero,i.size,i.bytes)) = some (some (.agg #[.int .i64 0,.int .i64 0,.int .i64 0,.int .i64 0,.bool false]),5,40) := by kernel_rfl
def Mv.cells (m:Mv):List Value := [.int .i64 m.kind,.int .i64 m.x,.int .i64 m.y,.int .i64 m.sign,.bool m.over]
def mvs (ms:List Mv):List Value := ms.flatMap Mv.cells
theorem mvs_len:∀ ms:List Mv,(mvs ms).length = ms.length * 5
 | [] => rfl
 | m :: ms => by
   have:=mvs_len ms
   unfold mvs at this ⊢
   rw [List.flatMap_cons,List.length_append,this,List.length_cons]
   simp [Mv.cells]
   omega
theorem mvs_app (ms:List Mv) (m:Mv):mvs (ms ++ [m]) = mvs ms ++ m.cells := by unfold mvs; simp
section
variable {w W W' W2:World} {gd gl:Nat} {dv:List Value} {v v':Value} {ms:List Mv} {m:Mv}
theorem own_below {base:Nat} {e:TypeId} {size n:Nat} {xs:List Value} (h:W.ownsRow base e size v n xs) (hb:Below W.heap.size W W'):W'.ownsRow base e size v n xs := by
 refine ⟨h.1,?_⟩
 rcases h.2 with hz | ⟨g,cap,cur,r1,r2,r3,r4⟩
 ·exact .inl hz
 ·exact .inr ⟨g,cap,cur,r1,r2,(hb.block g (lt_of_heap r3)).trans r3,r4⟩
end
theorem five_news (W:World) (g:Nat) (hg:W.heap.size = g) (m:Mv):∀ j u,m.cells[j]? = some u → (W.alloc (.cells m.cells.toArray 37)).cell? ((⟨g,0,none⟩:Addr).add j) = some u := by
 subst hg
 intro j u hu
 rw [Addr.add_lit,Nat.zero_add]
 have hj:j < m.cells.length:=by
  rcases Nat.lt_or_ge j m.cells.length with h | h
  ·exact h
  ·rw [List.getElem?_eq_none h] at hu; cases hu
 have:=(Row.new W 37 m.cells).cell hj
 rw [this,← hu,List.getElem?_eq_getElem hj]
theorem box1 {W:World} {g:Nat} {t:TypeId} {a:Value} (h:Row W g t [a]):W.cell? ⟨g,0,none⟩ = some a ∧ ∀ o,W.frozen? ⟨g,o,none⟩ = false := ⟨h.cell (i := 0) (by simp),h.free⟩
def MovesAt (w:World) (v:Value) (ms:List Mv):Prop := ∃ base,w.ownsRow base 37 5 v ms.length (mvs ms)
end Go.Proofs.Ytghdiolnonejaaa
end
section
namespace Go.Proofs.Ytghdiolnonejaaa
open Go Go.RowKit
attribute [local go_sem ↓] Go.wp_at_zero Go.wp_at_succ
def lnS (d:Pl.Dg) (y:Int):Nat := if fwd d y then 0 else 2
def th0 (d:Pl.Dg) (x:Int):Nat := if fwd d x then 3 else 1
def th1 (d:Pl.Dg) (x:Int):Nat := if fwd d x then 1 else 3
def un0 (d:Pl.Dg) (x y:Int) (ov:Bool):Nat := if ov then lnS d y else th0 d x
def un1 (d:Pl.Dg) (x y:Int) (ov:Bool):Nat := if ov then lnS d y else th1 d x
def ov0 (d:Pl.Dg) (x y:Int) (ov:Bool):Nat := if ov then th0 d x else lnS d y
def ov1 (d:Pl.Dg) (x y:Int) (ov:Bool):Nat := if ov then th1 d x else lnS d y
def sgn2 (u o:Nat):Int := if plc 0 u o = 3 then 1 else -1
section
variable {w:World} {x0 x1 x2 y0 y1 y2 y3 y4:Value} {W W':World}
end
section
variable {w:World} {x0 x1 x2 y0 y1 y2 y3 y4:Value} {gu gs:Nat} {p0 p1 q0 q1:Value} {W W':World}
end
theorem two_ints (W:World) (a b:Int):IntsAt (W.alloc (.cells #[.int .i64 a,.int .i64 b] 3)).drew (some ⟨W.heap.size,0,none⟩) 2 [a,b] := by
 refine IntsAt.drew ⟨rfl,fun _ => ⟨_,0,rfl,fun j u hu => ?_⟩⟩
 have h:=heap_alloc_new W (.cells #[.int .i64 a,.int .i64 b] 3)
 match j,hu with
 | 0,hu => simp at hu; subst hu; exact (Lib.cell_of_heap h 0).trans rfl
 | 1,hu => simp at hu; subst hu; exact (Lib.cell_of_heap h 1).trans rfl
end Go.Proofs.Ytghdiolnonejaaa
end
section
namespace Go.Proofs.Ytghdiolnonejaaa
open Go Go.RowKit
def leadM (d:Pl.Dg) (mt:List Nat) (x:Int) (i o:Nat):List Nat := if x < 0 then jn mt i o else jn (jn mt x.toNat i) o (d.m x.toNat)
structure PK (w:World) (gd gn gr gf g1 c1 n1 g2 c2 n2 base n u0 u1:Nat) (s5 m5 dv ss:List Value) (lpr:Int) (mt:List Nat) (W:World):Prop where
 s:Row W w.heap.size 67 s5
 m:Row W (w.heap.size + 1) 37 m5
 rd:∃ vs,Row W (w.heap.size + 1 + 1) 24 vs ∧ vs.length = 3
 rm:∃ us,Row W (w.heap.size + 1 + 1 + 1) 37 us ∧ us.length = 5
 d:Row W gd 24 dv
 nb:Row W gn 3 [.int .i64 (n:Int)]
 f:Row W gf 93 [.int .i64 (u0:Int),.int .i64 (u1:Int)]
 r:Row W gr 24 [.slice (some ⟨g1,0,none⟩) n1 c1,.slice (some ⟨g2,0,none⟩) n2 c2,.int .i64 lpr]
 o1:W.ownsRow base 3 1 (.slice (some ⟨g1,0,none⟩) n1 c1) n1 ss
 o2:OwnN W base g2 n2 c2 mt
 ne:g1 ≠ g2
 bel:Below w.heap.size w W
 a1:w.heap.size + 1 + 1 + 1 < gd
 a2:w.heap.size + 1 + 1 + 1 < gn
 a3:w.heap.size + 1 + 1 + 1 < gr
 a5:gn < base
 a6:gr ≠ gd
section
variable {w:World} {gd gn gr gf g1 c1 n1 g2 c2 n2 base n u0 u1:Nat} {s5 m5 dv ss:List Value} {lpr:Int} {mt:List Nat} {W W2:World}
end
end Go.Proofs.Ytghdiolnonejaaa
end
section
namespace Go.Proofs.Ytghdiolnonejaaa
open Go Go.RowKit
def needP (x y sg:Int):Nat := (if x < 0 then 1 else 0) + (if y < 0 ∧ sg = 0 then 1 else 0)
end Go.Proofs.Ytghdiolnonejaaa
end
section
namespace Go.Proofs.Ytghdiolnonejaaa
open Go Go.RowKit
attribute [local go_sem ↓] Go.wp_at_zero Go.wp_at_succ
structure PB (w:World) (s5 m5:List Value) (W:World):Prop where
 s:Row W w.heap.size 67 s5
 m:Row W (w.heap.size + 1) 37 m5
 rd:∃ vs,Row W (w.heap.size + 1 + 1) 24 vs ∧ vs.length = 3
 rm:∃ us,Row W (w.heap.size + 1 + 1 + 1) 37 us ∧ us.length = 5
 bel:Below w.heap.size w W
section
variable {w W W':World} {s5 m5:List Value}
end
section
variable {w:World} {gd gn gr gf g1 c1 n1 g2 c2 n2 base n u0 u1:Nat} {s5 m5 dv ss:List Value} {lpr:Int} {mt:List Nat} {W W2:World}
end
def pP (d:Pl.Dg) (x y:Int) (ov:Bool) (t:Nat):Nat := plc d.n (un0 d x y ov) t
def pQ (d:Pl.Dg) (x y:Int) (ov:Bool) (t:Nat):Nat := plc (d.n + 1) (un1 d x y ov) t
def pk0 (d:Pl.Dg) (x y:Int) (ov:Bool):List Nat := jn (jn (d.mt ++ List.replicate 8 0) (pP d x y ov 1) (pQ d x y ov 1)) (pQ d x y ov 2) (pP d x y ov 0)
def pkM (d:Pl.Dg) (x y sg:Int) (ov:Bool):List Nat :=
 if sg ≠ 0 ∧ x < 0 then jn (jn (pk0 d x y ov) (pQ d x y ov 3) (pQ d x y ov 0)) (pP d x y ov 2) (pP d x y ov 3)
 else if sg = 1 then jn (jn (jn (pk0 d x y ov) x.toNat (pP d x y ov 3)) (pQ d x y ov 3) (pQ d x y ov 0)) (pP d x y ov 2) (d.m x.toNat)
 else if sg = -1 then jn (jn (jn (pk0 d x y ov) x.toNat (pQ d x y ov 0)) (pP d x y ov 2) (pP d x y ov 3)) (pQ d x y ov 3) (d.m x.toNat)
 else leadM d (leadM d (pk0 d x y ov) y (pQ d x y ov 0) (pP d x y ov 2)) x (pP d x y ov 3) (pQ d x y ov 3)
def pkL (d:Pl.Dg) (x y sg:Int):Int := if sg ≠ 0 ∧ x < 0 then (d.lp:Int) - 1 else if sg = 0 then (if x < 0 then (if y < 0 then (d.lp:Int) - 1 else d.lp) - 1 else (if y < 0 then (d.lp:Int) - 1 else d.lp)) else d.lp
def pkD (d:Pl.Dg) (x y sg:Int) (ov:Bool):Pl.Dg := ⟨d.sg ++ [sgn2 (un0 d x y ov) (ov0 d x y ov),sgn2 (un1 d x y ov) (ov1 d x y ov)],pkM d x y sg ov,(pkL d x y sg).toNat⟩
end Go.Proofs.Ytghdiolnonejaaa
end
section
namespace Go.Proofs.Ytghdiolnonejaaa
open Go Go.RowKit
def lpv (d:Pl.Dg) (h:Nat):Int := if Pl.out d h then -2 else -1
def oldv (d:Pl.Dg) (x y h:Nat):Int := (Pl.shf [x,y] (d.m h):Nat)
theorem loopF_any (d:Pl.Dg) (hd:Pl.Wf d) (A B:Option Addr) (cp cq m g h:Nat) (w:World) (hr:Row w g 24 [.slice A d.n cp,.slice B m cq,.int .i64 (d.lp:Int)]) (hg:DgAt w A B d) (hh:h < 4 * d.n) :
 Calls Try.prog 135 #[.int .i64 (h:Int),.pointer (some ⟨g,0,none⟩)] w fun e w' => e = .returned (.int .i64 (lpv d h)) ∧ Below w.heap.size w w' := by
 obtain ⟨d0,d1,d2,d3⟩:=box3 hr
 have hn:=hd.few
 go_enter Try.func135,Try.ntmps135
 go_wp2_with fail
 refine (out2_n d A B d.n cp m cq (.int .i64 (d.lp:Int)) h _ rfl hh (by omega) hg.s).mono ?_
 rintro e w1 ⟨rfl,hb1⟩
 cases ho:Pl.out d h with
 | true =>
   have E:=hide (show lpv d h = -2 by unfold lpv; rw [ho]; rfl)
   clear ho
   go_wp2
   go_ret
   exact ⟨ret_int E.out.symm,hb1⟩
 | false =>
   have E:=hide (show lpv d h = -1 by unfold lpv; rw [ho]; rfl)
   clear ho
   go_wp2
   go_ret
   exact ⟨ret_int E.out.symm,hb1⟩
set_option maxRecDepth 100000 in
set_option maxHeartbeats 1000000 in
theorem oldF_any (d:Pl.Dg) (hd:Pl.Wf d) (A B:Option Addr) (cp cq m g gm x y h:Nat) (k sg:Int) (ov:Bool) (w:World) (hm:m = 4 * d.n) (hr:Row w g 24 [.slice A d.n cp,.slice B m cq,.int .i64 (d.lp:Int)]) (hrm:Row w gm 37 [.int .i64 k,.int .i64 (x:Int),.int .i64 (y:Int),.int .i64 sg,.bool ov]) (hg:DgAt w A B d) (hh:h < 4 * d.n) (hxy:x < y) :
 Calls Try.prog 136 #[.int .i64 (h:Int),.pointer (some ⟨g,0,none⟩),.pointer (some ⟨gm,0,none⟩)] w fun e w' => e = .returned (.int .i64 (oldv d x y h)) ∧ Below w.heap.size w w' := by
 obtain ⟨d0,d1,d2,d3⟩:=box3 hr
 obtain ⟨m0,m1,m2,m3,m4,m5⟩:=box5 hrm
 have hn:=hd.few
 have l1:=hr.lt
 have l2:=hrm.lt
 have hmh:h < m:=by omega
 have ih0:(0:Int) ≤ (h:Int):=by omega
 have ih1:(h:Int) < (m:Int):=by omega
 obtain ⟨mb,mo,rfl,cm⟩:=mate_at hg.m hh
 have l3:mb < w.heap.size:=lt_of_cell cm
 have hmm:=hd.lt h hh
 have E:=hide (show oldv d x y h = (Pl.shf [x,y] (d.m h):Nat) from rfl)
 obtain ⟨u,hu⟩:∃ u,u = d.m h := ⟨_,rfl⟩
 rw [← hu] at cm hmm E
 clear hu
 have HM:=hide hm
 have HG:=hide hg
 clear hm hg hr hrm
 go_enter Try.func136,Try.ntmps136
 go_wp2_with fail
 go_region_held3 (fun w' => w'.cell? ⟨g,1,none⟩ = some (.slice (some ⟨mb,mo,none⟩) m cq) ∧ w'.cell? ⟨mb,mo + h,none⟩ = some (.int .i64 (u:Int)) ∧ w'.cell? ⟨gm,1,none⟩ = some (.int .i64 (x:Int)) ∧ w'.cell? ⟨gm,2,none⟩ = some (.int .i64 (y:Int)))
  (first | go_keep | assumption | (exact ⟨by simpa [l1] using d1,by simpa [l3] using cm,by simpa [l2] using m1,by simpa [l2] using m2⟩))
  (first
    | (go_at_call 83
       refine Calls.mono (shifted_any [x,y] (some ⟨w.heap.size,0,none⟩) 2 2 u _ (by exact two_ints w (x:Int) (y:Int)) (by omega) (by omega) (Pl.few_two hxy)) ?_
       rintro e w4 ⟨rfl,rfl⟩))
 all_goals
  go_wp2
  go_ret
  refine ⟨ret_int ?_,?_⟩
  ·rw [E.out]
  ·exact ((Below.refl _ _).alloc (Nat.le_refl _) _).drew
end Go.Proofs.Ytghdiolnonejaaa
end
section
namespace Go.Proofs.Ytghdiolnonejaaa
open Go Go.RowKit
theorem rturn_any (h k:Nat) (w:World) (hh:h ≤ 1000000) (hk:k ≤ 3) :
 Calls Try.prog 143 #[.int .i64 (h:Int),.int .i64 (k:Int)] w fun e w' => e = .returned (.int .i64 (Pl.tn h k:Nat)) ∧ w = w' := by
 go_enter Try.func143,Try.ntmps143
 go_wp2
 go_ret
 exact ⟨ret_int (by unfold Pl.tn; omega),rfl⟩
theorem rturn3 (h:Nat) (w:World) (hh:h ≤ 1000000) :
 Calls Try.prog 143 #[.int .i64 (h:Int),.int .i64 3] w fun e w' => e = .returned (.int .i64 (Pl.tn h 3:Nat)) ∧ w = w' := rturn_any h 3 w hh (by omega)
theorem ropp_any (h:Nat) (w:World) (hh:h ≤ 1000000) :
 Calls Try.prog 117 #[.int .i64 (h:Int)] w fun e w' => e = .returned (.int .i64 (Pl.tn h 2:Nat)) ∧ w = w' := by
 go_enter Try.func117,Try.ntmps117
 go_wp2_with fail
 refine (rturn_any h 2 _ hh (by omega)).mono ?_
 rintro e w1 ⟨rfl,rfl⟩
 go_wp2
 go_ret
 exact ⟨rfl,rfl⟩
theorem rout_any (d:Pl.Dg) (A B:Option Addr) (n cp q cq:Nat) (l:Value) (h:Nat) (w:World) (e:n = d.n) (hh:h < 4 * n) (hn:n ≤ 1000) (hs:IntsAt w A n d.sg) :
 Calls Try.prog 112 #[.agg #[.slice A n cp,.slice B q cq,l],.int .i64 (h:Int)] w fun e w' => e = .returned (.bool (Pl.out d h)) ∧ Below w.heap.size w w' := by
 subst e
 obtain ⟨b,o,rfl,hc⟩:=sign_at hs (c := h / 4) (by omega)
 have hb:Below w.heap.size w (w.alloc (.cells #[.slice (some ⟨b,o,none⟩) d.n cp,.slice B q cq,l] 24)):=(Below.refl _ _).alloc (Nat.le_refl _) _
 have hc2:=cell_below hc hb
 have h4:h % 4 = 0 ∨ h % 4 = 1 ∨ h % 4 = 2 ∨ h % 4 = 3:=by omega
 go_enter Try.func112,Try.ntmps112
 rcases h4 with h4 | h4 | h4 | h4
 ·have E:=out_zero (d := d) h4
  go_wp2
  all_goals
   go_ret
   refine ⟨ret_bool ?_,hb⟩
   rw [E]
   first
    | done
    | rfl
    | (simp; done)
    | (simp; omega)
    | simp_all
 ·have E:=out_one (d := d) h4
  go_wp2
  all_goals
   go_ret
   refine ⟨ret_bool ?_,hb⟩
   rw [E]
   first
    | done
    | rfl
    | (simp; done)
    | (simp; omega)
    | simp_all
 ·have E:=out_two (d := d) h4
  go_wp2
  all_goals
   go_ret
   refine ⟨ret_bool ?_,hb⟩
   rw [E]
   first
    | done
    | rfl
    | (simp; done)
    | (simp; omega)
    | simp_all
 ·have E:=out_three (d := d) h4
  go_wp2
  all_goals
   go_ret
   refine ⟨ret_bool ?_,hb⟩
   rw [E]
   first
    | done
    | rfl
    | (simp; done)
    | (simp; omega)
    | simp_all
theorem rnext_any (d:Pl.Dg) (hd:Pl.Wf d) (A B:Option Addr) (cp cq m:Nat) (l:Value) (h:Nat) (w:World) (hm:m = 4 * d.n) (hb:IntsAt w B m (nats d.mt)) (hh:h < 4 * d.n) :
 Calls Try.prog 123 #[.agg #[.slice A d.n cp,.slice B m cq,l],.int .i64 (h:Int)] w fun e w' => e = .returned (.int .i64 (Pl.nx d h:Nat)) ∧ Below w.heap.size w w' := by
 subst hm
 have hn:=hd.few
 have lt:=hd.lt h hh
 obtain ⟨b,o,rfl,hc⟩:=mate_at hb hh
 have hbw:Below w.heap.size w (w.alloc (.cells #[.slice A d.n cp,.slice (some ⟨b,o,none⟩) (4 * d.n) cq,l] 24)):=(Below.refl _ _).alloc (Nat.le_refl _) _
 have hc2:=cell_below hc hbw
 obtain ⟨u,hu⟩:∃ u,u = d.m h := ⟨_,rfl⟩
 have HU:=hide (show Pl.nx d h = Pl.tn u 3 by rw [hu]; rfl)
 rw [← hu] at hc2 lt
 clear hu hc
 go_enter Try.func123,Try.ntmps123
 go_wp2_with fail
 refine (rturn3 u _ (by omega)).mono ?_
 rintro e w1 ⟨rfl,rfl⟩
 go_wp2
 go_ret
 exact ⟨by rw [HU.out]; rfl,hbw⟩
set_option maxRecDepth 100000 in
set_option maxHeartbeats 2000000 in
theorem rface_any (d:Pl.Dg) (hd:Pl.Wf d) (A B:Option Addr) (cp cq m:Nat) (l:Value) (h p:Nat) (w:World) (hm:m = 4 * d.n) (hb:IntsAt w B m (nats d.mt)) (hh:h < 4 * d.n) (hp:Pl.Per (Pl.nx d) h p) (hpN:p ≤ 4 * d.n) :
 Calls Try.prog 114 #[.agg #[.slice A d.n cp,.slice B m cq,l],.int .i64 (h:Int)] w (fun e w' => ∃ (A5:Option Addr) (c5:Nat),e = .returned (.slice A5 p c5) ∧ w'.ownsRow w.heap.size 3 1 (.slice A5 p c5) p ((Pl.cyc (Pl.nx d) h p).map (fun k:Nat => Value.int .i64 k)) ∧ Below w.heap.size w w') := by
 have hn:=hd.few
 have HD:=hide hd
 have HP:=hide hp
 have HM:=hide hm
 have HB:=hide hb
 have hp0:=hp.1
 have HPN:=hide hpN
 have hp4:p ≤ 256:=by omega
 have hm4:m ≤ 256:=by omega
 have hb1:Below w.heap.size w (w.alloc (.cells #[.slice A d.n cp,.slice B m cq,l] 24)):=(Below.refl _ _).alloc (Nat.le_refl _) _
 have B0:=hide hb1
 have X0:=hide (row_at (W := w) (g := w.heap.size) (t := 24) (vs := [.slice A d.n cp,.slice B m cq,l]) rfl)
 clear hp hm hb hd hb1 hpN
 obtain ⟨W1,hW1⟩:∃ W1:World,W1 = (w.alloc (.cells #[.slice A d.n cp,.slice B m cq,l] 24)).alloc (.cells #[.int .i64 (h:Int)] 3) := ⟨_,rfl⟩
 have B1:=hide (show Below w.heap.size w W1 by rw [hW1]; exact B0.out.alloc (by simp) _)
 have X1:=hide (show Row W1 w.heap.size 24 [.slice A d.n cp,.slice B m cq,l] by rw [hW1]; exact X0.out.alloc _)
 have O1:=hide (show W1.ownsRow (w.heap.size + 1) 3 1 (.slice (some ⟨w.heap.size + 1,0,none⟩) 1 1) 1 [.int .i64 (h:Int)] by
  rw [hW1]
  have:=own_one (w.alloc (.cells #[.slice A d.n cp,.slice B m cq,l] 24)) (.int .i64 (h:Int))
  simpa using this)
 obtain ⟨d0,d1,d2,_⟩:=box3 X1.out
 go_enter Try.func114,Try.ntmps114
 rw [hW1] at d0 d1 d2
 go_wp2_with fail
 rw [← hW1]
 clear hW1 d0 d1 d2
 refine (rnext_any d HD.out A B cp cq m l h _ HM.out (HB.out.keep B1.out) hh).mono ?_
 rintro e w2 ⟨rfl,hb2⟩
 have B2:=hide (B1.out.trans (hb2.mono B1.out.size))
 have O2:=hide (own_keep O1.out hb2 (Nat.le_refl _))
 have X2:=hide (X1.out.below hb2)
 clear hb2
 go_wp2_with fail
 go_loopg [5,6] (p - 1) (fun g v i wx => ∃ j:Nat,j + 1 + g = p ∧ i = .int .i64 (Pl.it (Pl.nx d) (j + 1) h:Nat) ∧ wx.ownsRow (w.heap.size + 1) 3 1 v (j + 1) ((Pl.cyc (Pl.nx d) h (j + 1)).map (fun k:Nat => Value.int .i64 k)) ∧ Below w.heap.size w wx ∧ Row wx w.heap.size 24 [.slice A d.n cp,.slice B m cq,l])
 case atStart => exact ⟨0,by omega,rfl,O2.out,B2.out,X2.out⟩
 case round =>
  clear O2 B2 B1 X2 X1 O1 X0 B0
  obtain ⟨j,hjg,rfl,own,hb,hx0⟩:=hrel
  have HJ:=hide hjg
  have hjp:j + 1 ≤ p:=by omega
  have OWN:=hide own
  have HBL:=hide hb
  have X:=hide hx0
  have hbs:=hb.size
  obtain ⟨x,hx⟩:∃ x,x = Pl.it (Pl.nx d) (j + 1) h := ⟨_,rfl⟩
  rw [← hx]
  have HX:=hide hx
  have hxN:x < 4 * d.n:=by rw [hx]; exact it_lt (fun y hy => HD.out.hm.pb.maps y hy) hh (j + 1)
  clear hjg own hb hx hx0
  by_cases he:x = h
  ·have hjj:¬ j + 1 < p:=fun hlt => HP.out.2.2 (j + 1) (by omega) hlt (by rw [← HX.out,he])
   have t1:((x:Int) != (h:Int)) = false:=by rw [bne_eq_false_iff_eq]; omega
   have HE:=hide he
   obtain rfl:j + 1 = p := by omega
   obtain ⟨A5,c5,rfl⟩:=owns_slice OWN.out
   clear he hjj
   go_wp2
   go_ret
   exact ⟨A5,c5,rfl,own_keep OWN.out (Below.refl _ _) (by omega),HBL.out⟩
  ·have t1:((x:Int) != (h:Int)) = true:=by rw [bne_iff_ne]; omega
   have hjj:j + 1 < p:=by
    rcases Nat.lt_or_ge (j + 1) p with h1 | h1
    ·exact h1
    ·have:j + 1 = p:=by omega
     exact absurd (by rw [HX.out,this]; exact HP.out.2.1) he
   clear he
   obtain ⟨i0,hi0,hz0,hz1,hz2⟩:=info_parts intInfo
   have hwz1:w.heap.size + 1 ≤ wr.heap.size:=X.out.lt
   go_wp2_with (at_builtin; refine wpList_append_lies _ (by rfl) _ _ 22 (by rfl) (w.heap.size + 1) 3 i0 (.int .i64 0) 1 8 Try.underlying22 hi0 hz0 hz1 hz2 rfl (by omega) _ (j + 1) _ (by rfl) (OWN.out.alloc _) ⟨wr.heap.size,0,none⟩ 1 1 [.int .i64 (x:Int)] (by rfl) (by rfl) (one_news wr (.int .i64 (x:Int))) (by simp [Value.oneCell']) (by omega) (by unfold maxLen; omega) (by omega) (by simp; omega) (wr.heap.size + 1) (by simp) ?_; intro g3 c3 w3 own3 grow3 at3 lt3; have OWN3 := hide own3; have GR3 := hide grow3; have X3 := hide (Row.grown (X.out.alloc (.cells #[.int .i64 (x:Int)] 3)) grow3 (fun e => by have := (OWN.out.lt _ e.symm).1; omega)); obtain ⟨d0,d1,d2,_⟩:=box3 X3.out; clear own3 grow3 at3)
   have B3:=hide ((HBL.out.alloc hbs (.cells #[.int .i64 (x:Int)] 3)).grown GR3.out (by simp; omega) (fun k hk => by have := (OWN.out.lt k hk).1; omega))
   clear d0 d1 d2
   refine (rnext_any d HD.out A B cp cq m l x _ HM.out (HB.out.keep B3.out) hxN).mono ?_
   rintro e w4 ⟨rfl,hb4⟩
   go_wp2_with fail
   go_roundg (gk - 1)
   case measure => have := HJ.out; omega
   case rel =>
    refine ⟨j + 1,by have := HJ.out; omega,?_,?_,B3.out.trans (hb4.mono B3.out.size),X3.out.below hb4⟩
    ·rw [HX.out]; rfl
    ·have:=own_keep OWN3.out hb4 (Nat.le_refl _)
     rw [Pl.cyc_succ,List.map_append,← HX.out]
     exact this
end Go.Proofs.Ytghdiolnonejaaa
end
section
namespace Go.Proofs.Ytghdiolnonejaaa
open Go Go.RowKit
theorem OwnN.drew {w:World} {base g n cap:Nat} {l:List Nat} (h:OwnN w base g n cap l):OwnN w.drew base g n cap l := h
theorem grownBy_alloc (w:World) (o:Obj) (r:Option Nat):w.grownBy (w.alloc o) r :=
 ⟨rfl,rfl,rfl,by simp,fun k hk _ => Below.heap_alloc w o k hk⟩
theorem grownBy_drew {w w':World} {r:Option Nat} (h:w.grownBy w' r):w.grownBy w'.drew r := ⟨h.os,h.tape,h.output,h.size,h.block⟩
theorem jn_comm (l:List Nat) (a b:Nat):(l.set b a).set a b = jn l a b := by
 unfold jn
 by_cases e:a = b
 ·subst e; rfl
 ·exact List.set_comm _ _ (fun e2 => e e2.symm)
set_option maxHeartbeats 1000000 in
theorem rjoin_any (base g n cap a b na ca:Nat) (A:Option Addr) (lp:Value) (l:List Nat) (w:World) (h:OwnN w base g n cap l) (ha:a < n) (hb:b < n) (hn:n ≤ 100000) :
 Calls Try.prog 116 #[.agg #[.slice A na ca,.slice (some ⟨g,0,none⟩) n cap,lp],.int .i64 (a:Int),.int .i64 (b:Int)] w fun e w' => e = .returned (.tuple #[]) ∧ OwnN w' base g n cap (jn l a b) ∧ w.grownBy w' (some g) := by
 have hgl:g < w.heap.size:=by
  have:=World.ownsRow.lt h g rfl
  exact this.2
 obtain ⟨h2,g2⟩:=h.set a b
 obtain ⟨h3,g3⟩:=h2.set b a
 obtain ⟨h4,g4⟩:=h.set b a
 obtain ⟨h5,g5⟩:=h4.set a b
 have H3:=hide (OwnN.alloc h3 (.cells #[.slice A na ca,.slice (some ⟨g,0,none⟩) n cap,lp] 24))
 have H5:=hide (show OwnN _ base g n cap (jn l a b) by rw [jn_comm] at h5; exact OwnN.alloc h5 (.cells #[.slice A na ca,.slice (some ⟨g,0,none⟩) n cap,lp] 24))
 have G3:=hide (grownBy_trans (grownBy_trans g2 g3) (grownBy_alloc _ (.cells #[.slice A na ca,.slice (some ⟨g,0,none⟩) n cap,lp] 24) (some g)))
 have G5:=hide (grownBy_trans (grownBy_trans g4 g5) (grownBy_alloc _ (.cells #[.slice A na ca,.slice (some ⟨g,0,none⟩) n cap,lp] 24) (some g)))
 have c1:=h.cell ha
 have f1:=h.free a
 have c2:=h2.cell hb
 have c3:=h.cell hb
 have f3:=h.free b
 have c4:=h4.cell ha
 have hne:w.heap.size ≠ g:=by omega
 clear h h2 h3 h4 h5 g2 g3 g4 g5
 go_enter Try.func116,Try.ntmps116
 go_upto_region 1 with fail
 go_region
 all_goals
  go_wp2
  go_end0
  first
   | exact ⟨rfl,H3.out.drew,grownBy_drew G3.out⟩
   | exact ⟨rfl,H5.out.drew,grownBy_drew G5.out⟩
def sh1 (h:Int) (c:Nat):Int := if 0 ≤ h ∧ (c:Int) < h / 4 then h - 4 else h
theorem rshift_any (h:Int) (c:Nat) (w:World) (hh:-1000000 ≤ h ∧ h ≤ 1000000) :
 Calls Try.prog 118 #[.int .i64 h,.int .i64 (c:Int)] w fun e w' => e = .returned (.int .i64 (sh1 h c)) ∧ w' = w := by
 by_cases h0:0 ≤ h
 ·obtain ⟨k,rfl⟩:=Int.eq_ofNat_of_zero_le h0
  by_cases h1:c < k / 4
  ·have E:=hide (show sh1 (k:Int) c = (k:Int) - 4 by unfold sh1; rw [if_pos (by omega)])
   have t1:decide ((0:Int) ≤ (k:Int)) = true:=by simp
   have t2:decide ((c:Int) < (k:Int) / 4) = true:=by simp; omega
   go_enter Try.func118,Try.ntmps118
   go_wp2
   go_ret
   exact ⟨by rw [E.out]; rfl,rfl⟩
  ·have E:=hide (show sh1 (k:Int) c = (k:Int) by unfold sh1; rw [if_neg (by omega)])
   have t1:decide ((0:Int) ≤ (k:Int)) = true:=by simp
   have t2:decide ((c:Int) < (k:Int) / 4) = false:=by simp; omega
   go_enter Try.func118,Try.ntmps118
   go_wp2
   go_ret
   exact ⟨by rw [E.out]; rfl,rfl⟩
 ·have E:=hide (show sh1 h c = h by unfold sh1; rw [if_neg (by omega)])
  have t1:decide ((0:Int) ≤ h) = false:=by simpa using h0
  clear h0
  go_enter Try.func118,Try.ntmps118
  go_wp2
  go_ret
  exact ⟨by rw [E.out]; rfl,rfl⟩
end Go.Proofs.Ytghdiolnonejaaa
end
section
namespace Go.Proofs.Ytghdiolnonejaaa
open Go Go.RowKit
theorem rovers_any (A B:Option Addr) (n cp q cq c:Nat) (lp:Value) (sg:List Int) (w:World) (hs:IntsAt w A n sg) (hc:c < n) (hn:n ≤ 1000) :
 Calls Try.prog 115 #[.agg #[.slice A n cp,.slice B q cq,lp],.int .i64 (c:Int)] w fun e w' => e = .returned (.tuple #[.int .i64 (if Pl.pv sg c = 1 then 4 * (c:Int) + 3 else 4 * (c:Int) + 1),.int .i64 (if Pl.pv sg c = 1 then 4 * (c:Int) + 1 else 4 * (c:Int) + 3)]) ∧ Below w.heap.size w w' := by
 obtain ⟨b,o,rfl,h1⟩:=hs.at_ hc
 have hb:Below w.heap.size w (w.alloc (.cells #[.slice (some ⟨b,o,none⟩) n cp,.slice B q cq,lp] 24)):=(Below.refl _ _).alloc (Nat.le_refl _) _
 obtain ⟨u,hu⟩:∃ u,u = Pl.pv sg c := ⟨_,rfl⟩
 rw [show sg.getD c 0 = u from hu.symm] at h1
 rw [← hu]
 have h2:=cell_below h1 hb
 clear hs hu h1
 by_cases h:u = 1
 ·have t1:(u == 1) = true:=by simpa using h
  rw [if_pos h,if_pos h]
  clear h
  go_enter Try.func115,Try.ntmps115
  go_wp2
  go_ret2
  exact ⟨rfl,hb⟩
 ·have t1:(u == 1) = false:=by simpa using h
  rw [if_neg h,if_neg h]
  clear h
  go_enter Try.func115,Try.ntmps115
  go_wp2
  go_ret2
  exact ⟨rfl,hb⟩
theorem own_empty (W:World):(W.alloc (.cells #[] 3)).ownsRow W.heap.size 3 1 (.slice (some ⟨W.heap.size,0,none⟩) 0 0) 0 [] :=
 ⟨rfl,.inr ⟨W.heap.size,0,#[],rfl,Nat.le_refl _,heap_alloc_new W _,Nat.le_refl _,by unfold maxLen; omega,rfl,rfl⟩⟩
set_option maxRecDepth 100000 in
set_option maxHeartbeats 1000000 in
theorem rcopy_any (A B:Option Addr) (n cp q cq:Nat) (lp:Int) (sg mt:List Int) (w:World) (hs:IntsAt w A n sg) (hm:IntsAt w B q mt) (hn:n ≤ 1000) (hq:q ≤ 4000) :
 Calls Try.prog 70 #[.agg #[.slice A n cp,.slice B q cq,.int .i64 lp]] w fun e w' => ∃ (A2 B2:Option Addr) (c2 d2:Nat),e = .returned (.agg #[.slice A2 n c2,.slice B2 q d2,.int .i64 lp]) ∧ w'.ownsRow w.heap.size 3 1 (.slice A2 n c2) n (sg.map (.int .i64)) ∧ w'.ownsRow w.heap.size 3 1 (.slice B2 q d2) q (mt.map (.int .i64)) ∧ Below w.heap.size w w' ∧ (∀ g,(Value.slice A2 n c2).ownBlock = some g → (Value.slice B2 q d2).ownBlock ≠ some g) := by
 have HS:=hide hs
 have HM:=hide hm
 clear hs hm
 obtain ⟨i0,hi0,hz0,hz1,hz2⟩:=info_parts intInfo
 have B0:=hide (show Below w.heap.size w ((w.alloc (.cells #[.slice A n cp,.slice B q cq,.int .i64 lp] 24)).alloc (.cells #[.slice none 0 0,.slice none 0 0,.int .i64 0] 24)) from ((Below.refl _ _).alloc (Nat.le_refl _) _).alloc (by simp) _)
 have X0:=hide (show Row ((w.alloc (.cells #[.slice A n cp,.slice B q cq,.int .i64 lp] 24)).alloc (.cells #[.slice none 0 0,.slice none 0 0,.int .i64 0] 24)) w.heap.size 24 [.slice A n cp,.slice B q cq,.int .i64 lp] from (Row.new w _ _).alloc _)
 have Y0:=hide (show Row ((w.alloc (.cells #[.slice A n cp,.slice B q cq,.int .i64 lp] 24)).alloc (.cells #[.slice none 0 0,.slice none 0 0,.int .i64 0] 24)) (w.heap.size + 1) 24 [.slice none 0 0,.slice none 0 0,.int .i64 0] from row_at (vs := [.slice none 0 0,.slice none 0 0,.int .i64 0]) (by simp))
 obtain ⟨W0,hW0⟩:∃ W0:World,W0 = (w.alloc (.cells #[.slice A n cp,.slice B q cq,.int .i64 lp] 24)).alloc (.cells #[.slice none 0 0,.slice none 0 0,.int .i64 0] 24) := ⟨_,rfl⟩
 rw [← hW0] at B0 X0 Y0
 have HZ:=hide (show W0.heap.size = w.heap.size + 1 + 1 by rw [hW0]; simp)
 obtain ⟨x0,x1,x2,x3⟩:=box3 X0.out
 go_enter Try.func70,Try.ntmps70
 go_upto_region 1 with fail
 rw [← hW0]
 clear hW0
 have E0:=hide (own_empty W0)
 have X1:=hide (X0.out.alloc (.cells #[] 3))
 have Y1:=hide (Y0.out.alloc (.cells #[] 3))
 clear x0 x1 x2 x3
 obtain ⟨x0,x1,x2,x3⟩:=box3 X1.out
 have B1:=hide (B0.out.alloc (by have := HZ.out; omega) (.cells #[] 3))
 have hn1:0 + n ≤ maxLen:=by unfold maxLen; omega
 have hn2:(0 + n) * 8 ≤ 140737488355328:=by omega
 have hq1:0 + q ≤ maxLen:=by unfold maxLen; omega
 have hq2:(0 + q) * 8 ≤ 140737488355328:=by omega
 have hk1:W0.heap.size ≤ (W0.alloc (.cells #[] 3)).heap.size:=by simp
 go_upto_region 2 with (at_builtin; refine wpList_append_ints _ rfl _ _ 22 rfl W0.heap.size 3 i0 (.int .i64 0) 8 Try.underlying22 hi0 hz0 hz1 hz2 rfl _ 0 [] (by rfl) E0.out A n cp sg (by rfl) (HS.out.keep B1.out) hn1 hn2 hk1 ?_; intro v2 w2 own2 grow2; rw [Nat.zero_add,List.nil_append] at own2; obtain ⟨A2,c2,rfl⟩:=owns_slice own2; have X2 := hide (X1.out.grown grow2 (fun e => by have := (E0.out.lt _ e.symm).1; have := HZ.out; omega)); have Y2 := hide (Y1.out.grown grow2 (fun e => by have := (E0.out.lt _ e.symm).1; have := HZ.out; omega)); have B2 := hide (B1.out.grown grow2 (by have := B1.out.size; omega) (fun k hk => by have := (E0.out.lt k hk).1; have := HZ.out; omega)); have OWN2 := hide own2; clear own2 grow2 x0 x1 x2 x3; obtain ⟨x0,x1,x2,x3⟩:=box3 X2.out)
 obtain ⟨W3,hW3⟩:∃ W3:World,W3 = w2.setCell ⟨w.heap.size,0,none⟩ (.slice A2 n c2) := ⟨_,rfl⟩
 have X3:=hide (show Row W3 w.heap.size 24 [.slice A2 n c2,.slice B q cq,.int .i64 lp] by rw [hW3]; exact X2.out.set 0 _)
 have Y3:=hide (show Row W3 (w.heap.size + 1) 24 [.slice none 0 0,.slice none 0 0,.int .i64 0] by rw [hW3]; exact Y2.out.other (by simp) _)
 have B3:=hide (show Below w.heap.size w W3 by rw [hW3]; exact B2.out.setCell (by show w.heap.size ≤ w.heap.size; omega) _)
 have OWN3:=hide (show W3.ownsRow W0.heap.size 3 1 (.slice A2 n c2) n (sg.map (.int .i64)) by rw [hW3]; exact ownsRow_setCell_below OWN2.out (by have := HZ.out; show w.heap.size < W0.heap.size; omega) _)
 rw [← hW3]
 have hz3:w.heap.size + 1 < W3.heap.size:=Y3.out.lt
 have hlt3:∀ g,(Value.slice A2 n c2).ownBlock = some g → g < W3.heap.size:=fun g hg => (OWN3.out.lt g hg).2
 clear hW3 x0 x1 x2 x3 X2 Y2 B2 OWN2 X1 Y1 B1 E0 X0 Y0 B0
 have E4:=hide (own_empty W3)
 have X4:=hide (X3.out.alloc (.cells #[] 3))
 have Y4:=hide (Y3.out.alloc (.cells #[] 3))
 have B4:=hide (B3.out.alloc (by omega) (.cells #[] 3))
 have O4:=hide (OWN3.out.alloc (.cells #[] 3))
 obtain ⟨x0,x1,x2,x3⟩:=box3 X4.out
 have hk2:W3.heap.size ≤ (W3.alloc (.cells #[] 3)).heap.size:=by simp
 go_upto_region 3 with (at_builtin; refine wpList_append_ints _ rfl _ _ 22 rfl W3.heap.size 3 i0 (.int .i64 0) 8 Try.underlying22 hi0 hz0 hz1 hz2 rfl _ 0 [] (by rfl) E4.out B q cq mt (by rfl) (HM.out.keep B4.out) hq1 hq2 hk2 ?_; intro v5 w5 own5 grow5; rw [Nat.zero_add,List.nil_append] at own5; obtain ⟨B2,d2,rfl⟩:=owns_slice own5; have X5 := hide (X4.out.grown grow5 (fun e => by have := (E4.out.lt _ e.symm).1; omega)); have Y5 := hide (Y4.out.grown grow5 (fun e => by have := (E4.out.lt _ e.symm).1; omega)); have B5 := hide (B4.out.grown grow5 (by have := B4.out.size; omega) (fun k hk => by have := (E4.out.lt k hk).1; omega)); have OWN5 := hide own5; have O5 := hide (O4.out.kept grow5 (.inr (fun e => by have := hlt3 _ e; have := (E4.out.lt _ rfl).1; omega))); clear own5 grow5 x0 x1 x2 x3; obtain ⟨x0,x1,x2,x3⟩:=box3 X5.out)
 obtain ⟨y0,y1,y2,y3⟩:=box3 Y5.out
 have hzw:w.heap.size < W0.heap.size:=by have := HZ.out; omega
 go_wp2
 have YF:=hide ((((Y5.out.other (show w.heap.size + 1 ≠ (⟨w.heap.size,1,none⟩:Addr).block by show w.heap.size + 1 ≠ w.heap.size; omega) (.slice B2 q d2)).set 0 (.slice A2 n c2)).set 1 (.slice B2 q d2)).set 2 (.int .i64 lp))
 refine bodyPost_ret (v := .agg #[.slice A2 n c2,.slice B2 q d2,.int .i64 lp]) ?_ rfl ?_
 ·obtain ⟨r0,r1,r2,_⟩:=box3 YF.out
  simp [results,Try.results70,go_sem,r0,r1,r2]
 ·have k1:w.heap.size + 1 < W0.heap.size:=by have := HZ.out; omega
  refine ⟨A2,B2,c2,d2,rfl,?_,?_,?_,fun g hg e => ?_⟩
  ·exact own_keep (ownsRow_setCell_below (ownsRow_setCell_below (ownsRow_setCell_below (ownsRow_setCell_below O5.out (by show w.heap.size < W0.heap.size; omega) _) (by show w.heap.size + 1 < W0.heap.size; omega) _) (by show w.heap.size + 1 < W0.heap.size; omega) _) (by show w.heap.size + 1 < W0.heap.size; omega) _) (Below.refl _ _) (by omega)
  ·exact own_keep (ownsRow_setCell_below (ownsRow_setCell_below (ownsRow_setCell_below (ownsRow_setCell_below OWN5.out (by show w.heap.size < W3.heap.size; omega) _) (by show w.heap.size + 1 < W3.heap.size; omega) _) (by show w.heap.size + 1 < W3.heap.size; omega) _) (by show w.heap.size + 1 < W3.heap.size; omega) _) (Below.refl _ _) (by omega)
  ·exact (((B5.out.setCell (by show w.heap.size ≤ w.heap.size; omega) _).setCell (by show w.heap.size ≤ w.heap.size + 1; omega) _).setCell (by show w.heap.size ≤ w.heap.size + 1; omega) _).setCell (by show w.heap.size ≤ w.heap.size + 1; omega) _
  ·have h1:=hlt3 g hg
   have h2:=(OWN5.out.lt g e).1
   omega
end Go.Proofs.Ytghdiolnonejaaa
end
