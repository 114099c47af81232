/-
 The texts Me.
-/
import Derived.Test.YtghdiolnonejaaaT07
import Derived.Test.YtghdiolnonejaaaT09
set_option linter.unusedVariables false
set_option linter.unusedSimpArgs false
section
namespace Go.Proofs.Ytghdiolnonejaaa
open Go Go.RowKit
attribute [local go_sem ↓] Go.wp_at_zero Go.wp_at_succ
structure SC (w:World) (gx gy:Nat) (dv xv yv:List Value) (Ax Bx Ay By:Option Addr) (x y:Pl.Dg) (W:World):Prop where
 rd:Row W w.heap.size 24 dv
 rx:Row W gx 24 xv
 ry:Row W gy 24 yv
 tx:DgT W Ax Bx x
 ty:DgAt W Ay By y
 bel:Below w.heap.size w W
theorem SC.below {w W W':World} {gx gy:Nat} {dv xv yv:List Value} {Ax Bx Ay By:Option Addr} {x y:Pl.Dg} (h:SC w gx gy dv xv yv Ax Bx Ay By x y W) (hb:Below W.heap.size W W'):SC w gx gy dv xv yv Ax Bx Ay By x y W' :=
 ⟨h.rd.below hb,h.rx.below hb,h.ry.below hb,h.tx.keep hb,h.ty.keep hb,h.bel.trans (hb.mono h.bel.size)⟩
theorem Minimal_n (r:Pl.Dg) (hr:Pl.Valid r) (A B:Option Addr) (n cp cq m lp:Nat) (w:World) (hn:n = r.n) (hm:m = 4 * r.n) (hl:lp = r.lp) (hg:DgAt w A B r) :
 Calls Try.prog 15 #[.agg #[.slice A n cp,.slice B m cq,.int .i64 (lp:Int)]] w fun e w' => e = .returned (.bool (Pl.vb (remL r = []))) ∧ Below w.heap.size w w' := by
 subst hn hl
 exact Minimal_any r hr A B cp cq m w hm hg
theorem Same_n (a b:Pl.Dg) (σ:Nat → Nat) (I:Pl.Iso a b σ) (ha:Pl.Valid a) (hb:Pl.Valid b) (hn:b.n ≤ 20) (A B C D:Option Addr) (n cp cq m lp cp' cq' m':Nat) (w:World) (en:n = a.n) (em:m = 4 * a.n) (el:lp = a.lp) (hg:DgAt w A B a) (hm':m' = 4 * b.n) (hg':DgAt w C D b) :
 Calls Try.prog 29 #[.agg #[.slice A n cp,.slice B m cq,.int .i64 (lp:Int)],.agg #[.slice C b.n cp',.slice D m' cq',.int .i64 (b.lp:Int)]] w fun e w' => e = .returned (.bool true) ∧ Below w.heap.size w w' := by
 subst en el
 have h:=same_yes20 a b ha hb (by rw [I.n]; exact hn) hn A B C D cp cq m cp' cq' m' w em hg hm' hg'
 rw [Pl.vb_true ⟨σ,I⟩] at h
 exact h
set_option maxRecDepth 100000 in
set_option maxHeartbeats 8000000 in
theorem ssame_valid (d:Pl.Dg) (hd:Pl.Valid d) (A B C:Option Addr) (cp cq m nc cc:Nat) (cs:List Int) (w:World) (hm:m = 4 * d.n) (hg:DgAt w A B d) (hc:IntsAt w C nc cs) (hnc:nc ≤ maxLen) :
 Calls Try.prog 7 #[.agg #[.slice A d.n cp,.slice B m cq,.int .i64 d.lp],.slice C nc cc] w fun e w' => e = .returned (.bool true) ∧ Below w.heap.size w w' := by
 unfold maxLen at hnc
 have HM:=hide hm
 have HG:=hide hg
 have HCS:=hide hc
 have hn:=hd.wf.few
 have hlp:=hd.wf.lp
 clear hm hg hc
 have X0:=hide (row_at (W := w) (g := w.heap.size) (t := 24) (vs := [.slice A d.n cp,.slice B m cq,.int .i64 (d.lp:Int)]) rfl)
 have B0:=hide (show Below w.heap.size w (w.alloc (.cells #[.slice A d.n cp,.slice B m cq,.int .i64 (d.lp:Int)] 24)) from (Below.refl _ _).alloc (Nat.le_refl _) _)
 go_enter Try.func7,Try.ntmps7
 go_wp2_with fail
 refine (awake10 _).mono ?_
 rintro e w1 ⟨rfl,hb1⟩
 have Y0:=hide (X0.out.below hb1)
 have B1:=hide (B0.out.trans (hb1.mono B0.out.size))
 clear X0 B0 hb1
 obtain ⟨d0,d1,d2,d3⟩:=box3 Y0.out
 go_wp2_with fail
 refine (few10_any A B d.n m cp cq (d.lp:Int) w1).mono ?_
 rintro e w2 ⟨rfl,hb2⟩
 have Z0:=hide (Y0.out.below hb2)
 have B2:=hide (B1.out.trans (hb2.mono B1.out.size))
 clear Y0 B1 hb2 d0 d1 d2 d3
 obtain ⟨gb,hgb⟩:∃ b,b = (decide (d.n ≤ 9) && decide (m ≤ 45)) := ⟨_,rfl⟩
 rw [← hgb]
 obtain ⟨d0,d1,d2,d3⟩:=box3 Z0.out
 cases gb with
 | false =>
   clear hgb
   go_wp2_with fail
   refine (awake10 _).mono ?_
   rintro e w3 ⟨rfl,hb3⟩
   have B3:=hide (B2.out.trans (hb3.mono B2.out.size))
   clear hb3 d0 d1 d2 d3
   go_wp2
   go_ret
   exact ⟨rfl,B3.out⟩
 | true =>
   have hd9:d.n ≤ 9:=by
    simp only [Bool.true_eq,Bool.and_eq_true,decide_eq_true_eq] at hgb
    exact hgb.1
   clear hgb
   by_cases h18:18 < nc
   ·have h18i:(18:Int) < (nc:Int):=by omega
    clear h18
    go_wp2_with fail
    refine (awake10 _).mono ?_
    rintro e w3 ⟨rfl,hb3⟩
    have B3:=hide (B2.out.trans (hb3.mono B2.out.size))
    clear hb3 d0 d1 d2 d3
    go_wp2
    go_ret
    exact ⟨rfl,B3.out⟩
   ·have h18i:¬ ((18:Int) < (nc:Int)):=by omega
    have hnc18:nc ≤ 18:=by omega
    clear h18
    go_wp2_with fail
    refine (valid_yes d hd A B cp cq m _ HM.out (HG.out.keep B2.out)).mono ?_
    rintro e w3 ⟨rfl,hb3⟩
    have Z3:=hide (Z0.out.below hb3)
    have B3:=hide (B2.out.trans (hb3.mono B2.out.size))
    clear hb3 d0 d1 d2 d3 Z0 B2
    obtain ⟨d0,d1,d2,d3⟩:=box3 Z3.out
    go_wp2_with fail
    refine (renumber_any d hd A B C cp cq m nc cc cs _ HM.out (HG.out.keep B3.out) (HCS.out.keep B3.out) (by omega)).mono ?_
    rintro e w5 ⟨hres,hb5⟩
    have Z5:=hide (Z3.out.below hb5)
    have B5:=hide (B3.out.trans (hb5.mono B3.out.size))
    clear hb5 d0 d1 d2 d3 Z3 B3
    rcases hres with ⟨c,hc0,rfl⟩ | ⟨r,σ,A9,B9,c8,c9,hr,I,rfl,hT⟩
    ·have t1:(c != 0) = true:=by rw [bne_iff_ne]; exact hc0
     have B6:=hide (B5.out.alloc B5.out.size (.cells #[.slice none 0 0,.slice none 0 0,.int .i64 0] 24))
     clear hc0
     go_wp2
     go_ret
     exact ⟨rfl,B6.out⟩
    ·have HR:=hide hr
     have HI:=hide I
     have HT:=hide hT
     have hrl:=hr.wf.lp
     have hrn:=hr.wf.few
     clear hr I hT
     obtain ⟨N9,hN9⟩:∃ n,n = r.n := ⟨_,rfl⟩
     obtain ⟨L9,hL9⟩:∃ n,n = r.lp := ⟨_,rfl⟩
     obtain ⟨M9,hM9⟩:∃ n,n = 4 * r.n := ⟨_,rfl⟩
     rw [← hM9,← hN9,← hL9]
     rw [← hL9] at hrl
     rw [← hN9] at hrn
     have HN9:=hide hN9
     have HL9:=hide hL9
     have HM9:=hide hM9
     clear hN9 hL9 hM9
     have b6:=(Below.refl w5.heap.size w5).alloc (Nat.le_refl _) (.cells #[.slice A9 N9 c8,.slice B9 M9 c9,.int .i64 (L9:Int)] 24)
     have X6:=hide (row_at (W := w5) (g := w5.heap.size) (t := 24) (vs := [.slice A9 N9 c8,.slice B9 M9 c9,.int .i64 (L9:Int)]) rfl)
     have Z6:=hide (Z5.out.below b6)
     have T6:=hide (HT.out.keep b6)
     have B6:=hide (B5.out.trans (b6.mono B5.out.size))
     clear b6 Z5 HT B5
     obtain ⟨gx,hgx⟩:∃ g,g = w5.heap.size := ⟨_,rfl⟩
     have HDN:=hide (fun (W:World) (h:DgAt W A9 B9 r) => (show Calls Try.prog 12 #[.agg #[.slice A9 N9 c8,.slice B9 M9 c9,.int .i64 (L9:Int)]] W (DownPost (dnD r) (dnM r) W) by
      have h:=Down_any r HR.out A9 B9 c8 c9 M9 W HM9.out h
      rw [← HN9.out,← HL9.out] at h
      exact h))
     go_wp2_with fail
     refine (HDN.out _ T6.out.at).mono ?_
     rintro e w7 ⟨A7,B7,c7,c7',v7,rfl,hT7,_,hb7⟩
     have HV:=hide (dn_valid HR.out)
     obtain ⟨y,hy⟩:∃ r',r' = dnD r := ⟨_,rfl⟩
     rw [← hy] at hT7 HV ⊢
     have HY:=hide hy
     clear hy
     have hyn:=HV.out.wf.few
     have hyl:=HV.out.wf.lp
     obtain ⟨N8,hN8⟩:∃ n,n = y.n := ⟨_,rfl⟩
     obtain ⟨M8,hM8⟩:∃ n,n = 4 * y.n := ⟨_,rfl⟩
     obtain ⟨L8,hL8⟩:∃ n,n = y.lp := ⟨_,rfl⟩
     rw [← hM8,← hN8,← hL8]
     have HN8:=hide hN8
     have HL8:=hide hL8
     have HM8:=hide hM8
     clear hN8 hL8 hM8 hyn hyl HDN
     have b8:=(Below.refl w7.heap.size w7).alloc (Nat.le_refl _) (.cells #[.slice A7 N8 c7,.slice B7 M8 c7',.int .i64 (L8:Int)] 24)
     have S8:=hide (show SC w w5.heap.size w7.heap.size [.slice A d.n cp,.slice B m cq,.int .i64 (d.lp:Int)] [.slice A9 N9 c8,.slice B9 M9 c9,.int .i64 (L9:Int)] [.slice A7 N8 c7,.slice B7 M8 c7',.int .i64 (L8:Int)] A9 B9 A7 B7 r y (w7.alloc (.cells #[.slice A7 N8 c7,.slice B7 M8 c7',.int .i64 (L8:Int)] 24)) from
      ⟨(Z6.out.below hb7).below b8,(X6.out.below hb7).below b8,row_at (vs := [.slice A7 N8 c7,.slice B7 M8 c7',.int .i64 (L8:Int)]) rfl,(T6.out.keep hb7).keep b8,hT7.keep b8,(B6.out.trans (hb7.mono B6.out.size)).trans (b8.mono (B6.out.trans (hb7.mono B6.out.size)).size)⟩)
     clear b8 hb7 X6 Z6 T6 B6 hT7
     obtain ⟨gy,hgy⟩:∃ g,g = w7.heap.size := ⟨_,rfl⟩
     rw [← hgx,← hgy] at S8
     go_upto_region 7 with fail
     rw [← hgx,← hgy]
     clear hgx hgy
     obtain ⟨WZ,hWZ⟩:∃ W:World,W = w7.alloc (.cells #[.slice A7 N8 c7,.slice B7 M8 c7',.int .i64 (L8:Int)] 24) := ⟨_,rfl⟩
     rw [← hWZ] at S8 ⊢
     clear hWZ
     obtain ⟨CC,hCC⟩:∃ CC:World → Prop,CC = SC w gx gy [.slice A d.n cp,.slice B m cq,.int .i64 (d.lp:Int)] [.slice A9 N9 c8,.slice B9 M9 c9,.int .i64 (L9:Int)] [.slice A7 N8 c7,.slice B7 M8 c7',.int .i64 (L8:Int)] A9 B9 A7 B7 r y := ⟨_,rfl⟩
     have okW:∀ W:World,CC W → SC w gx gy [.slice A d.n cp,.slice B m cq,.int .i64 (d.lp:Int)] [.slice A9 N9 c8,.slice B9 M9 c9,.int .i64 (L9:Int)] [.slice A7 N8 c7,.slice B7 M8 c7',.int .i64 (L8:Int)] A9 B9 A7 B7 r y W:=fun W h => by rw [hCC] at h; exact h
     have ok:=fun p:Cls CC => okW p.w p.ok
     have kp:∀ (W W':World),CC W → Below W.heap.size W W' → CC W':=fun W W' h hb => by rw [hCC] at h ⊢; exact h.below hb
     have CC0:=hide (show CC WZ.drew by rw [hCC]; exact S8.out.below (Below.refl _ _).drew)
     obtain ⟨mb,hmb⟩:∃ b,b = Pl.vb (remL d = []) := ⟨_,rfl⟩
     have hmr:Pl.vb (remL r = []) = mb:=by rw [hmb,show (remL r = []) = (remL d = []) from propext (iso_minimal HI.out HR.out.wf hd.wf)]
     have HMX:=hide (fun (p:Cls CC) => calls_cls (C := CC) (v := .bool mb) (Minimal_n r HR.out A9 B9 N9 c8 c9 M9 L9 p.w HN9.out HM9.out HL9.out (ok p).tx.at) (fun e w' h => ⟨by rw [← hmr]; exact h.1,kp _ _ p.ok h.2⟩))
     have HMD:=hide (fun (p:Cls CC) => calls_cls (C := CC) (v := .bool mb) (Minimal_n d hd A B d.n cp cq m d.lp p.w rfl HM.out rfl (HG.out.keep (ok p).bel)) (fun e w' h => ⟨by rw [hmb]; exact h.1,kp _ _ p.ok h.2⟩))
     have HSX:=hide (fun (p:Cls CC) => calls_cls (C := CC) (v := .bool true) (Same_n r d σ HI.out HR.out hd (by omega) A9 B9 A B N9 c8 c9 M9 L9 cp cq m p.w HN9.out HM9.out HL9.out (ok p).tx.at HM.out (HG.out.keep (ok p).bel)) (fun e w' h => ⟨h.1,kp _ _ p.ok h.2⟩))
     have HSY:=hide (fun (hm1:mb = true) (p:Cls CC) => calls_cls (C := CC) (v := .bool true) (Same_n y d σ (by
      have h1:remL r = []:=Pl.vb_iff.1 (hmr.trans hm1)
      rw [HY.out,(dn_stop h1).1]; exact HI.out) HV.out hd (by omega) A7 B7 A B N8 c7 c7' M8 L8 cp cq m p.w HN8.out HM8.out HL8.out (ok p).ty HM.out (HG.out.keep (ok p).bel)) (fun e w' h => ⟨h.1,kp _ _ p.ok h.2⟩))
     have c30:∀ p:Cls CC,p.w.cell? ⟨w.heap.size,0,none⟩ = some (.slice A d.n cp):=fun p => (ok p).rd.cell (i := 0) (by show 0 < 3; omega)
     have c31:∀ p:Cls CC,p.w.cell? ⟨w.heap.size,1,none⟩ = some (.slice B m cq):=fun p => (ok p).rd.cell (i := 1) (by show 1 < 3; omega)
     have c32:∀ p:Cls CC,p.w.cell? ⟨w.heap.size,2,none⟩ = some (.int .i64 d.lp):=fun p => (ok p).rd.cell (i := 2) (by show 2 < 3; omega)
     have c40:∀ p:Cls CC,p.w.cell? ⟨gx,0,none⟩ = some (.slice A9 N9 c8):=fun p => (ok p).rx.cell (i := 0) (by show 0 < 3; omega)
     have c41:∀ p:Cls CC,p.w.cell? ⟨gx,1,none⟩ = some (.slice B9 M9 c9):=fun p => (ok p).rx.cell (i := 1) (by show 1 < 3; omega)
     have c42:∀ p:Cls CC,p.w.cell? ⟨gx,2,none⟩ = some (.int .i64 (L9:Int)):=fun p => (ok p).rx.cell (i := 2) (by show 2 < 3; omega)
     have c50:∀ p:Cls CC,p.w.cell? ⟨gy,0,none⟩ = some (.slice A7 N8 c7):=fun p => (ok p).ry.cell (i := 0) (by show 0 < 3; omega)
     have c51:∀ p:Cls CC,p.w.cell? ⟨gy,1,none⟩ = some (.slice B7 M8 c7'):=fun p => (ok p).ry.cell (i := 1) (by show 1 < 3; omega)
     have c52:∀ p:Cls CC,p.w.cell? ⟨gy,2,none⟩ = some (.int .i64 (L8:Int)):=fun p => (ok p).ry.cell (i := 2) (by show 2 < 3; omega)
     have HBL:=hide (fun p:Cls CC => (ok p).bel)
     clear kp ok okW hmr hmb hCC S8
     cases mb with
     | true =>
       refine wp_region_cls CC (by kernel_rfl) (by kernel_rfl) CC0.out (fun hne => ?_)
       repeat (go_big_quiet_step ((first | (go_at_call 15; first | with_reducible exact HMX.out _ | with_reducible exact HMD.out _) | (go_at_call 29; first | with_reducible exact HSX.out _ | with_reducible exact HSY.out rfl _))))
       refine wpQuiet_nil ?_
       rintro _ ⟨p,rfl⟩
       have hp:=hide (HBL.out p)
       clear HMX HMD HSX HSY HBL c30 c31 c32 c40 c41 c42 c50 c51 c52
       go_wp2
       go_ret
       exact ⟨rfl,hp.out⟩
     | false =>
       refine wp_region_cls CC (by kernel_rfl) (by kernel_rfl) CC0.out (fun hne => ?_)
       repeat (go_big_quiet_step ((first | (go_at_call 15; first | with_reducible exact HMX.out _ | with_reducible exact HMD.out _) | (go_at_call 29; exact HSX.out _))))
       refine wpQuiet_nil ?_
       rintro _ ⟨p,rfl⟩
       have hp:=hide (HBL.out p)
       clear HMX HMD HSX HSY HBL c30 c31 c32 c40 c41 c42 c50 c51 c52
       go_wp2
       go_ret
       exact ⟨rfl,hp.out⟩
set_option maxRecDepth 100000 in
set_option maxHeartbeats 8000000 in
theorem ssame_bad (sg mt:List Int) (lp:Int) (A B C:Option Addr) (n q cp cq nc cc:Nat) (w:World) (hs:IntsAt w A n sg) (hm:IntsAt w B q mt) (hn:n ≤ maxLen) (hq:q ≤ maxLen) (hlp:-9223372036854775808 ≤ lp ∧ lp ≤ 9223372036854775807) (hv:¬ Pl.VL sg mt lp) (hnc:nc ≤ maxLen) :
 Calls Try.prog 7 #[.agg #[.slice A n cp,.slice B q cq,.int .i64 lp],.slice C nc cc] w fun e w' => e = .returned (.bool true) ∧ Below w.heap.size w w' := by
 have HNC:=hide hnc
 unfold maxLen at hnc
 have HS:=hide hs
 have HM:=hide hm
 clear hs hm
 have X0:=hide (row_at (W := w) (g := w.heap.size) (t := 24) (vs := [.slice A n cp,.slice B q cq,.int .i64 lp]) rfl)
 have B0:=hide (show Below w.heap.size w (w.alloc (.cells #[.slice A n cp,.slice B q cq,.int .i64 lp] 24)) from (Below.refl _ _).alloc (Nat.le_refl _) _)
 go_enter Try.func7,Try.ntmps7
 go_wp2_with fail
 refine (awake10 _).mono ?_
 rintro e w1 ⟨rfl,hb1⟩
 have Y0:=hide (X0.out.below hb1)
 have B1:=hide (B0.out.trans (hb1.mono B0.out.size))
 clear X0 B0 hb1
 obtain ⟨d0,d1,d2,d3⟩:=box3 Y0.out
 go_wp2_with fail
 refine (few10_any A B n q cp cq lp w1).mono ?_
 rintro e w2 ⟨rfl,hb2⟩
 have Z0:=hide (Y0.out.below hb2)
 have B2:=hide (B1.out.trans (hb2.mono B1.out.size))
 clear Y0 B1 hb2 d0 d1 d2 d3
 obtain ⟨gb,hgb⟩:∃ b,b = (decide (n ≤ 9) && decide (q ≤ 45)) := ⟨_,rfl⟩
 rw [← hgb]
 clear hgb
 obtain ⟨d0,d1,d2,d3⟩:=box3 Z0.out
 cases gb with
 | false =>
   go_wp2_with fail
   refine (awake10 _).mono ?_
   rintro e w3 ⟨rfl,hb3⟩
   have B3:=hide (B2.out.trans (hb3.mono B2.out.size))
   clear hb3 d0 d1 d2 d3
   go_wp2
   go_ret
   exact ⟨rfl,B3.out⟩
 | true =>
   by_cases h18:18 < nc
   ·have h18i:(18:Int) < (nc:Int):=by omega
    clear h18
    go_wp2_with fail
    refine (awake10 _).mono ?_
    rintro e w3 ⟨rfl,hb3⟩
    have B3:=hide (B2.out.trans (hb3.mono B2.out.size))
    clear hb3 d0 d1 d2 d3
    go_wp2
    go_ret
    exact ⟨rfl,B3.out⟩
   ·have h18i:¬ ((18:Int) < (nc:Int)):=by omega
    clear h18
    go_wp2_with fail
    refine (valid_any sg mt lp A B n q cp cq _ (HS.out.keep B2.out) (HM.out.keep B2.out) hn hq hlp).mono ?_
    rintro e w3 ⟨rfl,hb3⟩
    rw [Pl.vb_false hv]
    have B3:=hide (B2.out.trans (hb3.mono B2.out.size))
    clear hb3 d0 d1 d2 d3 B2 Z0
    go_wp2_with fail
    refine (awake10 _).mono ?_
    rintro e w4 ⟨rfl,hb4⟩
    have B4:=hide (B3.out.trans (hb4.mono B3.out.size))
    clear hb4
    go_wp2
    go_ret
    exact ⟨rfl,B4.out⟩
theorem ssame_walk (sg mt cs:List Int) (lp:Int) (A B C:Option Addr) (n q cp cq nc cc:Nat) (w:World) (hs:IntsAt w A n sg) (hm:IntsAt w B q mt) (hc:IntsAt w C nc cs) (hn:n ≤ maxLen) (hq:q ≤ maxLen) (hnc:nc ≤ maxLen) (hlp:-9223372036854775808 ≤ lp ∧ lp ≤ 9223372036854775807) :
 Calls Try.prog 7 #[.agg #[.slice A n cp,.slice B q cq,.int .i64 lp],.slice C nc cc] w fun e w' => e = .returned (.bool true) ∧ Below w.heap.size w w' := by
 by_cases hv:Pl.VL sg mt lp
 ·have hl:=hs.len
  have hl2:=hm.len
  have hl3:=hv.len
  have en:(Pl.mk sg mt lp).n = n:=hl
  have em:nats (Pl.mk sg mt lp).mt = mt:=Pl.nats_mk hv.2.1
  have el:((Pl.mk sg mt lp).lp:Int) = lp:=by show ((lp.toNat:Nat):Int) = lp; have := hv.2.2; omega
  have h:=ssame_valid (Pl.mk sg mt lp) hv.1 A B C cp cq q nc cc cs w (by rw [en]; omega) ⟨by rw [en]; exact hs,by rw [en,em,show 4 * n = q by omega]; exact hm⟩ hc hnc
  rw [en,el] at h
  exact h
 ·exact ssame_bad sg mt lp A B C n q cp cq nc cc w hs hm hn hq hlp hv hnc
end Go.Proofs.Ytghdiolnonejaaa
end
