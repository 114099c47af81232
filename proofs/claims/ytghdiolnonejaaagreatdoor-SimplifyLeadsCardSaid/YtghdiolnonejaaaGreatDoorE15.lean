/-
 The texts Hr.
-/
import Derived.Test.YtghdiolnonejaaaGreatDoorE12
set_option linter.unusedVariables false
set_option linter.unusedSimpArgs false
section
namespace Go.Proofs.YtghdiolnonejaaaGreatDoor
open Go Go.RowKit
attribute [local go_sem ↓] Go.wp_at_zero Go.wp_at_succ
theorem lds_apN {d e:Pl.Dg} {ms:List Mv} (h:Lds d ms e):(∀ j y,ms[j]? = some y → apC (apN d ms j) y = 0) ∧ apN d ms ms.length = e := by
 induction h with
 | nil d => exact ⟨fun j y hy => by simp at hy,rfl⟩
 | cons h1 _ ih =>
   refine ⟨fun j y hy => ?_,ih.2⟩
   cases j with
   | zero =>
     simp at hy
     rw [← hy]
     exact h1
   | succ j => exact ih.1 j y (by simpa using hy)
theorem lds_keep {d e:Pl.Dg} {ms:List Mv} (h:Lds d ms e):Pl.Valid d → Pl.Valid e ∧ strN e + e.lp = strN d + d.lp := by
 induction h with
 | nil d => exact fun hd => ⟨hd,rfl⟩
 | cons h1 _ ih =>
   intro hd
   obtain ⟨a1,a2⟩:=ap_ok hd h1
   obtain ⟨b1,b2⟩:=ih a1
   exact ⟨b1,b2.trans (a2 _ _ (strN_str _ hd.wf) (strN_str _ a1.wf)).symm⟩
def Kd245 (ms:List Mv):Prop := ∀ z,z ∈ ms → z.kind = 2 ∨ z.kind = 4 ∨ z.kind = 5
theorem run_kinds {k:Nat}:∀ (l:List Mv) (r:Nat),runOk k r l → Kd245 l
 | [],_,_ => fun z hz => absurd hz (by simp)
 | y :: l, r, h => by
   intro z hz
   rcases h with ⟨h5,_,hr⟩ | ⟨h24,hr⟩ <;> rcases List.mem_cons.1 hz with rfl | hz
   ·exact .inr (.inr h5)
   ·exact run_kinds l _ hr z hz
   ·exact h24.imp id .inl
   ·exact run_kinds l _ hr z hz
theorem apg_245 {r:Pl.Dg} (hr:Pl.Valid r) {z:Mv} (hk:z.kind = 2 ∨ z.kind = 4 ∨ z.kind = 5) (hc:apC r z = 0):ApG r z := by
 refine ⟨fun A B n cp cq m lp w hn hm hl hg => ?_,fun h => (ap_ok hr h).1,fun h f hf => stok_of hr h f hf⟩
 subst hn
 subst hl
 obtain ⟨k,x,y,s,o⟩:=z
 obtain ⟨_,hin,_⟩:=apC_zero hc
 have hin':=hin
 unfold inR at hin'
 simp only at hin' hk ⊢
 rcases hk with rfl | rfl | rfl
 ·have hx:0 ≤ x:=by simp at hin'; omega
  obtain ⟨a,rfl⟩:=Int.eq_ofNat_of_zero_le hx
  have e:apC r ⟨2,(a:Int),y,s,o⟩ = uncC r a:=by rw [apC_in (show (1:Int) ≤ 2 ∧ (2:Int) ≤ 5 by decide) hin]; rfl
  rw [e]
  exact apply_2 r hr A B cp cq m a y s o w hm hg hin
 ·have hx:0 ≤ x:=by simp at hin'; omega
  have hy:0 ≤ y:=by simp at hin'; omega
  obtain ⟨a,rfl⟩:=Int.eq_ofNat_of_zero_le hx
  obtain ⟨b,rfl⟩:=Int.eq_ofNat_of_zero_le hy
  have e:apC r ⟨4,(a:Int),(b:Int),s,o⟩ = unpC r a b:=by rw [apC_in (show (1:Int) ≤ 4 ∧ (4:Int) ≤ 5 by decide) hin]; rfl
  rw [e]
  exact apply_4 r hr A B cp cq m a b s o w hm hg hin
 ·have hx:0 ≤ x:=by simp at hin'; omega
  obtain ⟨a,rfl⟩:=Int.eq_ofNat_of_zero_le hx
  have e:apC r ⟨5,(a:Int),y,s,o⟩ = sldC r a:=by rw [apC_in (show (1:Int) ≤ 5 ∧ (5:Int) ≤ 5 by decide) hin]; rfl
  rw [e]
  exact apply_5 r hr A B cp cq m a y s o w hm hg hin
theorem play_e (d:Pl.Dg) (hd:Pl.Valid d) (A B C:Option Addr) (cp cq m nc cc:Nat) (ms:List Mv) (x:Pl.Dg) (n' m' l':Nat) (w:World) (hm:m = 4 * d.n) (hg:DgAt w A B d) (hc:MovesAt w (.slice C nc cc) ms) (hnc:nc ≤ 10000) (hk:Kd245 ms) (hL:Lds d ms x) (hn':n' = x.n) (hm':m' = 4 * x.n) (hl':l' = x.lp) :
 Calls Tryz.prog 13 #[.agg #[.slice A d.n cp,.slice B m cq,.int .i64 d.lp],.slice C nc cc] w fun e w' => ∃ (A9 B9 C9:Option Addr) (c8 c9 q:Nat),e = .returned (.tuple #[.agg #[.slice A9 n' c8,.slice B9 m' c9,.int .i64 (l':Int)],.slice C9 nc q,.int .i64 (-1),.int .i64 0]) ∧ DgAt w' A9 B9 x ∧ Below w.heap.size w w' := by
 obtain ⟨h1,h2⟩:=lds_apN hL
 have hcv:=hc.v.a
 refine (play_gen d hd A B C cp cq m nc cc ms w hm hg hcv hnc (fun k z hz hv => apg_245 hv (hk z (List.mem_of_getElem? hz)) (h1 k z hz))).mono ?_
 rintro e w' ⟨_,hyes,hb⟩
 obtain ⟨A9,B9,C9,c8,c9,q,n,mm,lp,bs,e1,e2,e3,_,rfl,hT,_⟩:=hyes h1
 rw [h2] at e1 e3 hT
 subst hn'
 subst hl'
 subst hm'
 subst e1
 subst e2
 subst e3
 rw [← hcv.1]
 exact ⟨A9,B9,C9,c8,c9,q,rfl,hT.at,hb⟩
theorem min_e (r:Pl.Dg) (hr:Pl.Valid r) (h0:remL r = []) (A B:Option Addr) (n cp cq m lp:Nat) (w:World) (hn:n = r.n) (hm:m = 4 * r.n) (hl:lp = r.lp) (hg:DgAt w A B r) :
 Calls Tryz.prog 14 #[.agg #[.slice A n cp,.slice B m cq,.int .i64 (lp:Int)]] w fun e w' => e = .returned (.bool true) ∧ Below w.heap.size w w' := by
 subst hn
 subst hl
 have h:=Minimal_any r hr A B cp cq m w hm hg
 rw [Pl.vb_true h0] at h
 exact h
set_option maxRecDepth 100000 in
set_option maxHeartbeats 4000000 in
theorem sleads_valid (d:Pl.Dg) (hd:Pl.Valid d) (A B:Option Addr) (cp cq m s:Nat) (w:World) (hm:m = 4 * d.n) (hg:DgAt w A B d) (ht:GT w) (hs:s < 256) :
 Calls Tryz.prog 4 #[.agg #[.slice A d.n cp,.slice B m cq,.int .i64 d.lp],.int .u8 (s:Int)] w fun e w' => e = .returned (.bool true) ∧ Below w.heap.size w w' := by
 have HM:=hide hm
 have HG:=hide hg
 have HT:=hide ht
 have hn:=hd.wf.few
 have hlp:=hd.wf.lp
 clear hm hg ht
 have X0:=hide (row_at (W := w) (g := w.heap.size) (t := 24) (vs := [.slice A d.n cp,.slice B m cq,.int .i64 (d.lp:Int)]) rfl)
 have B0:=hide (show Below w.heap.size w (w.alloc (.cells #[.slice A d.n cp,.slice B m cq,.int .i64 (d.lp:Int)] 24)) from (Below.refl _ _).alloc (Nat.le_refl _) _)
 go_enter Tryz.func4,Tryz.ntmps4
 go_wp2_with fail
 refine (awake10 _).mono ?_
 rintro e w1 ⟨rfl,hb1⟩
 have Y0:=hide (X0.out.below hb1)
 have B1:=hide (B0.out.trans (hb1.mono B0.out.size))
 clear X0 B0 hb1
 obtain ⟨d0,d1,d2,d3⟩:=box3 Y0.out
 go_wp2_with fail
 refine (few10_any A B d.n m cp cq (d.lp:Int) w1).mono ?_
 rintro e w2 ⟨rfl,hb2⟩
 have Z0:=hide (Y0.out.below hb2)
 have B2:=hide (B1.out.trans (hb2.mono B1.out.size))
 clear Y0 B1 hb2 d0 d1 d2 d3
 obtain ⟨gb,hgb⟩:∃ b,b = (decide (d.n ≤ 9) && decide (m ≤ 45)) := ⟨_,rfl⟩
 rw [← hgb]
 obtain ⟨d0,d1,d2,d3⟩:=box3 Z0.out
 cases gb with
 | false =>
   clear hgb
   go_wp2_with fail
   refine (awake10 _).mono ?_
   rintro e w3 ⟨rfl,hb3⟩
   have B3:=hide (B2.out.trans (hb3.mono B2.out.size))
   clear hb3 d0 d1 d2 d3
   go_wp2
   go_ret
   exact ⟨rfl,B3.out⟩
 | true =>
   have h20:d.n ≤ 20:=by
    have:=hgb.symm
    simp at this
    omega
   clear hgb
   go_wp2_with fail
   refine (valid_yes d hd A B cp cq m _ HM.out (HG.out.keep B2.out)).mono ?_
   rintro e w3 ⟨rfl,hb3⟩
   have X3:=hide (Z0.out.below hb3)
   have B3:=hide (B2.out.trans (hb3.mono B2.out.size))
   clear hb3 d0 d1 d2 d3 B2 Z0
   obtain ⟨d0,d1,d2,d3⟩:=box3 X3.out
   obtain ⟨k,hk⟩:∃ k,k = s % 4 := ⟨_,rfl⟩
   have hki:(s:Int).tmod 4 = (k:Int):=by rw [hk]; rfl
   have hk8:k ≤ 8:=by omega
   clear hk
   have P3:=B3
   obtain ⟨x,hx⟩:∃ x,x = dnD d := ⟨_,rfl⟩
   obtain ⟨y,hy⟩:∃ y,y = redD k d := ⟨_,rfl⟩
   obtain ⟨ms,hms⟩:∃ l,l = dnM d := ⟨_,rfl⟩
   obtain ⟨ml,hml⟩:∃ l,l = redM k d := ⟨_,rfl⟩
   have XV:=hide (show Pl.Valid x ∧ x.n ≤ 20 ∧ dnD x = x ∧ dnM x = [] from by
    have h:=dn_all hd
    rw [hx]
    exact ⟨h.1,by omega,(dn_stop h.2.2.1).1,(dn_stop h.2.2.1).2⟩)
   have YV:=hide (show Pl.Valid y ∧ y.n ≤ 20 ∧ redD k y = y ∧ redM k y = [] from by
    have h:=red_end hd k
    have h2:=dn_all hd
    rw [hy]
    exact ⟨h.1,by omega,red_again hd k⟩)
   have MX:=hide (show remL x = [] ∧ Lds d ms x ∧ Kd245 ms ∧ x.n ≤ d.n from by
    have h:=dn_all hd
    rw [hx,hms]
    exact ⟨h.2.2.1,h.2.2.2.2,fun z hz => (h.2.2.2.1 z hz).imp id .inl,by omega⟩)
   have MY:=hide (show remL y = [] ∧ Lds d ml y ∧ Kd245 ml ∧ y.n ≤ x.n from by
    have h:=red_end hd k
    rw [hy,hml,hx]
    exact ⟨h.2.1,h.2.2.2.2,run_kinds _ _ (red_run hd k),h.2.2.2.1⟩)
   obtain ⟨T,hT⟩:∃ T,strN d + d.lp = T := ⟨_,rfl⟩
   have HTT:=hide hT
   have HTX:=hide (show strN x + x.lp = T from (lds_keep MX.out.2.1 hd).2.trans hT)
   have HTY:=hide (show strN y + y.lp = T from (lds_keep MY.out.2.1 hd).2.trans hT)
   clear hT
   have hxn:=XV.out.1.wf.few
   have hxl:=XV.out.1.wf.lp
   have hyn:=YV.out.1.wf.few
   have hyl:=YV.out.1.wf.lp
   have hmsl:ms.length ≤ 1000:=by rw [hms]; have := (dn_all hd).2.1; omega
   have hmll:ml.length ≤ 1000:=by rw [hml]; have := red_len hd hk8; omega
   obtain ⟨nx,hnx⟩:∃ n,n = x.n := ⟨_,rfl⟩
   obtain ⟨mx,hmx⟩:∃ n,n = 4 * x.n := ⟨_,rfl⟩
   obtain ⟨lx,hlx⟩:∃ n,n = x.lp := ⟨_,rfl⟩
   obtain ⟨ny,hny⟩:∃ n,n = y.n := ⟨_,rfl⟩
   obtain ⟨my,hmy⟩:∃ n,n = 4 * y.n := ⟨_,rfl⟩
   obtain ⟨ly,hly⟩:∃ n,n = y.lp := ⟨_,rfl⟩
   obtain ⟨nl,hnl⟩:∃ n,n = ms.length := ⟨_,rfl⟩
   obtain ⟨np,hnp⟩:∃ n,n = ml.length := ⟨_,rfl⟩
   rw [← hnx] at hxn
   rw [← hlx] at hxl
   rw [← hny] at hyn
   rw [← hly] at hyl
   rw [← hnl] at hmsl
   rw [← hnp] at hmll
   have hyx:ny ≤ nx:=by rw [hny,hnx]; exact MY.out.2.2.2
   have hxd:nx ≤ d.n:=by rw [hnx]; exact MX.out.2.2.2
   have EX:=hide (show nx = x.n ∧ mx = 4 * x.n ∧ lx = x.lp ∧ nl = ms.length ∧ dnD d = x ∧ dnM d = ms from ⟨hnx,hmx,hlx,hnl,hx.symm,hms.symm⟩)
   have EY:=hide (show ny = y.n ∧ my = 4 * y.n ∧ ly = y.lp ∧ np = ml.length ∧ redD k d = y ∧ redM k d = ml from ⟨hny,hmy,hly,hnp,hy.symm,hml.symm⟩)
   clear hx hy hms hml hnx hmx hlx hny hmy hly hnl hnp d0 d1 d2 d3
   obtain ⟨d0,d1,d2,d3⟩:=box3 X3.out
   go_wp2_with fail
   refine (down_e d hd A B d.n cp cq m d.lp _ rfl HM.out rfl (HG.out.keep P3.out) x ms nx mx lx nl EX.out.2.2.2.2.1 EX.out.2.2.2.2.2 EX.out.1 EX.out.2.1 EX.out.2.2.1 EX.out.2.2.2.1).mono ?_
   rintro e w4 ⟨Au,Bu,Lu,cu,eu,qu,rfl,hgu,hvu,hbu⟩
   clear d0 d1 d2 d3
   go_upto_region 4 with fail
   obtain ⟨W4,hW4⟩:∃ W,W = w4.alloc (.cells #[.slice Au nx cu,.slice Bu mx eu,.int .i64 (lx:Int)] 24) := ⟨_,rfl⟩
   obtain ⟨gu,hgux⟩:∃ g,g = w4.heap.size := ⟨_,rfl⟩
   have b4:=hbu.trans (((show Below w4.heap.size w4 W4 by rw [hW4]; exact (Below.refl _ _).alloc (Nat.le_refl _) _)).mono hbu.size)
   have c4:Below w4.heap.size w4 W4:=by rw [hW4]; exact (Below.refl _ _).alloc (Nat.le_refl _) _
   rw [← hW4,← hgux]
   have X4:=hide (X3.out.below b4)
   have Ku4:=hide (show Row W4 gu 24 [.slice Au nx cu,.slice Bu mx eu,.int .i64 (lx:Int)] by rw [hW4]; exact row_at (vs := [.slice Au nx cu,.slice Bu mx eu,.int .i64 (lx:Int)]) hgux)
   have Du4:=hide (hgu.keep c4)
   have Mu4:=hide (hvu.kp (.of_below c4))
   have P4:=hide (P3.out.trans (b4.mono P3.out.size))
   clear hW4 hgux b4 c4 hgu hvu hbu X3 P3
   obtain ⟨d0,d1,d2,d3⟩:=box3 X4.out
   go_wp2_with fail
   refine (red_e d hd h20 k hk8 (k:Int) rfl A B d.n cp cq m d.lp _ rfl HM.out rfl (HG.out.keep P4.out) (HT.out.below P4.out) y ml ny my ly np EY.out.2.2.2.2.1 EY.out.2.2.2.2.2 EY.out.1 EY.out.2.1 EY.out.2.2.1 EY.out.2.2.2.1).mono ?_
   rintro e w5 ⟨Az,Bz,Lz,cz,ez,qz,rfl,hgz,hvz,hbz⟩
   clear d0 d1 d2 d3
   go_upto_region 5 with fail
   obtain ⟨W5,hW5⟩:∃ W,W = w5.alloc (.cells #[.slice Az ny cz,.slice Bz my ez,.int .i64 (ly:Int)] 24) := ⟨_,rfl⟩
   obtain ⟨gz,hgzx⟩:∃ g,g = w5.heap.size := ⟨_,rfl⟩
   have b5:=hbz.trans (((show Below w5.heap.size w5 W5 by rw [hW5]; exact (Below.refl _ _).alloc (Nat.le_refl _) _)).mono hbz.size)
   have c5:Below w5.heap.size w5 W5:=by rw [hW5]; exact (Below.refl _ _).alloc (Nat.le_refl _) _
   rw [← hW5,← hgzx]
   have X5:=hide (X4.out.below b5)
   have Ku5:=hide (Ku4.out.below b5)
   have Kz5:=hide (show Row W5 gz 24 [.slice Az ny cz,.slice Bz my ez,.int .i64 (ly:Int)] by rw [hW5]; exact row_at (vs := [.slice Az ny cz,.slice Bz my ez,.int .i64 (ly:Int)]) hgzx)
   have Du5:=hide (Du4.out.keep b5)
   have Dz5:=hide (hgz.keep c5)
   have Mu5:=hide (Mu4.out.kp (.of_below b5))
   have Mz5:=hide (hvz.kp (.of_below c5))
   have P5:=hide (P4.out.trans (b5.mono P4.out.size))
   clear hW5 hgzx b5 c5 hgz hvz hbz X4 Ku4 Du4 Mu4 P4
   obtain ⟨d0,d1,d2,d3⟩:=box3 X5.out
   go_wp2_with fail
   refine (play_e d hd A B Lu cp cq m nl qu ms x nx mx lx _ HM.out (HG.out.keep P5.out) Mu5.out (by omega) MX.out.2.2.1 MX.out.2.1 EX.out.1 EX.out.2.1 EX.out.2.2.1).mono ?_
   rintro e w6 ⟨Ap,Bp,Lp,cp_,ep_,qp,rfl,hgp,hbp⟩
   clear d0 d1 d2 d3
   go_upto_region 6 with fail
   obtain ⟨W6,hW6⟩:∃ W,W = w6.alloc (.cells #[.slice Ap nx cp_,.slice Bp mx ep_,.int .i64 (lx:Int)] 24) := ⟨_,rfl⟩
   obtain ⟨gp,hgpx⟩:∃ g,g = w6.heap.size := ⟨_,rfl⟩
   have b6:=hbp.trans (((show Below w6.heap.size w6 W6 by rw [hW6]; exact (Below.refl _ _).alloc (Nat.le_refl _) _)).mono hbp.size)
   have c6:Below w6.heap.size w6 W6:=by rw [hW6]; exact (Below.refl _ _).alloc (Nat.le_refl _) _
   rw [← hW6,← hgpx]
   have X6:=hide (X5.out.below b6)
   have Ku6:=hide (Ku5.out.below b6)
   have Kz6:=hide (Kz5.out.below b6)
   have Kp6:=hide (show Row W6 gp 24 [.slice Ap nx cp_,.slice Bp mx ep_,.int .i64 (lx:Int)] by rw [hW6]; exact row_at (vs := [.slice Ap nx cp_,.slice Bp mx ep_,.int .i64 (lx:Int)]) hgpx)
   have Du6:=hide (Du5.out.keep b6)
   have Dz6:=hide (Dz5.out.keep b6)
   have Dp6:=hide (hgp.keep c6)
   have Mu6:=hide (Mu5.out.kp (.of_below b6))
   have Mz6:=hide (Mz5.out.kp (.of_below b6))
   have P6:=hide (P5.out.trans (b6.mono P5.out.size))
   clear hW6 hgpx b6 c6 hgp  hbp X5 Ku5 Kz5 Du5 Dz5 Mu5 Mz5 P5
   obtain ⟨d0,d1,d2,d3⟩:=box3 X6.out
   go_wp2_with fail
   refine (play_e d hd A B Lz cp cq m np qz ml y ny my ly _ HM.out (HG.out.keep P6.out) Mz6.out (by omega) MY.out.2.2.1 MY.out.2.1 EY.out.1 EY.out.2.1 EY.out.2.2.1).mono ?_
   rintro e w7 ⟨Aq,Bq,Lq,cq_,eq_,qq,rfl,hgq,hbq⟩
   clear d0 d1 d2 d3
   go_upto_region 7 with fail
   obtain ⟨W7,hW7⟩:∃ W,W = w7.alloc (.cells #[.slice Aq ny cq_,.slice Bq my eq_,.int .i64 (ly:Int)] 24) := ⟨_,rfl⟩
   obtain ⟨gq,hgqx⟩:∃ g,g = w7.heap.size := ⟨_,rfl⟩
   have b7:=hbq.trans (((show Below w7.heap.size w7 W7 by rw [hW7]; exact (Below.refl _ _).alloc (Nat.le_refl _) _)).mono hbq.size)
   have c7:Below w7.heap.size w7 W7:=by rw [hW7]; exact (Below.refl _ _).alloc (Nat.le_refl _) _
   rw [← hW7,← hgqx]
   have X7:=hide (X6.out.below b7)
   have Ku7:=hide (Ku6.out.below b7)
   have Kz7:=hide (Kz6.out.below b7)
   have Kp7:=hide (Kp6.out.below b7)
   have Kq7:=hide (show Row W7 gq 24 [.slice Aq ny cq_,.slice Bq my eq_,.int .i64 (ly:Int)] by rw [hW7]; exact row_at (vs := [.slice Aq ny cq_,.slice Bq my eq_,.int .i64 (ly:Int)]) hgqx)
   have Du7:=hide (Du6.out.keep b7)
   have Dz7:=hide (Dz6.out.keep b7)
   have Dp7:=hide (Dp6.out.keep b7)
   have Dq7:=hide (hgq.keep c7)
   have Mu7:=hide (Mu6.out.kp (.of_below b7))
   have Mz7:=hide (Mz6.out.kp (.of_below b7))
   have P7:=hide (P6.out.trans (b7.mono P6.out.size))
   clear hW7 hgqx b7 c7 hgq  hbq X6 Ku6 Kz6 Kp6 Du6 Dz6 Dp6 Mu6 Mz6 P6
   obtain ⟨d0,d1,d2,d3⟩:=box3 Kp7.out
   obtain ⟨e0,e1,e2,e3⟩:=box3 Ku7.out
   go_wp2_with fail
   refine (eq_e x Ap Bp Au Bu nx mx lx cp_ ep_ cu eu _ Dp7.out Du7.out EX.out.1 EX.out.2.1 (by have := EX.out.1; omega)).mono ?_
   rintro e w8 ⟨rfl,hb8⟩
   clear d0 d1 d2 d3 e0 e1 e2 e3
   have X8:=hide (X7.out.below hb8)
   have Ku8:=hide (Ku7.out.below hb8)
   have Kz8:=hide (Kz7.out.below hb8)
   have Kp8:=hide (Kp7.out.below hb8)
   have Kq8:=hide (Kq7.out.below hb8)
   have Du8:=hide (Du7.out.keep hb8)
   have Dz8:=hide (Dz7.out.keep hb8)
   have Dp8:=hide (Dp7.out.keep hb8)
   have Dq8:=hide (Dq7.out.keep hb8)
   have P8:=hide (P7.out.trans (hb8.mono P7.out.size))
   clear hb8 X7 Ku7 Kz7 Kp7 Kq7 Du7 Dz7 Dp7 Dq7 P7
   obtain ⟨d0,d1,d2,d3⟩:=box3 Kq8.out
   obtain ⟨e0,e1,e2,e3⟩:=box3 Kz8.out
   go_wp2_with fail
   refine (eq_e y Aq Bq Az Bz ny my ly cq_ eq_ cz ez _ Dq8.out Dz8.out EY.out.1 EY.out.2.1 (by have := EY.out.1; omega)).mono ?_
   rintro e w9 ⟨rfl,hb9⟩
   clear d0 d1 d2 d3 e0 e1 e2 e3
   have X9:=hide (X8.out.below hb9)
   have Ku9:=hide (Ku8.out.below hb9)
   have Kz9:=hide (Kz8.out.below hb9)
   have Kp9:=hide (Kp8.out.below hb9)
   have Kq9:=hide (Kq8.out.below hb9)
   have Du9:=hide (Du8.out.keep hb9)
   have Dz9:=hide (Dz8.out.keep hb9)
   have Dp9:=hide (Dp8.out.keep hb9)
   have Dq9:=hide (Dq8.out.keep hb9)
   have P9:=hide (P8.out.trans (hb9.mono P8.out.size))
   clear hb9 X8 Ku8 Kz8 Kp8 Kq8 Du8 Dz8 Dp8 Dq8 P8
   go_upto_region 9 with fail
   obtain ⟨V,hV⟩:∃ V,V = w9 := ⟨_,rfl⟩
   rw [← hV] at X9 Ku9 Kz9 Du9 Dz9 P9 ⊢
   clear hV
   obtain ⟨CC,hCC⟩:∃ CC,CC = (fun W => Below V.heap.size V W) := ⟨_,rfl⟩
   have hcw:∀ W,CC W → Below V.heap.size V W:=fun W h => by rw [hCC] at h; exact h
   have hcc:∀ p:Cls CC,Below V.heap.size V p.w:=fun p => hcw _ p.ok
   have hcm:∀ (p:Cls CC) (W:World),Below p.w.heap.size p.w W → CC W:=fun p W h => by rw [hCC]; exact (hcc p).trans (h.mono (hcc p).size)
   have hc0:CC V.drew:=by rw [hCC]; exact (Below.refl V.heap.size V).drew
   have HM1:=hide (fun (p:Cls CC) => calls_cls (C := CC) (min_e x XV.out.1 MX.out.1 Au Bu nx cu eu mx lx p.w EX.out.1 EX.out.2.1 EX.out.2.2.1 (Du9.out.keep (hcc p))) (fun e w' h => ⟨h.1,hcm p _ h.2⟩))
   have HM2:=hide (fun (p:Cls CC) => calls_cls (C := CC) (min_e y YV.out.1 MY.out.1 Az Bz ny cz ez my ly p.w EY.out.1 EY.out.2.1 EY.out.2.2.1 (Dz9.out.keep (hcc p))) (fun e w' h => ⟨h.1,hcm p _ h.2⟩))
   have HC1:=hide (fun (p:Cls CC) => calls_cls (C := CC) (comps_T x XV.out.1 Au Bu nx cu eu mx lx T p.w EX.out.2.1 (Du9.out.keep (hcc p)) EX.out.1 EX.out.2.2.1 HTX.out) (fun e w' h => ⟨h.1,hcm p _ h.2⟩))
   have HC2:=hide (fun (p:Cls CC) => calls_cls (C := CC) (comps_T d hd A B d.n cp cq m d.lp T p.w HM.out (HG.out.keep (P9.out.trans ((hcc p).mono P9.out.size))) rfl rfl HTT.out) (fun e w' h => ⟨h.1,hcm p _ h.2⟩))
   have HC3:=hide (fun (p:Cls CC) => calls_cls (C := CC) (comps_T y YV.out.1 Az Bz ny cz ez my ly T p.w EY.out.2.1 (Dz9.out.keep (hcc p)) EY.out.1 EY.out.2.2.1 HTY.out) (fun e w' h => ⟨h.1,hcm p _ h.2⟩))
   have c00:∀ p:Cls CC,p.w.cell? ⟨w.heap.size,0,none⟩ = some (.slice A d.n cp):=fun p => (X9.out.below (hcc p)).cell (i := 0) (by show 0 < 3; omega)
   have c01:∀ p:Cls CC,p.w.cell? ⟨w.heap.size,1,none⟩ = some (.slice B m cq):=fun p => (X9.out.below (hcc p)).cell (i := 1) (by show 1 < 3; omega)
   have c02:∀ p:Cls CC,p.w.cell? ⟨w.heap.size,2,none⟩ = some (.int .i64 (d.lp:Int)):=fun p => (X9.out.below (hcc p)).cell (i := 2) (by show 2 < 3; omega)
   have c10:∀ p:Cls CC,p.w.cell? ⟨gu,0,none⟩ = some (.slice Au nx cu):=fun p => (Ku9.out.below (hcc p)).cell (i := 0) (by show 0 < 3; omega)
   have c11:∀ p:Cls CC,p.w.cell? ⟨gu,1,none⟩ = some (.slice Bu mx eu):=fun p => (Ku9.out.below (hcc p)).cell (i := 1) (by show 1 < 3; omega)
   have c12:∀ p:Cls CC,p.w.cell? ⟨gu,2,none⟩ = some (.int .i64 (lx:Int)):=fun p => (Ku9.out.below (hcc p)).cell (i := 2) (by show 2 < 3; omega)
   have c20:∀ p:Cls CC,p.w.cell? ⟨gz,0,none⟩ = some (.slice Az ny cz):=fun p => (Kz9.out.below (hcc p)).cell (i := 0) (by show 0 < 3; omega)
   have c21:∀ p:Cls CC,p.w.cell? ⟨gz,1,none⟩ = some (.slice Bz my ez):=fun p => (Kz9.out.below (hcc p)).cell (i := 1) (by show 1 < 3; omega)
   have c22:∀ p:Cls CC,p.w.cell? ⟨gz,2,none⟩ = some (.int .i64 (ly:Int)):=fun p => (Kz9.out.below (hcc p)).cell (i := 2) (by show 2 < 3; omega)
   clear X9 Ku9 Kz9 Du9 Dz9
   have HCC:=hide hcc
   clear hCC hcw hcm hcc
   refine wp_region_cls CC (by kernel_rfl) (by kernel_rfl) hc0 (fun hne => ?_)
   iterate 2 (go_big_quiet_step (((go_at_call 14; with_reducible exact HM1.out _))))
   iterate 3 (go_big_quiet_step (((go_at_call 14; with_reducible exact HM2.out _))))
   iterate 22 (go_big_quiet_step (((go_at_call 15; with_reducible exact HC1.out _))))
   iterate 2 (go_big_quiet_step (((go_at_call 15; with_reducible exact HC2.out _))))
   iterate 5 (go_big_quiet_step (((go_at_call 15; with_reducible exact HC3.out _))))
   repeat (go_big_quiet_step (((go_at_call 15; with_reducible exact HC2.out _))))
   refine wpQuiet_nil ?_
   rintro _ ⟨p,rfl⟩
   have PE:=hide (P9.out.trans ((HCC.out p).mono P9.out.size))
   go_wp2
   go_ret
   exact ⟨rfl,PE.out⟩
set_option maxRecDepth 100000 in
set_option maxHeartbeats 4000000 in
theorem sleads_bad (sg mt:List Int) (lp:Int) (A B:Option Addr) (n q cp cq s:Nat) (w:World) (hs:IntsAt w A n sg) (hm:IntsAt w B q mt) (hn:n ≤ maxLen) (hq:q ≤ maxLen) (hlp:-9223372036854775808 ≤ lp ∧ lp ≤ 9223372036854775807) (hv:¬ Pl.VL sg mt lp) :
 Calls Tryz.prog 4 #[.agg #[.slice A n cp,.slice B q cq,.int .i64 lp],.int .u8 (s:Int)] w fun e w' => e = .returned (.bool true) ∧ Below w.heap.size w w' := by
 have HS:=hide hs
 have HM:=hide hm
 clear hs hm
 have X0:=hide (row_at (W := w) (g := w.heap.size) (t := 24) (vs := [.slice A n cp,.slice B q cq,.int .i64 lp]) rfl)
 have B0:=hide (show Below w.heap.size w (w.alloc (.cells #[.slice A n cp,.slice B q cq,.int .i64 lp] 24)) from (Below.refl _ _).alloc (Nat.le_refl _) _)
 go_enter Tryz.func4,Tryz.ntmps4
 go_wp2_with fail
 refine (awake10 _).mono ?_
 rintro e w1 ⟨rfl,hb1⟩
 have Y0:=hide (X0.out.below hb1)
 have B1:=hide (B0.out.trans (hb1.mono B0.out.size))
 clear X0 B0 hb1
 obtain ⟨d0,d1,d2,d3⟩:=box3 Y0.out
 go_wp2_with fail
 refine (few10_any A B n q cp cq lp w1).mono ?_
 rintro e w2 ⟨rfl,hb2⟩
 have Z0:=hide (Y0.out.below hb2)
 have B2:=hide (B1.out.trans (hb2.mono B1.out.size))
 clear Y0 B1 hb2 d0 d1 d2 d3
 obtain ⟨gb,hgb⟩:∃ b,b = (decide (n ≤ 9) && decide (q ≤ 45)) := ⟨_,rfl⟩
 rw [← hgb]
 clear hgb
 obtain ⟨d0,d1,d2,d3⟩:=box3 Z0.out
 cases gb with
 | false =>
   go_wp2_with fail
   refine (awake10 _).mono ?_
   rintro e w3 ⟨rfl,hb3⟩
   have B3:=hide (B2.out.trans (hb3.mono B2.out.size))
   clear hb3 d0 d1 d2 d3
   go_wp2
   go_ret
   exact ⟨rfl,B3.out⟩
 | true =>
   go_wp2_with fail
   refine (valid_any sg mt lp A B n q cp cq _ (HS.out.keep B2.out) (HM.out.keep B2.out) hn hq hlp).mono ?_
   rintro e w3 ⟨rfl,hb3⟩
   rw [Pl.vb_false hv]
   have B3:=hide (B2.out.trans (hb3.mono B2.out.size))
   clear hb3 d0 d1 d2 d3 B2 Z0
   go_wp2_with fail
   refine (awake10 _).mono ?_
   rintro e w4 ⟨rfl,hb4⟩
   have B4:=hide (B3.out.trans (hb4.mono B3.out.size))
   clear hb4
   go_wp2
   go_ret
   exact ⟨rfl,B4.out⟩
theorem simplifyLeads_walk (sg mt:List Int) (lp:Int) (A B:Option Addr) (n q cp cq s:Nat) (w:World) (hs:IntsAt w A n sg) (hm:IntsAt w B q mt) (hn:n ≤ maxLen) (hq:q ≤ maxLen) (hlp:-9223372036854775808 ≤ lp ∧ lp ≤ 9223372036854775807) (hk:s < 256) (ht:GT w) :
 Calls Tryz.prog 4 #[.agg #[.slice A n cp,.slice B q cq,.int .i64 lp],.int .u8 (s:Int)] w fun e w' => e = .returned (.bool true) ∧ Below w.heap.size w w' := by
 by_cases hv:Pl.VL sg mt lp
 ·have hl:=hs.len
  have hl2:=hm.len
  have hl3:=hv.len
  have en:(Pl.mk sg mt lp).n = n:=hl
  have em:nats (Pl.mk sg mt lp).mt = mt:=Pl.nats_mk hv.2.1
  have el:((Pl.mk sg mt lp).lp:Int) = lp:=by show ((lp.toNat:Nat):Int) = lp; have := hv.2.2; omega
  have h:=sleads_valid (Pl.mk sg mt lp) hv.1 A B cp cq q s w (by rw [en]; omega) ⟨by rw [en]; exact hs,by rw [en,em,show 4 * n = q by omega]; exact hm⟩ ht hk
  rw [en,el] at h
  exact h
 ·exact sleads_bad sg mt lp A B n q cp cq s w hs hm hn hq hlp hv
end Go.Proofs.YtghdiolnonejaaaGreatDoor
end
