/-
 The texts Ro, Rp, Rzb.
-/
import Derived.Test.YtghdiolnonejaaaS08
import Derived.Test.YtghdiolnonejaaaS11
set_option linter.unusedVariables false
set_option linter.unusedSimpArgs false
section
namespace Go.Proofs.Ytghdiolnonejaaa
open Go Go.RowKit
attribute [local go_sem ↓] Go.wp_at_zero Go.wp_at_succ
theorem ropp_s (h:Nat) (w:World) (hh:h ≤ 1000000) :
 Calls Try.prog 117 #[.int .i64 (h:Int)] w fun e w' => e = .returned (.int .i64 (Pl.tn h 2:Nat)) ∧ w' = w :=
 (ropp_any h w hh).mono fun e w' h => ⟨h.1,h.2.symm⟩
theorem m_get {d:Pl.Dg} (hd:Pl.Wf d) {h:Nat} (hh:h < 4 * d.n):d.mt.getD h 0 = d.m h := by
 have hl:=hd.len
 unfold Pl.Dg.m
 rw [List.getD_eq_getElem?_getD,List.getD_eq_getElem?_getD,List.getElem?_eq_getElem (by omega)]; rfl
theorem own_sg {w:World} {base g n cap:Nat} {ss:List Int} (h:w.ownsRow base 3 1 (.slice (some ⟨g,0,none⟩) n cap) n (ss.map (.int .i64))) {k:Nat} (hk:k < n):w.cell? ⟨g,k,none⟩ = some (.int .i64 (Pl.pv ss k)) := by
 have hl:ss.length = n:=by have := h.1; simpa using this
 unfold Pl.pv
 rw [World.ownsRow.cellAt h k (by omega),List.getElem?_map,List.getElem?_eq_getElem (by omega),List.getD_eq_getElem?_getD,List.getElem?_eq_getElem (by omega)]; rfl
theorem own_form0 {w:World} {base n cap:Nat} {A:Option Addr} {xs:List Value} (h:w.ownsRow base 3 1 (.slice A n cap) n xs) (hn:0 < n):∃ g,A = some ⟨g,0,none⟩:=by
 obtain ⟨g,c,e,_⟩:=World.ownsRow.form h hn
 injection e with e
 exact ⟨g,e⟩
theorem ownN_ints {w:World} {base n cap:Nat} {A:Option Addr} {l:List Nat} (h:w.ownsRow base 3 1 (.slice A n cap) n (l.map (fun k:Nat => Value.int .i64 k))):IntsAt w A n (nats l) := by
 refine own_intsR (base := base) (c := cap) ?_
 unfold nats
 rw [List.map_map]
 exact h
theorem wf_small {d:Pl.Dg} (hd:Pl.Wf d) (h:Nat):d.mt.getD h 0 ≤ 1000 := by
 have hn:=hd.few
 have hl:=hd.len
 rcases Nat.lt_or_ge h (4 * d.n) with q | q
 ·rw [m_get hd q]
  have:=hd.lt h q
  omega
 ·rw [List.getD_eq_getElem?_getD,List.getElem?_eq_none (by omega)]
  exact Nat.zero_le _
theorem set_small {l:List Nat} (h:∀ k,l.getD k 0 ≤ 1000) {i v:Nat} (hv:v ≤ 1000):∀ k,(l.set i v).getD k 0 ≤ 1000 := by
 intro k
 rw [List.getD_eq_getElem?_getD,List.getElem?_set]
 by_cases e:i = k
 ·rw [if_pos e]
  split
  ·exact hv
  ·exact Nat.zero_le _
 ·rw [if_neg e,← List.getD_eq_getElem?_getD]
  exact h k
theorem jn_small {l:List Nat} (h:∀ k,l.getD k 0 ≤ 1000) {a b:Nat} (ha:a ≤ 1000) (hb:b ≤ 1000):∀ k,(jn l a b).getD k 0 ≤ 1000 := set_small (set_small h hb) ha
theorem RK.own8 {base b':Nat} {w W:World} {vS vM v:Value} {n q N:Nat} {lp:Int} {mv xs:List Value} {ss:List Int} {l:List Nat} (h:RK base w vS vM n q lp mv ss l W) (ho:W.ownsRow b' 3 1 v N xs) (y0 y1 y2 z0 z1 z2 z3 z4:Value):(st8 w W y0 y1 y2 z0 z1 z2 z3 z4).ownsRow b' 3 1 v N xs := by
 obtain ⟨vs,r1,_⟩:=h.rd
 obtain ⟨us,r2,_⟩:=h.rm
 have ne:w.heap.size + 1 + 1 + 1 ≠ w.heap.size + 1 + 1:=by omega
 have s0:=r1.set 0 y0
 have o0:=own_setRow ho r1 (by decide) 0 y0
 have s1:=s0.set 1 y1
 have o1:=own_setRow o0 s0 (by decide) 1 y1
 have o2:=own_setRow o1 s1 (by decide) 2 y2
 have u0:=((r2.other (a := ⟨w.heap.size + 1 + 1,0,none⟩) ne y0).other (a := ⟨w.heap.size + 1 + 1,1,none⟩) ne y1).other (a := ⟨w.heap.size + 1 + 1,2,none⟩) ne y2
 have o3:=own_setRow o2 u0 (by decide) 0 z0
 have u1:=u0.set 0 z0
 have o4:=own_setRow o3 u1 (by decide) 1 z1
 have u2:=u1.set 1 z1
 have o5:=own_setRow o4 u2 (by decide) 2 z2
 have u3:=u2.set 2 z2
 have o6:=own_setRow o5 u3 (by decide) 3 z3
 have u4:=u3.set 3 z3
 exact own_setRow o6 u4 (by decide) 4 z4
theorem unc_done {d:Pl.Dg} {c base b N c2 d2 lp:Nat} {A2 B2:Option Addr} {w W:World} {x sv:Int} {ov:Bool} {mt:List Nat} (h0:uncC d c = 0) (hN:N = (Pl.left d.sg.length [c]).length) (hD:unD d c = ⟨Pl.shrS [c] d.sg,Pl.shrM [c] d.sg.length mt,lp⟩) (hI:unI d c = ⟨1,x,0,sv,ov⟩) (hb:Below base w W)
 (hS:W.ownsRow b 3 1 (.slice A2 N c2) N ((Pl.shrS [c] d.sg).map (.int .i64))) (hM:W.ownsRow b 3 1 (.slice B2 (4 * N) d2) (4 * N) ((Pl.shrM [c] d.sg.length mt).map (fun k:Nat => Value.int .i64 k))) :
 RC base (uncC d c) (unD d c) (unI d c) w (.returned (.tuple #[.agg #[.slice A2 N c2,.slice B2 (4 * N) d2,.int .i64 (lp:Int)],.agg #[.int .i64 1,.int .i64 x,.int .i64 0,.int .i64 sv,.bool ov],.int .i64 0])) W := by
 have hn:(unD d c).n = N:=by rw [hN,hD]; unfold Pl.Dg.n Pl.shrS; simp
 refine ⟨fun h => absurd h0 h,fun _ => ⟨A2,B2,c2,d2,?_,?_⟩,hb⟩
 ·rw [hn,hI,hD]
  rfl
 ·refine ⟨?_,?_⟩
  ·rw [hn,hD]
   exact own_intsT hS
  ·rw [hn,hD]
   refine own_intsT (base := b) (e := 3) (c := d2) ?_
   unfold nats
   rw [List.map_map]
   exact hM
set_option maxRecDepth 100000 in
set_option maxHeartbeats 8000000 in
theorem runcurl_in (d:Pl.Dg) (hd:Pl.Wf d) (base cp cq m:Nat) (A B:Option Addr) (k:Int) (c:Nat) (w:World) (hm:m = 4 * d.n) (h:Own2 base w (.slice A d.n cp) (.slice B m cq) d.n m d.sg d.mt) (hc:c < d.n) :
 Calls Try.prog 71 #[.agg #[.slice A d.n cp,.slice B m cq,.int .i64 d.lp],.agg #[.int .i64 k,.int .i64 (c:Int),.int .i64 0,.int .i64 0,.bool false]] w (RC base (uncC d c) (unD d c) (unI d c) w) := by
 have hn:=hd.few
 have hlp:=hd.lp
 have HD:=hide hd
 have HM:=hide hm
 have hm4:m ≤ 256:=by omega
 have h4c:4 * c + 3 < m:=by omega
 obtain ⟨gB,rfl⟩:=own_form0 h.o (by omega)
 obtain ⟨gA,rfl⟩:=own_form0 h.s (by omega)
 have K0:=hide (RK.start h d.lp (.int .i64 k) (.int .i64 (c:Int)) (.int .i64 0) (.int .i64 0) (.bool false))
 unfold W4 at K0
 have t1:decide ((c:Int) < 0) = false:=by simp
 have t2:decide ((d.n:Int) ≤ (c:Int)) = false:=by simp; omega
 have hle:=h.le
 obtain ⟨oo,hoo⟩:∃ oo:Nat,oo = if d.s c = 1 then 4 * c + 1 else 4 * c + 3 := ⟨_,rfl⟩
 obtain ⟨oi,hoi⟩:∃ oi:Nat,oi = if d.s c = 1 then 4 * c + 3 else 4 * c + 1 := ⟨_,rfl⟩
 obtain ⟨q2,hq2⟩:∃ q:Nat,q = 4 * c + 2 := ⟨_,rfl⟩
 have hq2i:4 * (c:Int) + 2 = (q2:Int):=by omega
 have hoom:oo < m:=by rw [hoo]; split <;> omega
 have hq2m:q2 < m:=by omega
 have HO:=hide (show (if Pl.pv d.sg c = 1 then 4 * (c:Int) + 3 else 4 * (c:Int) + 1) = (oi:Int) ∧ (if Pl.pv d.sg c = 1 then 4 * (c:Int) + 1 else 4 * (c:Int) + 3) = (oo:Int) by
  have e:Pl.pv d.sg c = d.s c:=rfl
  rw [e,hoo,hoi]
  by_cases q:d.s c = 1
  ·rw [if_pos q,if_pos q,if_pos q,if_pos q]; omega
  ·rw [if_neg q,if_neg q,if_neg q,if_neg q]; omega)
 have HKK:=hide (show kk d c = if d.m q2 / 4 = c then q2 else oo by unfold kk; rw [hq2,hoo])
 clear hm h hd hoo hoi hq2
 go_enter Try.func71,Try.ntmps71
 go_wp2_with fail
 refine (rovers_any (some ⟨gA,0,none⟩) (some ⟨gB,0,none⟩) d.n cp m cq c (.int .i64 d.lp) d.sg _ (own_intsR K0.out.s) hc (by omega)).mono ?_
 rintro e w1 ⟨rfl,hb1⟩
 rw [HO.out.1,HO.out.2]
 have K1:=hide (K0.out.below hb1)
 clear hb1 K0
 obtain ⟨d0,d1,d2,d3⟩:=box3 K1.out.d
 obtain ⟨m0,m1,m2,m3,m4,m5⟩:=box5 K1.out.m
 obtain ⟨_,r3,l3⟩:=K1.out.rd
 obtain ⟨_,r4,l4⟩:=K1.out.rm
 obtain ⟨p0,p1,p2,p3⟩:=cells3 r3 l3
 obtain ⟨q0,q1,q2',q3,q4,q5⟩:=cells5 r4 l4
 clear r3 l3 r4 l4
 have hq2s:(q2:Int) < (m:Int):=by omega
 have hq20:(0:Int) ≤ (q2:Int):=by omega
 have hoos:(oo:Int) < (m:Int):=by omega
 have hoo0:(0:Int) ≤ (oo:Int):=by omega
 have cx:=OwnN.cell K1.out.o (k := q2) hq2m
 rw [m_get HD.out (by have := HM.out; omega)] at cx
 obtain ⟨x2,hx2⟩:∃ x,x = d.m q2 := ⟨_,rfl⟩
 rw [← hx2] at cx HKK
 have HX2:=hide hx2
 have hx2m:x2 < m:=by rw [HX2.out,HM.out]; exact HD.out.lt _ (by have := HM.out; omega)
 clear hx2
 by_cases hk2:x2 / 4 = c
 ·have t6:((x2:Int) / 4 != (c:Int)) = false:=by rw [bne_eq_false_iff_eq]; omega
  have HQ:=hide (show kk d c = q2 by rw [HKK.out]; first | rw [if_pos hk2] | rw [if_neg hk2])
  have HQM:=hide (show d.m (kk d c) / 4 = c by rw [HQ.out,← HX2.out]; assumption)
  have hxm:x2 < m:=by rw [HX2.out,HM.out]; exact HD.out.lt _ (by have := HM.out; omega)
  obtain ⟨a,ha⟩:∃ a,a = Pl.tn q2 2 := ⟨_,rfl⟩
  obtain ⟨b,hb⟩:∃ b,b = Pl.tn x2 2 := ⟨_,rfl⟩
  have ham:a < m:=by rw [ha,HM.out]; exact Pl.tn_lt (by have := HM.out; omega)
  have hbm:b < m:=by rw [hb,HM.out]; exact Pl.tn_lt (by have := HM.out; omega)
  have HA:=hide (show kA d c = a by unfold kA; rw [HQ.out,ha])
  have HB:=hide (show kB d c = b by unfold kB; rw [HQ.out,← HX2.out,hb])
  go_upto_region 10 with fail
  clear hk2 HKK
  go_quiet ((go_at_call 117; exact Calls.quiet_of_same (ropp_s _ _ (by omega))))
  rw [← ha,← hb]
  clear ha hb
  have K2:=hide (K1.out.drewN nq)
  obtain ⟨w2,hw2⟩:∃ W,W = w1.drewN nq := ⟨_,rfl⟩
  rw [← hw2] at K2 ⊢
  clear hw2 K1 cx d0 d1 d2 d3 m0 m1 m2 m3 m4 m5 p0 p1 p2 p3 q0 q1 q2' q3 q4 q5
  have hw2:=K2.out.big
  obtain ⟨d0,d1,d2,d3⟩:=box3 K2.out.d
  have cs:=own_sg K2.out.s hc
  obtain ⟨sv,hsv⟩:∃ s,s = Pl.pv d.sg c := ⟨_,rfl⟩
  rw [← hsv] at cs
  have HSV:=hide hsv
  clear hsv
  obtain ⟨ov,hov⟩:∃ o,o = decide (a % 2 = 1) := ⟨_,rfl⟩
  have ho1:((a:Int) % 2 == 1) = ov:=by rw [hov,Bool.eq_iff_iff,beq_iff_eq,decide_eq_true_iff]; omega
  have ho2:((a:Int).tmod 2 == 1) = ov:=by rw [Int.tmod_eq_emod_of_nonneg (by omega)]; exact ho1
  have HOV:=hide hov
  clear hov
  have has:(a:Int) < (m:Int):=by omega
  have ha0:(0:Int) ≤ (a:Int):=by omega
  have hbs:(b:Int) < (m:Int):=by omega
  have hb0:(0:Int) ≤ (b:Int):=by omega
  have hcs:(c:Int) < (d.n:Int):=by omega
  have hc0:(0:Int) ≤ (c:Int):=by omega
  have X13:=hide (row_at (W := w2) (g := w2.heap.size) (t := 37) (vs := [.int .i64 1,.int .i64 (-1),.int .i64 0,.int .i64 sv,.bool ov]) rfl)
  go_upto_region 12 with fail
  have K3:=hide (K2.out.alloc (.cells #[.int .i64 1,.int .i64 (-1),.int .i64 0,.int .i64 sv,.bool ov] 37))
  obtain ⟨g13,hg13⟩:∃ g,g = w2.heap.size := ⟨_,rfl⟩
  have hg13a:w.heap.size + 4 ≤ g13:=by omega
  obtain ⟨w3,hw3⟩:∃ W,W = w2.alloc (.cells #[.int .i64 1,.int .i64 (-1),.int .i64 0,.int .i64 sv,.bool ov] 37) := ⟨_,rfl⟩
  have X3:=hide (show Row w3 g13 37 [.int .i64 1,.int .i64 (-1),.int .i64 0,.int .i64 sv,.bool ov] by rw [hw3,hg13]; exact X13.out)
  rw [← hw3] at K3
  rw [← hw3,← hg13]
  clear hw3 hg13 hw2 K2 X13 cs d0 d1 d2 d3
  have cu:=OwnN.cell K3.out.o (k := a) ham
  have cv:=OwnN.cell K3.out.o (k := b) hbm
  rw [m_get HD.out (by have := HM.out; omega)] at cu cv
  obtain ⟨u,hu⟩:∃ u,u = d.m a := ⟨_,rfl⟩
  obtain ⟨v,hv⟩:∃ v,v = d.m b := ⟨_,rfl⟩
  have hum:u < m:=by rw [hu,HM.out]; exact HD.out.lt _ (by have := HM.out; omega)
  have hvm:v < m:=by rw [hv,HM.out]; exact HD.out.lt _ (by have := HM.out; omega)
  rw [← hu] at cu
  rw [← hv] at cv
  have HU:=hide (show d.m (kA d c) = u by rw [HA.out,hu])
  have HV:=hide (show d.m (kB d c) = v by rw [HB.out,hv])
  clear hu hv
  obtain ⟨d0,d1,d2,d3⟩:=box3 K3.out.d
  go_quiet (fail)
  have K4:=hide (K3.out.drewN nq)
  have X4:=hide (Row.drewN X3.out nq)
  obtain ⟨w4,hw4⟩:∃ W,W = w3.drewN nq := ⟨_,rfl⟩
  rw [← hw4] at K4 X4 ⊢
  clear hw4 K3 X3 cu cv d0 d1 d2 d3
  obtain ⟨d0,d1,d2,d3⟩:=box3 K4.out.d
  obtain ⟨m0,m1,m2,m3,m4,m5⟩:=box5 K4.out.m
  obtain ⟨_,r3,l3⟩:=K4.out.rd
  obtain ⟨_,r4,l4⟩:=K4.out.rm
  obtain ⟨p0,p1,p2,p3⟩:=cells3 r3 l3
  obtain ⟨q0,q1,q2',q3,q4,q5⟩:=cells5 r4 l4
  clear r3 l3 r4 l4
  by_cases huv:u = b
  ·have tb:((u:Int) == (b:Int)) = true:=by rw [beq_iff_eq]; omega
   have EQ:=hide (show d.m (kA d c) = kB d c by rw [HU.out,HB.out,huv])
   clear huv
   by_cases h64:64 < d.lp + 1
   ·have tl:decide ((64:Int) < (d.lp:Int) + 1) = true:=by simp; omega
    have E:=hide (show uncC d c = 5 by unfold uncC; rw [if_pos HQM.out,if_pos EQ.out,if_pos h64])
    clear h64
    go_wp2_with fail
    go_region
    go_wp2_with fail
    refine bodyPost_ret (v := .tuple #[.agg #[.slice (some ⟨gA,0,none⟩) d.n cp,.slice (some ⟨gB,0,none⟩) m cq,.int .i64 d.lp],.agg #[.int .i64 k,.int .i64 (c:Int),.int .i64 0,.int .i64 0,.bool false],.int .i64 5]) ?_ rfl ?_
    ·obtain ⟨e0,e1,e2,e3,e4,e5,e6,e7⟩:=RK.cells K4.out (.slice (some ⟨gA,0,none⟩) d.n cp) (.slice (some ⟨gB,0,none⟩) m cq) (.int .i64 d.lp) (.int .i64 k) (.int .i64 (c:Int)) (.int .i64 0) (.int .i64 0) (.bool false)
     unfold st8 at e0 e1 e2 e3 e4 e5 e6 e7
     simp [results,Try.results71,go_sem,e0,e1,e2,e3,e4,e5,e6,e7]
    ·rw [E.out]
     refine rc_err (by decide) ⟨some ⟨gA,0,none⟩,some ⟨gB,0,none⟩,d.n,m,cp,cq,d.lp,k,(c:Int),0,0,false,rfl⟩ ?_
     have:=(RK.fin K4.out (.slice (some ⟨gA,0,none⟩) d.n cp) (.slice (some ⟨gB,0,none⟩) m cq) (.int .i64 d.lp) (.int .i64 k) (.int .i64 (c:Int)) (.int .i64 0) (.int .i64 0) (.bool false)).drew.bel
     unfold st8 at this
     exact this
   ·have tl:decide ((64:Int) < (d.lp:Int) + 1) = false:=by simp; omega
    have E2:=hide (show uncC d c = 0 by unfold uncC; rw [if_pos HQM.out,if_pos EQ.out,if_neg h64])
    have HDD:=hide (show unD d c = ⟨Pl.shrS [c] d.sg,Pl.shrM [c] d.sg.length d.mt,d.lp + 1⟩ by unfold unD unM; rw [if_pos EQ.out,if_pos EQ.out]; rfl)
    have HII:=hide (show unI d c = ⟨1,-1,0,sv,ov⟩ by unfold unI; rw [if_pos EQ.out,HA.out,HSV.out,HOV.out]; rfl)
    have KF:=hide (K4.out.setL ((d.lp:Int) + 1))
    have XF:=hide (X4.out.other (a := ⟨w.heap.size,2,none⟩) (show g13 ≠ w.heap.size by omega) (.int .i64 ((d.lp:Int) + 1)))
    clear h64 p0 p1 p2 p3 q0 q1 q2' q3 q4 q5
    go_upto_region 19 with fail
    have KG:=hide KF.out.drew
    have XG:=hide (XF.out.below (Below.refl _ _).drew)
    obtain ⟨y0,y1,y2,y3,y4,y5⟩:=box5 XG.out
    have HSM:=hide (show ∀ h,(d.mt).getD h 0 ≤ 1000 from fun h => wf_small HD.out h)
    go_region_with (first
     | (go_at_call 119
        refine (rdrop_any d.sg (d.mt) ((d.lp:Int) + 1) (some ⟨gA,0,none⟩) (some ⟨gB,0,none⟩) d.n m cp cq c _ (own_intsR KG.out.s) (ownN_ints KG.out.o) HM.out (by omega) HSM.out).mono ?_
        rintro e w9 ⟨A2,B2,c2,d2,rfl,oS,oM,hb9⟩
        have K9:=hide (KG.out.below hb9)
        have X9:=hide (XG.out.below hb9)
        have OS:=hide oS
        have OM:=hide oM
        clear oS oM hb9
        obtain ⟨_,r3,l3⟩:=K9.out.rd
        obtain ⟨_,r4,l4⟩:=K9.out.rm
        obtain ⟨p0,p1,p2,p3⟩:=cells3 r3 l3
        obtain ⟨q0,q1,q2',q3,q4,q5⟩:=cells5 r4 l4
        obtain ⟨x0,x1,x2,x3,x4,x5⟩:=box5 X9.out
        clear r3 l3 r4 l4))
    all_goals (go_wp2_with fail)
    all_goals (
     refine bodyPost_ret (v := .tuple #[.agg #[.slice A2 (Pl.left d.sg.length [c]).length c2,.slice B2 (4 * (Pl.left d.sg.length [c]).length) d2,.int .i64 ((d.lp:Int) + 1)],.agg #[.int .i64 1,.int .i64 (-1),.int .i64 0,.int .i64 sv,.bool ov],.int .i64 0]) ?_ rfl ?_
     ·obtain ⟨e0,e1,e2,e3,e4,e5,e6,e7⟩:=RK.cells K9.out (.slice A2 (Pl.left d.sg.length [c]).length c2) (.slice B2 (4 * (Pl.left d.sg.length [c]).length) d2) (.int .i64 ((d.lp:Int) + 1)) (.int .i64 1) (.int .i64 (-1)) (.int .i64 0) (.int .i64 sv) (.bool ov)
      unfold st8 at e0 e1 e2 e3 e4 e5 e6 e7
      simp [results,Try.results71,go_sem,e0,e1,e2,e3,e4,e5,e6,e7]
     ·have K11:=RK.fin K9.out (.slice A2 (Pl.left d.sg.length [c]).length c2) (.slice B2 (4 * (Pl.left d.sg.length [c]).length) d2) (.int .i64 ((d.lp:Int) + 1)) (.int .i64 1) (.int .i64 (-1)) (.int .i64 0) (.int .i64 sv) (.bool ov)
      have O1:=K9.out.own8 OS.out (.slice A2 (Pl.left d.sg.length [c]).length c2) (.slice B2 (4 * (Pl.left d.sg.length [c]).length) d2) (.int .i64 ((d.lp:Int) + 1)) (.int .i64 1) (.int .i64 (-1)) (.int .i64 0) (.int .i64 sv) (.bool ov)
      have O2:=K9.out.own8 OM.out (.slice A2 (Pl.left d.sg.length [c]).length c2) (.slice B2 (4 * (Pl.left d.sg.length [c]).length) d2) (.int .i64 ((d.lp:Int) + 1)) (.int .i64 1) (.int .i64 (-1)) (.int .i64 0) (.int .i64 sv) (.bool ov)
      unfold st8 at K11 O1 O2
      exact unc_done E2.out rfl HDD.out HII.out K11.bel O1 O2)
  ·have tb:((u:Int) == (b:Int)) = false:=by rw [beq_eq_false_iff_ne]; omega
   have NE:=hide (show ¬ d.m (kA d c) = kB d c by rw [HU.out,HB.out]; exact huv)
   have E2:=hide (show uncC d c = 0 by unfold uncC; rw [if_pos HQM.out,if_neg NE.out])
   have HDD:=hide (show unD d c = ⟨Pl.shrS [c] d.sg,Pl.shrM [c] d.sg.length (jn d.mt u v),d.lp⟩ by unfold unD unM; rw [if_neg NE.out,if_neg NE.out,HU.out,HV.out]; rfl)
   have HII:=hide (show unI d c = ⟨1,((Pl.shf [c] u:Nat):Int),0,sv,ov⟩ by unfold unI; rw [if_neg NE.out,HA.out,HSV.out,HOV.out,← HA.out,HU.out]; rfl)
   clear huv p0 p1 p2 p3 q0 q1 q2' q3 q4 q5
   go_wp2_with fail
   refine (rjoin_any base gB m cq u v d.n cp (some ⟨gA,0,none⟩) (.int .i64 d.lp) d.mt _ K4.out.o hum hvm (by omega)).mono ?_
   rintro e w8 ⟨rfl,own8,gr8⟩
   have K8:=hide (K4.out.kept gr8 own8)
   have X8:=hide (X4.out.grown gr8 (own_row_ne K4.out.o X4.out (by decide)))
   clear own8 gr8 K4 X4 d0 d1 d2 d3 m0 m1 m2 m3 m4 m5
   obtain ⟨d0,d1,d2,d3⟩:=box3 K8.out.d
   obtain ⟨m0,m1,m2,m3,m4,m5⟩:=box5 K8.out.m
   obtain ⟨y0,y1,y2,y3,y4,y5⟩:=box5 X8.out
   go_wp2_with fail
   refine (rshift_any (u:Int) c _ (by omega)).mono ?_
   rintro e w8b ⟨rfl,rfl⟩
   rw [sh1_shf]
   obtain ⟨sf,hsf⟩:∃ x:Int,x = ((Pl.shf [c] u:Nat):Int) := ⟨_,rfl⟩
   rw [← hsf] at HII ⊢
   clear hsf
   have KF:=hide (K8.out.setO X8.out (by decide) hg13a 1 (.int .i64 sf))
   have XF:=hide (X8.out.set 1 (.int .i64 sf))
   go_upto_region 19 with fail
   have KG:=hide KF.out.drew
   have XG:=hide (XF.out.below (Below.refl _ _).drew)
   obtain ⟨y0,y1,y2,y3,y4,y5⟩:=box5 XG.out
   have HSM:=hide (show ∀ h,(jn d.mt u v).getD h 0 ≤ 1000 from jn_small (fun h => wf_small HD.out h) (by omega) (by omega))
   go_region_with (first
    | (go_at_call 119
       refine (rdrop_any d.sg (jn d.mt u v) (d.lp) (some ⟨gA,0,none⟩) (some ⟨gB,0,none⟩) d.n m cp cq c _ (own_intsR KG.out.s) (ownN_ints KG.out.o) HM.out (by omega) HSM.out).mono ?_
       rintro e w9 ⟨A2,B2,c2,d2,rfl,oS,oM,hb9⟩
       have K9:=hide (KG.out.below hb9)
       have X9:=hide (XG.out.below hb9)
       have OS:=hide oS
       have OM:=hide oM
       clear oS oM hb9
       obtain ⟨_,r3,l3⟩:=K9.out.rd
       obtain ⟨_,r4,l4⟩:=K9.out.rm
       obtain ⟨p0,p1,p2,p3⟩:=cells3 r3 l3
       obtain ⟨q0,q1,q2',q3,q4,q5⟩:=cells5 r4 l4
       obtain ⟨x0,x1,x2,x3,x4,x5⟩:=box5 X9.out
       clear r3 l3 r4 l4))
   all_goals (go_wp2_with fail)
   all_goals (
    refine bodyPost_ret (v := .tuple #[.agg #[.slice A2 (Pl.left d.sg.length [c]).length c2,.slice B2 (4 * (Pl.left d.sg.length [c]).length) d2,.int .i64 (d.lp)],.agg #[.int .i64 1,.int .i64 (sf),.int .i64 0,.int .i64 sv,.bool ov],.int .i64 0]) ?_ rfl ?_
    ·obtain ⟨e0,e1,e2,e3,e4,e5,e6,e7⟩:=RK.cells K9.out (.slice A2 (Pl.left d.sg.length [c]).length c2) (.slice B2 (4 * (Pl.left d.sg.length [c]).length) d2) (.int .i64 (d.lp)) (.int .i64 1) (.int .i64 (sf)) (.int .i64 0) (.int .i64 sv) (.bool ov)
     unfold st8 at e0 e1 e2 e3 e4 e5 e6 e7
     simp [results,Try.results71,go_sem,e0,e1,e2,e3,e4,e5,e6,e7]
    ·have K11:=RK.fin K9.out (.slice A2 (Pl.left d.sg.length [c]).length c2) (.slice B2 (4 * (Pl.left d.sg.length [c]).length) d2) (.int .i64 (d.lp)) (.int .i64 1) (.int .i64 (sf)) (.int .i64 0) (.int .i64 sv) (.bool ov)
     have O1:=K9.out.own8 OS.out (.slice A2 (Pl.left d.sg.length [c]).length c2) (.slice B2 (4 * (Pl.left d.sg.length [c]).length) d2) (.int .i64 (d.lp)) (.int .i64 1) (.int .i64 (sf)) (.int .i64 0) (.int .i64 sv) (.bool ov)
     have O2:=K9.out.own8 OM.out (.slice A2 (Pl.left d.sg.length [c]).length c2) (.slice B2 (4 * (Pl.left d.sg.length [c]).length) d2) (.int .i64 (d.lp)) (.int .i64 1) (.int .i64 (sf)) (.int .i64 0) (.int .i64 sv) (.bool ov)
     unfold st8 at K11 O1 O2
     exact unc_done E2.out rfl HDD.out HII.out K11.bel O1 O2)
 ·have t6:((x2:Int) / 4 != (c:Int)) = true:=by rw [bne_iff_ne]; omega
  have cx3:=OwnN.cell K1.out.o (k := oo) hoom
  rw [m_get HD.out (by have := HM.out; omega)] at cx3
  obtain ⟨x3,hx3⟩:∃ x,x = d.m oo := ⟨_,rfl⟩
  rw [← hx3] at cx3
  have HX3:=hide hx3
  have hx3m:x3 < m:=by rw [HX3.out,HM.out]; exact HD.out.lt _ (by have := HM.out; omega)
  clear hx3
  by_cases hk3:x3 / 4 = c
  ·have t7:((x3:Int) / 4 != (c:Int)) = false:=by rw [bne_eq_false_iff_eq]; omega
   have HQ:=hide (show kk d c = oo by rw [HKK.out]; first | rw [if_pos hk2] | rw [if_neg hk2])
   have HQM:=hide (show d.m (kk d c) / 4 = c by rw [HQ.out,← HX3.out]; assumption)
   have hxm:x3 < m:=by rw [HX3.out,HM.out]; exact HD.out.lt _ (by have := HM.out; omega)
   obtain ⟨a,ha⟩:∃ a,a = Pl.tn oo 2 := ⟨_,rfl⟩
   obtain ⟨b,hb⟩:∃ b,b = Pl.tn x3 2 := ⟨_,rfl⟩
   have ham:a < m:=by rw [ha,HM.out]; exact Pl.tn_lt (by have := HM.out; omega)
   have hbm:b < m:=by rw [hb,HM.out]; exact Pl.tn_lt (by have := HM.out; omega)
   have HA:=hide (show kA d c = a by unfold kA; rw [HQ.out,ha])
   have HB:=hide (show kB d c = b by unfold kB; rw [HQ.out,← HX3.out,hb])
   go_upto_region 10 with fail
   clear hk2 HKK
   go_quiet ((go_at_call 117; exact Calls.quiet_of_same (ropp_s _ _ (by omega))))
   rw [← ha,← hb]
   clear ha hb
   have K2:=hide (K1.out.drewN nq)
   obtain ⟨w2,hw2⟩:∃ W,W = w1.drewN nq := ⟨_,rfl⟩
   rw [← hw2] at K2 ⊢
   clear hw2 K1 cx d0 d1 d2 d3 m0 m1 m2 m3 m4 m5 p0 p1 p2 p3 q0 q1 q2' q3 q4 q5
   have hw2:=K2.out.big
   obtain ⟨d0,d1,d2,d3⟩:=box3 K2.out.d
   have cs:=own_sg K2.out.s hc
   obtain ⟨sv,hsv⟩:∃ s,s = Pl.pv d.sg c := ⟨_,rfl⟩
   rw [← hsv] at cs
   have HSV:=hide hsv
   clear hsv
   obtain ⟨ov,hov⟩:∃ o,o = decide (a % 2 = 1) := ⟨_,rfl⟩
   have ho1:((a:Int) % 2 == 1) = ov:=by rw [hov,Bool.eq_iff_iff,beq_iff_eq,decide_eq_true_iff]; omega
   have ho2:((a:Int).tmod 2 == 1) = ov:=by rw [Int.tmod_eq_emod_of_nonneg (by omega)]; exact ho1
   have HOV:=hide hov
   clear hov
   have has:(a:Int) < (m:Int):=by omega
   have ha0:(0:Int) ≤ (a:Int):=by omega
   have hbs:(b:Int) < (m:Int):=by omega
   have hb0:(0:Int) ≤ (b:Int):=by omega
   have hcs:(c:Int) < (d.n:Int):=by omega
   have hc0:(0:Int) ≤ (c:Int):=by omega
   have X13:=hide (row_at (W := w2) (g := w2.heap.size) (t := 37) (vs := [.int .i64 1,.int .i64 (-1),.int .i64 0,.int .i64 sv,.bool ov]) rfl)
   go_upto_region 12 with fail
   have K3:=hide (K2.out.alloc (.cells #[.int .i64 1,.int .i64 (-1),.int .i64 0,.int .i64 sv,.bool ov] 37))
   obtain ⟨g13,hg13⟩:∃ g,g = w2.heap.size := ⟨_,rfl⟩
   have hg13a:w.heap.size + 4 ≤ g13:=by omega
   obtain ⟨w3,hw3⟩:∃ W,W = w2.alloc (.cells #[.int .i64 1,.int .i64 (-1),.int .i64 0,.int .i64 sv,.bool ov] 37) := ⟨_,rfl⟩
   have X3:=hide (show Row w3 g13 37 [.int .i64 1,.int .i64 (-1),.int .i64 0,.int .i64 sv,.bool ov] by rw [hw3,hg13]; exact X13.out)
   rw [← hw3] at K3
   rw [← hw3,← hg13]
   clear hw3 hg13 hw2 K2 X13 cs d0 d1 d2 d3
   have cu:=OwnN.cell K3.out.o (k := a) ham
   have cv:=OwnN.cell K3.out.o (k := b) hbm
   rw [m_get HD.out (by have := HM.out; omega)] at cu cv
   obtain ⟨u,hu⟩:∃ u,u = d.m a := ⟨_,rfl⟩
   obtain ⟨v,hv⟩:∃ v,v = d.m b := ⟨_,rfl⟩
   have hum:u < m:=by rw [hu,HM.out]; exact HD.out.lt _ (by have := HM.out; omega)
   have hvm:v < m:=by rw [hv,HM.out]; exact HD.out.lt _ (by have := HM.out; omega)
   rw [← hu] at cu
   rw [← hv] at cv
   have HU:=hide (show d.m (kA d c) = u by rw [HA.out,hu])
   have HV:=hide (show d.m (kB d c) = v by rw [HB.out,hv])
   clear hu hv
   obtain ⟨d0,d1,d2,d3⟩:=box3 K3.out.d
   go_quiet (fail)
   have K4:=hide (K3.out.drewN nq)
   have X4:=hide (Row.drewN X3.out nq)
   obtain ⟨w4,hw4⟩:∃ W,W = w3.drewN nq := ⟨_,rfl⟩
   rw [← hw4] at K4 X4 ⊢
   clear hw4 K3 X3 cu cv d0 d1 d2 d3
   obtain ⟨d0,d1,d2,d3⟩:=box3 K4.out.d
   obtain ⟨m0,m1,m2,m3,m4,m5⟩:=box5 K4.out.m
   obtain ⟨_,r3,l3⟩:=K4.out.rd
   obtain ⟨_,r4,l4⟩:=K4.out.rm
   obtain ⟨p0,p1,p2,p3⟩:=cells3 r3 l3
   obtain ⟨q0,q1,q2',q3,q4,q5⟩:=cells5 r4 l4
   clear r3 l3 r4 l4
   by_cases huv:u = b
   ·have tb:((u:Int) == (b:Int)) = true:=by rw [beq_iff_eq]; omega
    have EQ:=hide (show d.m (kA d c) = kB d c by rw [HU.out,HB.out,huv])
    clear huv
    by_cases h64:64 < d.lp + 1
    ·have tl:decide ((64:Int) < (d.lp:Int) + 1) = true:=by simp; omega
     have E:=hide (show uncC d c = 5 by unfold uncC; rw [if_pos HQM.out,if_pos EQ.out,if_pos h64])
     clear h64
     go_wp2_with fail
     go_region
     go_wp2_with fail
     refine bodyPost_ret (v := .tuple #[.agg #[.slice (some ⟨gA,0,none⟩) d.n cp,.slice (some ⟨gB,0,none⟩) m cq,.int .i64 d.lp],.agg #[.int .i64 k,.int .i64 (c:Int),.int .i64 0,.int .i64 0,.bool false],.int .i64 5]) ?_ rfl ?_
     ·obtain ⟨e0,e1,e2,e3,e4,e5,e6,e7⟩:=RK.cells K4.out (.slice (some ⟨gA,0,none⟩) d.n cp) (.slice (some ⟨gB,0,none⟩) m cq) (.int .i64 d.lp) (.int .i64 k) (.int .i64 (c:Int)) (.int .i64 0) (.int .i64 0) (.bool false)
      unfold st8 at e0 e1 e2 e3 e4 e5 e6 e7
      simp [results,Try.results71,go_sem,e0,e1,e2,e3,e4,e5,e6,e7]
     ·rw [E.out]
      refine rc_err (by decide) ⟨some ⟨gA,0,none⟩,some ⟨gB,0,none⟩,d.n,m,cp,cq,d.lp,k,(c:Int),0,0,false,rfl⟩ ?_
      have:=(RK.fin K4.out (.slice (some ⟨gA,0,none⟩) d.n cp) (.slice (some ⟨gB,0,none⟩) m cq) (.int .i64 d.lp) (.int .i64 k) (.int .i64 (c:Int)) (.int .i64 0) (.int .i64 0) (.bool false)).drew.bel
      unfold st8 at this
      exact this
    ·have tl:decide ((64:Int) < (d.lp:Int) + 1) = false:=by simp; omega
     have E2:=hide (show uncC d c = 0 by unfold uncC; rw [if_pos HQM.out,if_pos EQ.out,if_neg h64])
     have HDD:=hide (show unD d c = ⟨Pl.shrS [c] d.sg,Pl.shrM [c] d.sg.length d.mt,d.lp + 1⟩ by unfold unD unM; rw [if_pos EQ.out,if_pos EQ.out]; rfl)
     have HII:=hide (show unI d c = ⟨1,-1,0,sv,ov⟩ by unfold unI; rw [if_pos EQ.out,HA.out,HSV.out,HOV.out]; rfl)
     have KF:=hide (K4.out.setL ((d.lp:Int) + 1))
     have XF:=hide (X4.out.other (a := ⟨w.heap.size,2,none⟩) (show g13 ≠ w.heap.size by omega) (.int .i64 ((d.lp:Int) + 1)))
     clear h64 p0 p1 p2 p3 q0 q1 q2' q3 q4 q5
     go_upto_region 19 with fail
     have KG:=hide KF.out.drew
     have XG:=hide (XF.out.below (Below.refl _ _).drew)
     obtain ⟨y0,y1,y2,y3,y4,y5⟩:=box5 XG.out
     have HSM:=hide (show ∀ h,(d.mt).getD h 0 ≤ 1000 from fun h => wf_small HD.out h)
     go_region_with (first
      | (go_at_call 119
         refine (rdrop_any d.sg (d.mt) ((d.lp:Int) + 1) (some ⟨gA,0,none⟩) (some ⟨gB,0,none⟩) d.n m cp cq c _ (own_intsR KG.out.s) (ownN_ints KG.out.o) HM.out (by omega) HSM.out).mono ?_
         rintro e w9 ⟨A2,B2,c2,d2,rfl,oS,oM,hb9⟩
         have K9:=hide (KG.out.below hb9)
         have X9:=hide (XG.out.below hb9)
         have OS:=hide oS
         have OM:=hide oM
         clear oS oM hb9
         obtain ⟨_,r3,l3⟩:=K9.out.rd
         obtain ⟨_,r4,l4⟩:=K9.out.rm
         obtain ⟨p0,p1,p2,p3⟩:=cells3 r3 l3
         obtain ⟨q0,q1,q2',q3,q4,q5⟩:=cells5 r4 l4
         obtain ⟨x0,x1,x2,x3,x4,x5⟩:=box5 X9.out
         clear r3 l3 r4 l4))
     all_goals (go_wp2_with fail)
     all_goals (
      refine bodyPost_ret (v := .tuple #[.agg #[.slice A2 (Pl.left d.sg.length [c]).length c2,.slice B2 (4 * (Pl.left d.sg.length [c]).length) d2,.int .i64 ((d.lp:Int) + 1)],.agg #[.int .i64 1,.int .i64 (-1),.int .i64 0,.int .i64 sv,.bool ov],.int .i64 0]) ?_ rfl ?_
      ·obtain ⟨e0,e1,e2,e3,e4,e5,e6,e7⟩:=RK.cells K9.out (.slice A2 (Pl.left d.sg.length [c]).length c2) (.slice B2 (4 * (Pl.left d.sg.length [c]).length) d2) (.int .i64 ((d.lp:Int) + 1)) (.int .i64 1) (.int .i64 (-1)) (.int .i64 0) (.int .i64 sv) (.bool ov)
       unfold st8 at e0 e1 e2 e3 e4 e5 e6 e7
       simp [results,Try.results71,go_sem,e0,e1,e2,e3,e4,e5,e6,e7]
      ·have K11:=RK.fin K9.out (.slice A2 (Pl.left d.sg.length [c]).length c2) (.slice B2 (4 * (Pl.left d.sg.length [c]).length) d2) (.int .i64 ((d.lp:Int) + 1)) (.int .i64 1) (.int .i64 (-1)) (.int .i64 0) (.int .i64 sv) (.bool ov)
       have O1:=K9.out.own8 OS.out (.slice A2 (Pl.left d.sg.length [c]).length c2) (.slice B2 (4 * (Pl.left d.sg.length [c]).length) d2) (.int .i64 ((d.lp:Int) + 1)) (.int .i64 1) (.int .i64 (-1)) (.int .i64 0) (.int .i64 sv) (.bool ov)
       have O2:=K9.out.own8 OM.out (.slice A2 (Pl.left d.sg.length [c]).length c2) (.slice B2 (4 * (Pl.left d.sg.length [c]).length) d2) (.int .i64 ((d.lp:Int) + 1)) (.int .i64 1) (.int .i64 (-1)) (.int .i64 0) (.int .i64 sv) (.bool ov)
       unfold st8 at K11 O1 O2
       exact unc_done E2.out rfl HDD.out HII.out K11.bel O1 O2)
   ·have tb:((u:Int) == (b:Int)) = false:=by rw [beq_eq_false_iff_ne]; omega
    have NE:=hide (show ¬ d.m (kA d c) = kB d c by rw [HU.out,HB.out]; exact huv)
    have E2:=hide (show uncC d c = 0 by unfold uncC; rw [if_pos HQM.out,if_neg NE.out])
    have HDD:=hide (show unD d c = ⟨Pl.shrS [c] d.sg,Pl.shrM [c] d.sg.length (jn d.mt u v),d.lp⟩ by unfold unD unM; rw [if_neg NE.out,if_neg NE.out,HU.out,HV.out]; rfl)
    have HII:=hide (show unI d c = ⟨1,((Pl.shf [c] u:Nat):Int),0,sv,ov⟩ by unfold unI; rw [if_neg NE.out,HA.out,HSV.out,HOV.out,← HA.out,HU.out]; rfl)
    clear huv p0 p1 p2 p3 q0 q1 q2' q3 q4 q5
    go_wp2_with fail
    refine (rjoin_any base gB m cq u v d.n cp (some ⟨gA,0,none⟩) (.int .i64 d.lp) d.mt _ K4.out.o hum hvm (by omega)).mono ?_
    rintro e w8 ⟨rfl,own8,gr8⟩
    have K8:=hide (K4.out.kept gr8 own8)
    have X8:=hide (X4.out.grown gr8 (own_row_ne K4.out.o X4.out (by decide)))
    clear own8 gr8 K4 X4 d0 d1 d2 d3 m0 m1 m2 m3 m4 m5
    obtain ⟨d0,d1,d2,d3⟩:=box3 K8.out.d
    obtain ⟨m0,m1,m2,m3,m4,m5⟩:=box5 K8.out.m
    obtain ⟨y0,y1,y2,y3,y4,y5⟩:=box5 X8.out
    go_wp2_with fail
    refine (rshift_any (u:Int) c _ (by omega)).mono ?_
    rintro e w8b ⟨rfl,rfl⟩
    rw [sh1_shf]
    obtain ⟨sf,hsf⟩:∃ x:Int,x = ((Pl.shf [c] u:Nat):Int) := ⟨_,rfl⟩
    rw [← hsf] at HII ⊢
    clear hsf
    have KF:=hide (K8.out.setO X8.out (by decide) hg13a 1 (.int .i64 sf))
    have XF:=hide (X8.out.set 1 (.int .i64 sf))
    go_upto_region 19 with fail
    have KG:=hide KF.out.drew
    have XG:=hide (XF.out.below (Below.refl _ _).drew)
    obtain ⟨y0,y1,y2,y3,y4,y5⟩:=box5 XG.out
    have HSM:=hide (show ∀ h,(jn d.mt u v).getD h 0 ≤ 1000 from jn_small (fun h => wf_small HD.out h) (by omega) (by omega))
    go_region_with (first
     | (go_at_call 119
        refine (rdrop_any d.sg (jn d.mt u v) (d.lp) (some ⟨gA,0,none⟩) (some ⟨gB,0,none⟩) d.n m cp cq c _ (own_intsR KG.out.s) (ownN_ints KG.out.o) HM.out (by omega) HSM.out).mono ?_
        rintro e w9 ⟨A2,B2,c2,d2,rfl,oS,oM,hb9⟩
        have K9:=hide (KG.out.below hb9)
        have X9:=hide (XG.out.below hb9)
        have OS:=hide oS
        have OM:=hide oM
        clear oS oM hb9
        obtain ⟨_,r3,l3⟩:=K9.out.rd
        obtain ⟨_,r4,l4⟩:=K9.out.rm
        obtain ⟨p0,p1,p2,p3⟩:=cells3 r3 l3
        obtain ⟨q0,q1,q2',q3,q4,q5⟩:=cells5 r4 l4
        obtain ⟨x0,x1,x2,x3,x4,x5⟩:=box5 X9.out
        clear r3 l3 r4 l4))
    all_goals (go_wp2_with fail)
    all_goals (
     refine bodyPost_ret (v := .tuple #[.agg #[.slice A2 (Pl.left d.sg.length [c]).length c2,.slice B2 (4 * (Pl.left d.sg.length [c]).length) d2,.int .i64 (d.lp)],.agg #[.int .i64 1,.int .i64 (sf),.int .i64 0,.int .i64 sv,.bool ov],.int .i64 0]) ?_ rfl ?_
     ·obtain ⟨e0,e1,e2,e3,e4,e5,e6,e7⟩:=RK.cells K9.out (.slice A2 (Pl.left d.sg.length [c]).length c2) (.slice B2 (4 * (Pl.left d.sg.length [c]).length) d2) (.int .i64 (d.lp)) (.int .i64 1) (.int .i64 (sf)) (.int .i64 0) (.int .i64 sv) (.bool ov)
      unfold st8 at e0 e1 e2 e3 e4 e5 e6 e7
      simp [results,Try.results71,go_sem,e0,e1,e2,e3,e4,e5,e6,e7]
     ·have K11:=RK.fin K9.out (.slice A2 (Pl.left d.sg.length [c]).length c2) (.slice B2 (4 * (Pl.left d.sg.length [c]).length) d2) (.int .i64 (d.lp)) (.int .i64 1) (.int .i64 (sf)) (.int .i64 0) (.int .i64 sv) (.bool ov)
      have O1:=K9.out.own8 OS.out (.slice A2 (Pl.left d.sg.length [c]).length c2) (.slice B2 (4 * (Pl.left d.sg.length [c]).length) d2) (.int .i64 (d.lp)) (.int .i64 1) (.int .i64 (sf)) (.int .i64 0) (.int .i64 sv) (.bool ov)
      have O2:=K9.out.own8 OM.out (.slice A2 (Pl.left d.sg.length [c]).length c2) (.slice B2 (4 * (Pl.left d.sg.length [c]).length) d2) (.int .i64 (d.lp)) (.int .i64 1) (.int .i64 (sf)) (.int .i64 0) (.int .i64 sv) (.bool ov)
      unfold st8 at K11 O1 O2
      exact unc_done E2.out rfl HDD.out HII.out K11.bel O1 O2)
  ·have t7:((x3:Int) / 4 != (c:Int)) = true:=by rw [bne_iff_ne]; omega
   have E:=hide (show uncC d c = 6 by
    unfold uncC
    rw [HKK.out,if_neg hk2,if_neg (by rw [← HX3.out]; exact hk3)])
   clear hk2 hk3 HKK
   go_wp2_with fail
   go_region
   go_wp2_with fail
   refine bodyPost_ret (v := .tuple #[.agg #[.slice (some ⟨gA,0,none⟩) d.n cp,.slice (some ⟨gB,0,none⟩) m cq,.int .i64 d.lp],.agg #[.int .i64 k,.int .i64 (c:Int),.int .i64 0,.int .i64 0,.bool false],.int .i64 6]) ?_ rfl ?_
   ·obtain ⟨e0,e1,e2,e3,e4,e5,e6,e7⟩:=RK.cells K1.out (.slice (some ⟨gA,0,none⟩) d.n cp) (.slice (some ⟨gB,0,none⟩) m cq) (.int .i64 d.lp) (.int .i64 k) (.int .i64 (c:Int)) (.int .i64 0) (.int .i64 0) (.bool false)
    unfold st8 at e0 e1 e2 e3 e4 e5 e6 e7
    simp [results,Try.results71,go_sem,e0,e1,e2,e3,e4,e5,e6,e7]
   ·rw [E.out]
    refine rc_err (by decide) ⟨some ⟨gA,0,none⟩,some ⟨gB,0,none⟩,d.n,m,cp,cq,d.lp,k,(c:Int),0,0,false,rfl⟩ ?_
    have:=(RK.fin K1.out (.slice (some ⟨gA,0,none⟩) d.n cp) (.slice (some ⟨gB,0,none⟩) m cq) (.int .i64 d.lp) (.int .i64 k) (.int .i64 (c:Int)) (.int .i64 0) (.int .i64 0) (.bool false)).drew.bel
    unfold st8 at this
    exact this
end Go.Proofs.Ytghdiolnonejaaa
end
section
namespace Go.Proofs.Ytghdiolnonejaaa
open Go Go.RowKit
attribute [local go_sem ↓] Go.wp_at_zero Go.wp_at_succ
set_option maxRecDepth 100000 in
set_option maxHeartbeats 4000000 in
theorem runcurl_range (base n q cp cq:Nat) (A B:Option Addr) (lp k x y s:Int) (o:Bool) (ss:List Int) (l:List Nat) (r:Pl.Dg) (mv:Mv) (w:World) (h:Own2 base w (.slice A n cp) (.slice B q cq) n q ss l) (hn:n ≤ 1000) (hin:¬ inR n ⟨2,x,y,s,o⟩) :
 Calls Try.prog 71 #[.agg #[.slice A n cp,.slice B q cq,.int .i64 lp],.agg #[.int .i64 k,.int .i64 x,.int .i64 y,.int .i64 s,.bool o]] w (RC base 2 r mv w) := by
 have hin':¬ (0 ≤ x ∧ x < n ∧ y = 0 ∧ s = 0 ∧ o = false):=fun e => hin (by unfold inR; simp; exact e)
 have BE:=hide (show Below base w ((((w.alloc (.cells #[.slice A n cp,.slice B q cq,.int .i64 lp] 24)).alloc (.cells #[.int .i64 k,.int .i64 x,.int .i64 y,.int .i64 s,.bool o] 37)).alloc (.cells #[.slice A n cp,.slice B q cq,.int .i64 lp] 24)).alloc (.cells #[.int .i64 k,.int .i64 x,.int .i64 y,.int .i64 s,.bool o] 37)).drew from (((((Below.refl w.heap.size w).alloc (Nat.le_refl _) _).alloc (by simp) _).alloc (by simp; omega) _).alloc (by simp; omega) _).drew.mono h.le)
 clear hin h
 by_cases h1:x < 0
 ·have t1:decide (x < 0) = true:=by simpa using h1
  clear h1 hin'
  go_enter Try.func71,Try.ntmps71
  go_wp2_with fail
  go_region
  go_wp2_with fail
  refine bodyPost_ret (v := .tuple #[.agg #[.slice A n cp,.slice B q cq,.int .i64 lp],.agg #[.int .i64 k,.int .i64 x,.int .i64 y,.int .i64 s,.bool o],.int .i64 2]) (by simp [results,Try.results71,go_sem]) rfl ?_
  exact rc_err (by decide) ⟨A,B,n,q,cp,cq,lp,k,x,y,s,o,rfl⟩ BE.out
 ·have t1:decide (x < 0) = false:=by simpa using h1
  by_cases h2:x < n
  ·have t2:decide ((n:Int) ≤ x) = false:=by simp; omega
   by_cases h3:y = 0
   ·have t3:(y != 0) = false:=by simpa using h3
    by_cases h4:s = 0
    ·have t4:(s != 0) = false:=by simpa using h4
     cases o with
     | false => exact absurd ⟨by omega,h2,h3,h4,rfl⟩ hin'
     | true =>
       clear h1 h2 h3 h4 hin'
       go_enter Try.func71,Try.ntmps71
       go_wp2_with fail
       go_region
       go_wp2_with fail
       refine bodyPost_ret (v := .tuple #[.agg #[.slice A n cp,.slice B q cq,.int .i64 lp],.agg #[.int .i64 k,.int .i64 x,.int .i64 y,.int .i64 s,.bool true],.int .i64 2]) (by simp [results,Try.results71,go_sem]) rfl ?_
       exact rc_err (by decide) ⟨A,B,n,q,cp,cq,lp,k,x,y,s,true,rfl⟩ BE.out
    ·have t4:(s != 0) = true:=by rw [bne_iff_ne]; exact h4
     clear h1 h2 h3 h4 hin'
     go_enter Try.func71,Try.ntmps71
     go_wp2_with fail
     go_region
     go_wp2_with fail
     refine bodyPost_ret (v := .tuple #[.agg #[.slice A n cp,.slice B q cq,.int .i64 lp],.agg #[.int .i64 k,.int .i64 x,.int .i64 y,.int .i64 s,.bool o],.int .i64 2]) (by simp [results,Try.results71,go_sem]) rfl ?_
     exact rc_err (by decide) ⟨A,B,n,q,cp,cq,lp,k,x,y,s,o,rfl⟩ BE.out
   ·have t3:(y != 0) = true:=by rw [bne_iff_ne]; exact h3
    clear h1 h2 h3 hin'
    go_enter Try.func71,Try.ntmps71
    go_wp2_with fail
    go_region
    go_wp2_with fail
    refine bodyPost_ret (v := .tuple #[.agg #[.slice A n cp,.slice B q cq,.int .i64 lp],.agg #[.int .i64 k,.int .i64 x,.int .i64 y,.int .i64 s,.bool o],.int .i64 2]) (by simp [results,Try.results71,go_sem]) rfl ?_
    exact rc_err (by decide) ⟨A,B,n,q,cp,cq,lp,k,x,y,s,o,rfl⟩ BE.out
  ·have t2:decide ((n:Int) ≤ x) = true:=by simp; omega
   clear h1 h2 hin'
   go_enter Try.func71,Try.ntmps71
   go_wp2_with fail
   go_region
   go_wp2_with fail
   refine bodyPost_ret (v := .tuple #[.agg #[.slice A n cp,.slice B q cq,.int .i64 lp],.agg #[.int .i64 k,.int .i64 x,.int .i64 y,.int .i64 s,.bool o],.int .i64 2]) (by simp [results,Try.results71,go_sem]) rfl ?_
   exact rc_err (by decide) ⟨A,B,n,q,cp,cq,lp,k,x,y,s,o,rfl⟩ BE.out
theorem runcurl_any (d:Pl.Dg) (hd:Pl.Wf d) (base cp cq m:Nat) (A B:Option Addr) (x y s:Int) (o:Bool) (w:World) (hm:m = 4 * d.n) (h:Own2 base w (.slice A d.n cp) (.slice B m cq) d.n m d.sg d.mt) :
 Calls Try.prog 71 #[.agg #[.slice A d.n cp,.slice B m cq,.int .i64 d.lp],.agg #[.int .i64 2,.int .i64 x,.int .i64 y,.int .i64 s,.bool o]] w (RC base (apC d ⟨2,x,y,s,o⟩) (apD d ⟨2,x,y,s,o⟩) (apI d ⟨2,x,y,s,o⟩) w) := by
 by_cases hin:inR d.n ⟨2,x,y,s,o⟩
 ·have hi:=hin
  unfold inR at hi
  simp at hi
  obtain ⟨h0,h1,rfl,rfl,rfl⟩:=hi
  obtain ⟨c,rfl⟩:=Int.eq_ofNat_of_zero_le h0
  have e:apC d ⟨2,(c:Int),0,0,false⟩ = uncC d c:=by
   unfold apC
   rw [if_neg (by simp),if_neg (by rw [Pl.vb_true hin]; decide),if_neg (by simp),if_pos rfl]
   rfl
  rw [e]
  exact runcurl_in d hd base cp cq m A B 2 c w hm h (by omega)
 ·have e : apC d ⟨2, x, y, s, o⟩ = 2 := by
   unfold apC
   rw [if_neg (by simp),if_pos (Pl.vb_false hin)]
  rw [e]
  exact runcurl_range base d.n m cp cq A B d.lp 2 x y s o d.sg d.mt _ _ w h (by have := hd.few; omega) hin
end Go.Proofs.Ytghdiolnonejaaa
end
section
namespace Go.Proofs.Ytghdiolnonejaaa
open Go Go.RowKit
attribute [local go_sem ↓] Go.wp_at_zero Go.wp_at_succ
def prs (l:List Nat):List Value := l.map (fun k:Nat => Value.int .i64 k)
section
variable {base:Nat} {w W W' W2:World} {vS vM:Value} {n q:Nat} {lp:Int} {mv:List Value} {ss:List Int} {l:List Nat}
end
structure SQ (base:Nat) (w w2:World) (vS vM:Value) (n q:Nat) (lp:Int) (mv:List Value) (ss:List Int) (l:List Nat) (gt:Nat) (tl:List Int) (v:Value) (qn:Nat) (E:List Nat) (W:World):Prop where
 k:RK base w vS vM n q lp mv ss l W
 t:IRow W gt tl
 e:W.ownsRow (gt + 1) 93 2 v qn (prs E)
 lo:w.heap.size + 4 ≤ gt
 gt2:w2.heap.size = gt
 b2:Below w2.heap.size w2 W
 hS:∀ g,vS.ownBlock = some g → g < w.heap.size
 hM:∀ g,vM.ownBlock = some g → g < w.heap.size
section
variable {base:Nat} {w w2 W W' W2:World} {vS vM v v':Value} {n q gt qn:Nat} {lp:Int} {mv:List Value} {ss tl:List Int} {l E:List Nat}
end
section
variable {base:Nat} {w W W' W2:World} {vS vM:Value} {n q gt ge gO g1 c1 g2 c2 b3 gV:Nat} {lp:Int} {mv bk:List Value} {ss tl:List Int} {l L L':List Nat} {E:Nat → Nat}
end
end Go.Proofs.Ytghdiolnonejaaa
end
