/-
 The texts Vi, Vj, Vk, Vl, Vn, Vp, Vq, Ha, Hb, Hc, Hd, Hj, Ho.
-/
import Derived.Test.YtghdiolnonejaaaGreatDoorA07
import Derived.Test.YtghdiolnonejaaaGreatDoorA11
import Derived.Test.YtghdiolnonejaaaGreatDoorA13
import Derived.Lib.ItoaLen
import Derived.Lib.ItoaNum
import Derived.Lib.LaidTab
import Derived.Lib.SmallJoins
import Derived.Maps.OwnSet
import Derived.Stop.LaidErr
import Derived.StringKeys
set_option linter.unusedVariables false
set_option linter.unusedSimpArgs false
section
namespace Go.Proofs.YtghdiolnonejaaaGreatDoor
open Go Go.RowKit
attribute [local go_sem ↓] Go.wp_at_zero Go.wp_at_succ
def cmpP (p q:Pl.Pc):Int := if p.order.length = q.order.length then Pl.lx p.code q.code else (p.order.length:Int) - (q.order.length:Int)
set_option maxRecDepth 100000 in
set_option maxHeartbeats 2000000 in
theorem cmp_pieces (vC vO vC' vO':Value) (x x':Int) (p q:Pl.Pc) (w:World) (hp:PcV w vC vO x p) (hq:PcV w vC' vO' x' q) (lp:p.order.length ≤ 64) (lq:q.order.length ≤ 64) (cp:p.code.length ≤ 320) (cq:q.code.length ≤ 320) :
 Calls Tryz.prog 116 #[.agg #[vC,vO,.int .i64 x],.agg #[vC',vO',.int .i64 x']] w fun e w' => e = .returned (.int .i64 (cmpP p q)) ∧ Below w.heap.size w w' := by
 obtain ⟨A1,e1,h1,h1c,h1b⟩:=hp.c
 obtain ⟨A2,e2,h2,_,h2b⟩:=hp.o
 obtain ⟨A3,e3,h3,h3c,h3b⟩:=hq.c
 obtain ⟨A4,e4,h4,_,h4b⟩:=hq.o
 subst h1; subst h2; subst h3; subst h4
 rw [nats_len,nats_len]
 have H1:=hide (show IntsAt w A1 p.code.length p.code from h1b.row)
 have H3:=hide (show IntsAt w A3 q.code.length q.code from h3b.row)
 clear h1b h2b h3b h4b hp hq h1c h3c
 obtain ⟨m,hm⟩:∃ m,m = p.order.length := ⟨_,rfl⟩
 obtain ⟨n,hn⟩:∃ n,n = q.order.length := ⟨_,rfl⟩
 have HMN:=hide (show cmpP p q = if m = n then Pl.lx p.code q.code else (m:Int) - (n:Int) by unfold cmpP; rw [hm,hn])
 rw [← hm,← hn]
 rw [← hm] at lp
 rw [← hn] at lq
 clear hm hn
 have B0:=hide (show Below w.heap.size w ((w.alloc (.cells #[.slice A1 p.code.length e1,.slice A2 m e2,.int .i64 x] 146)).alloc (.cells #[.slice A3 q.code.length e3,.slice A4 n e4,.int .i64 x'] 146)) from ((Below.refl _ _).alloc (Nat.le_refl _) _).alloc (by simp) _)
 by_cases he:m = n
 ·subst he
  have HR:=hide (show cmpP p q = Pl.lx p.code q.code by rw [HMN.out,if_pos rfl])
  go_enter Tryz.func116,Tryz.ntmps116
  go_wp2_with fail
  refine (compare_any p.code q.code A1 A3 _ _ e1 e3 _ (H1.out.keep B0.out) (H3.out.keep B0.out) (by omega) (by omega)).mono ?_
  rintro e w1 ⟨rfl,rfl⟩
  go_wp2
  go_ret
  exact ⟨by rw [HR.out]; rfl,B0.out⟩
 ·have HR:=hide (show cmpP p q = (m:Int) - (n:Int) by rw [HMN.out,if_neg he])
  have hei:¬ ((m:Int) = (n:Int)):=by omega
  have heb:((m:Int) != (n:Int)) = true:=by rw [bne_iff_ne]; exact hei
  clear he
  go_enter Tryz.func116,Tryz.ntmps116
  go_wp2
  go_ret
  exact ⟨ret_int (by rw [HR.out]),B0.out⟩
end Go.Proofs.YtghdiolnonejaaaGreatDoor
end
section
namespace Go.Proofs.YtghdiolnonejaaaGreatDoor
open Go Go.RowKit
attribute [local go_sem ↓] Go.wp_at_zero Go.wp_at_succ
theorem cmp_kle {p q:Pl.Pc} (hp:p.code.length = 5 * p.order.length) (hq:q.code.length = 5 * q.order.length):cmpP p q < 0 ↔ ¬ Pl.leP q p := by
 unfold cmpP Pl.leP Pl.kle
 by_cases h:p.order.length = q.order.length
 ·rw [if_pos h]
  have:=Pl.lx_neg p.code q.code
  constructor
  ·rintro h1 (h2 | ⟨_,h2⟩) <;> omega
  ·intro h1
   rcases Int.lt_or_le (Pl.lx p.code q.code) 0 with h2 | h2
   ·exact h2
   ·exact absurd (.inr ⟨by omega,by omega⟩) h1
 ·rw [if_neg h]
  constructor
  ·rintro h1 (h2 | ⟨h2,_⟩) <;> omega
  ·intro h1
   rcases Nat.lt_or_ge p.order.length q.order.length with h2 | h2
   ·omega
   ·exact absurd (.inl (by omega)) h1
theorem PcsV.at_ {W:World}:∀ {cs:List Value} {ps:List Pl.Pc},PcsV W cs ps → ∀ {j:Nat} {p:Pl.Pc},ps[j]? = some p → ∃ vC vO x,PcV W vC vO x p ∧ cs[j * 3]? = some vC ∧ cs[j * 3 + 1]? = some vO ∧ cs[j * 3 + 2]? = some (.int .i64 x)
 | [],[],_,j,p,h => by simp at h
 | vC :: vO :: .int .i64 x :: r, q :: ps, hv, 0, p, h => by
   obtain rfl:q = p := by simpa using h
   exact ⟨vC,vO,x,hv.1,rfl,rfl,rfl⟩
 | vC :: vO :: .int .i64 x :: r, q :: ps, hv, j + 1, p, h => by
   obtain ⟨a,b,y,h1,h2,h3,h4⟩:=PcsV.at_ hv.2 (j := j) (p := p) (by simpa using h)
   refine ⟨a,b,y,h1,?_,?_,?_⟩
   ·rw [show (j + 1) * 3 = j * 3 + 3 by omega]; exact h2
   ·rw [show (j + 1) * 3 + 1 = j * 3 + 1 + 3 by omega]; exact h3
   ·rw [show (j + 1) * 3 + 2 = j * 3 + 2 + 3 by omega]; exact h4
theorem PcsV.put {W:World} {vC vO:Value} {x:Int} {p:Pl.Pc} (hp:PcV W vC vO x p):∀ {cs:List Value} {ps:List Pl.Pc},PcsV W cs ps → ∀ (j:Nat),j < ps.length → PcsV W (((cs.set (j * 3) vC).set (j * 3 + 1) vO).set (j * 3 + 2) (.int .i64 x)) (ps.set j p)
 | [],[],_,j,h => by simp at h
 | vC' :: vO' :: .int .i64 x' :: r,q :: ps,hv,0,h => ⟨hp,hv.2⟩
 | vC' :: vO' :: .int .i64 x' :: r, q :: ps, hv, j + 1, h => by
   have ih:=PcsV.put hp hv.2 j (by simpa using h)
   rw [show (j + 1) * 3 = j * 3 + 3 by omega,show j * 3 + 3 + 1 = (j * 3 + 1) + 3 by omega,show j * 3 + 3 + 2 = (j * 3 + 2) + 3 by omega]
   exact ⟨hv.1,ih⟩
end Go.Proofs.YtghdiolnonejaaaGreatDoor
end
section
namespace Go.Proofs.YtghdiolnonejaaaGreatDoor
open Go Go.RowKit
attribute [local go_sem ↓] Go.wp_at_zero Go.wp_at_succ
structure SI (base:Nat) (w:World) (A:Option Addr) (n c:Nat) (cs:List Value) (ps:List Pl.Pc) (W:World):Prop where
 own:W.ownsRow base 146 3 (.slice A n c) n cs
 pv:PcsV W cs ps
 len:ps.length = n
 bel:Below base w W
 big:base ≤ W.heap.size
theorem SI.below {base:Nat} {w W W':World} {A:Option Addr} {n c:Nat} {cs:List Value} {ps:List Pl.Pc} (h:SI base w A n c cs ps W) (hb:Below W.heap.size W W'):SI base w A n c cs ps W' :=
 ⟨own_below h.own hb,h.pv.map (fun p => p.below hb),h.len,h.bel.trans (hb.mono h.big),Nat.le_trans h.big hb.size⟩
theorem own_free {W:World} {base s g n c:Nat} {e:TypeId} {xs:List Value} (h:W.ownsRow base e s (.slice (some ⟨g,0,none⟩) n c) n xs):∀ o,W.frozen? ⟨g,o,none⟩ = false := by
 rcases h.2 with ⟨h1,_⟩ | ⟨g',cap,cur,h1,_,h3,_⟩
 ·cases h1
 ·injection h1 with h1
  injection h1 with h1
  injection h1 with h1
  subst h1
  exact Row.free (t := e) (vs := cur.toList) (show W.heap[g]? = _ by rw [h3])
theorem own_setIn {W:World} {base s g n c k:Nat} {e:TypeId} {xs:List Value} (h:W.ownsRow base e s (.slice (some ⟨g,0,none⟩) n c) n xs) (v:Value):(W.setCell ⟨g,k,none⟩ v).ownsRow base e s (.slice (some ⟨g,0,none⟩) n c) n (xs.set k v) := by
 refine ⟨by rw [List.length_set]; exact h.1,?_⟩
 rcases h.2 with ⟨h1,_⟩ | ⟨g',cap,cur,h1,h2,h3,h4,h5,h6,h7⟩
 ·cases h1
 ·injection h1 with h1 h1b h1c
  injection h1 with h1
  injection h1 with h1
  subst h1
  have hr:Row W g e cur.toList:=by show W.heap[g]? = _; rw [h3]
  have hs:=hr.set k v
  refine .inr ⟨g,cap,(cur.toList.set k v).toArray,by rw [h1c],h2,hs,h4,h5,by simp; exact h6,?_⟩
  simp only [List.toList_toArray]
  rw [List.take_set,h7]
def PcSz (p:Pl.Pc):Prop := p.order.length ≤ 64 ∧ p.code.length = 5 * p.order.length
theorem own_rowE {W:World} {base s g n c:Nat} {e:TypeId} {xs:List Value} (h:W.ownsRow base e s (.slice (some ⟨g,0,none⟩) n c) n xs):base ≤ g ∧ ∃ us,Row W g e us := by
 rcases h.2 with ⟨h1,_⟩ | ⟨g',cap,cur,h1,h2,h3,_⟩
 ·cases h1
 ·injection h1 with h1
  injection h1 with h1
  injection h1 with h1
  subst h1
  exact ⟨h2,cur.toList,by show W.heap[g]? = _; rw [h3]⟩
theorem PcV.store3 {W:World} {vC vO:Value} {x:Int} {p:Pl.Pc} (h:PcV W vC vO x p) {g:Nat} {us:List Value} (hr:Row W g 146 us) (a b c:Nat) (y0 y1 y2:Value) :
 PcV (((W.setCell ⟨g,a,none⟩ y0).setCell ⟨g,b,none⟩ y1).setCell ⟨g,c,none⟩ y2) vC vO x p :=
 ((h.store hr (by decide) y0).store (hr.set a y0) (by decide) y1).store ((hr.set a y0).set b y1) (by decide) y2
theorem SI.set3 {base g n c:Nat} {w W:World} {cs:List Value} {ps:List Pl.Pc} (h:SI base w (some ⟨g,0,none⟩) n c cs ps W) {vC vO:Value} {x:Int} {p:Pl.Pc} (hp:PcV W vC vO x p) {j:Nat} (hj:j < ps.length) :
 SI base w (some ⟨g,0,none⟩) n c (((cs.set (j * 3) vC).set (j * 3 + 1) vO).set (j * 3 + 2) (.int .i64 x)) (ps.set j p) (((W.setCell ⟨g,j * 3,none⟩ vC).setCell ⟨g,j * 3 + 1,none⟩ vO).setCell ⟨g,j * 3 + 2,none⟩ (.int .i64 x)) := by
 obtain ⟨hb,us,hr⟩:=own_rowE h.own
 exact ⟨own_setIn (own_setIn (own_setIn h.own _) _) _,PcsV.put (hp.store3 hr _ _ _ _ _ _) (h.pv.map (fun q => q.store3 hr _ _ _ _ _ _)) j hj,by rw [List.length_set]; exact h.len,((h.bel.setCell (by show _ ≤ g; exact hb) _).setCell (by show _ ≤ g; exact hb) _).setCell (by show _ ≤ g; exact hb) _,by simpa using h.big⟩
set_option maxRecDepth 100000 in
set_option maxHeartbeats 8000000 in
theorem isort_any (base:Nat) (A:Option Addr) (n c:Nat) (cs:List Value) (qs:List Pl.Pc) (w:World) (h0:SI base w A n c cs qs w) (hsz:∀ p,p ∈ qs → PcSz p) (hn:n ≤ 64) :
 Calls Tryz.prog 133 #[.slice A n c,.int .i64 0,.int .i64 (n:Int),.func (.func 116) #[] #[]] w fun e w' => (∃ v,e = .returned v) ∧ ∃ cs' ps',SI base w A n c cs' ps' w' ∧ ps'.Perm qs ∧ ps'.Pairwise Pl.leP := by
 have H0:=hide h0
 have HSZ:=hide hsz
 clear h0 hsz
 obtain ⟨N,hN1,hN2,hN3⟩:∃ N,n ≤ N ∧ 1 ≤ N ∧ N ≤ 64 := ⟨max n 1,by omega,by omega,by omega⟩
 go_enter Tryz.func133,Tryz.ntmps133
 go_wp2
 go_loopg [8,9] (N - 1) (fun g s8 s9 wx => ∃ (i:Nat) (cs:List Value) (ps:List Pl.Pc),i + g = N ∧ s8 = .int .i64 (i:Int) ∧ SI base w A n c cs ps wx ∧ ps.Perm qs ∧ (ps.take i).Pairwise Pl.leP)
 case atStart => exact ⟨1,cs,qs,by omega,rfl,H0.out,List.Perm.refl _,by
  cases qs with
  | nil => simp
  | cons a l => simp⟩
 case round =>
  clear H0
  obtain ⟨i,cs,ps,hig,rfl,hk,hpm,hso⟩:=hrel
  have HIG:=hide hig
  have K0:=hide hk
  have HPM:=hide hpm
  have HSO:=hide hso
  have hin:i ≤ N:=by omega
  clear hk hpm hso
  obtain ⟨go,rfl⟩:∃ go,go = gk := ⟨_,rfl⟩
  by_cases hi:i < n
  ·have hii:(i:Int) < (n:Int):=by omega
   have I0:=hide (Pl.Ins.start HPM.out HSO.out (by rw [K0.out.len]; exact hi))
   clear hig
   go_wp2_with fail
   go_loopg [9] i (fun g s9 wx => ∃ (j:Nat) (cs:List Value) (ps:List Pl.Pc),j = g ∧ s9 = .int .i64 (j:Int) ∧ SI base w A n c cs ps wx ∧ Pl.Ins qs ps i j)
   case atStart => exact ⟨i,_,_,rfl,rfl,K0.out,I0.out⟩
   case round =>
    clear I0 K0 HSO HPM
    obtain ⟨j,cs,ps,hjg,rfl,hk,hins⟩:=hrel
    have HJG:=hide hjg
    have K0:=hide hk
    have HI:=hide hins
    clear hk hins hjg
    have hnA:0 < n:=by omega
    obtain ⟨g,cap,hA,hcap,hgl⟩:=World.ownsRow.form K0.out.own hnA
    injection hA with hA _ hcc
    subst hA
    subst hcc
    by_cases hj0:j = 0
    ·subst hj0
     have HST:=hide (HI.out.stop (.inl rfl))
     have hz:¬ ((0:Int) < ((0:Nat):Int)):=by omega
     go_upto_region 4 with fail
     go_quiet (fail)
     go_wp2
     go_roundg (go - 1)
     case measure => have := HIG.out; omega
     case rel => exact ⟨i + 1,cs,ps,by have := HIG.out; omega,by go_num,K0.out.below (below_drewN (Below.refl _ _) _),HI.out.perm,HST.out⟩
    ·obtain ⟨k,rfl⟩:∃ k,j = k + 1 := ⟨j - 1,by omega⟩
     clear hj0
     obtain ⟨pre,x0,mid,suf,he1,he2,he3,_,_⟩:=HI.out.ex
     have hlen:k + 1 < ps.length:=by rw [he1]; simp; omega
     have hkn:k + 1 < n:=by rw [← K0.out.len]; exact hlen
     clear he1 he2 he3
     obtain ⟨x,hx⟩:∃ x,ps[k + 1]? = some x := ⟨_,List.getElem?_eq_getElem hlen⟩
     obtain ⟨y,hy⟩:∃ y,ps[k]? = some y := ⟨_,List.getElem?_eq_getElem (by omega)⟩
     have hsx:=HSZ.out x (HI.out.perm.mem_iff.1 (List.mem_of_getElem? hx))
     have hsy:=HSZ.out y (HI.out.perm.mem_iff.1 (List.mem_of_getElem? hy))
     obtain ⟨a0,a1,a2,hpx,ca0,ca1,ca2⟩:=K0.out.pv.at_ hx
     obtain ⟨b0,b1,b2,hpy,cb0,cb1,cb2⟩:=K0.out.pv.at_ hy
     have HX:=hide hx
     have HY:=hide hy
     have HPX:=hide hpx
     have HPY:=hide hpy
     have CA:=fun (t:Nat) (u:Value) (ht:(k + 1) * 3 + t < n * 3) (e:cs[(k + 1) * 3 + t]? = some u) => (show wr.cell? ⟨g,(k + 1) * 3 + t,none⟩ = some u by rw [World.ownsRow.cellAt K0.out.own _ ht]; exact e)
     have CB:=fun (t:Nat) (u:Value) (ht:k * 3 + t < n * 3) (e:cs[k * 3 + t]? = some u) => (show wr.cell? ⟨g,k * 3 + t,none⟩ = some u by rw [World.ownsRow.cellAt K0.out.own _ ht]; exact e)
     have x0:=CA 0 a0 (by omega) ca0
     have x1:=CA 1 a1 (by omega) ca1
     have x2:=CA 2 _ (by omega) ca2
     have y0:=CB 0 b0 (by omega) cb0
     have y1:=CB 1 b1 (by omega) cb1
     have y2:=CB 2 _ (by omega) cb2
     rw [Nat.add_zero] at x0 y0
     clear CA CB ca0 ca1 ca2 cb0 cb1 cb2 hx hy
     obtain ⟨v,hv⟩:∃ v,v = cmpP x y := ⟨_,rfl⟩
     have HV:=hide hv
     have HCM:=hide (fun (p:Cls (fun W => Below wr.heap.size wr W)) => calls_cls (C := (fun W => Below wr.heap.size wr W)) (cmp_pieces a0 a1 b0 b1 a2 b2 x y p.w (HPX.out.below p.ok) (HPY.out.below p.ok) hsx.1 hsy.1 (by rw [hsx.2]; have := hsx.1; omega) (by rw [hsy.2]; have := hsy.1; omega)) (fun e w' h => ⟨h.1,p.ok.trans (h.2.mono p.ok.size)⟩))
     have HKL:=hide (cmp_kle hsx.2 hsy.2)
     rw [← hv] at HCM HKL
     clear hpx hpy hsx hsy hv
     go_upto_region 4 with fail
     by_cases hv0:v < 0
     ·have hvb:decide (v < 0) = true:=decide_eq_true hv0
      have hkp:(0:Int) < (k:Int) + 1:=by omega
      have c0:∀ p:Cls (fun W => Below wr.heap.size wr W),p.w.cell? ⟨g,(k + 1) * 3,none⟩ = some a0:=fun p => cell_below x0 p.ok
      have c1:∀ p:Cls (fun W => Below wr.heap.size wr W),p.w.cell? ⟨g,(k + 1) * 3 + 1,none⟩ = some a1:=fun p => cell_below x1 p.ok
      have c2:∀ p:Cls (fun W => Below wr.heap.size wr W),p.w.cell? ⟨g,(k + 1) * 3 + 2,none⟩ = some (.int .i64 a2):=fun p => cell_below x2 p.ok
      have c3:∀ p:Cls (fun W => Below wr.heap.size wr W),p.w.cell? ⟨g,k * 3,none⟩ = some b0:=fun p => cell_below y0 p.ok
      have c4:∀ p:Cls (fun W => Below wr.heap.size wr W),p.w.cell? ⟨g,k * 3 + 1,none⟩ = some b1:=fun p => cell_below y1 p.ok
      have c5:∀ p:Cls (fun W => Below wr.heap.size wr W),p.w.cell? ⟨g,k * 3 + 2,none⟩ = some (.int .i64 b2):=fun p => cell_below y2 p.ok
      refine wp_region_cls (fun W => Below wr.heap.size wr W) (by kernel_rfl) (by kernel_rfl) (Below.refl wr.heap.size wr).drew (fun hne => ?_)
      repeat (go_big_quiet_step (((go_at_call 116; exact HCM.out _))))
      refine wpQuiet_nil ?_
      rintro _ ⟨p,rfl⟩
      have K1:=hide (K0.out.below p.ok)
      have HPX1:=hide (HPX.out.below p.ok)
      have HPY1:=hide (HPY.out.below p.ok)
      have q0:=c0 p
      have q1:=c1 p
      have q2:=c2 p
      have q3:=c3 p
      have q4:=c4 p
      have q5:=c5 p
      have fz:∀ o,p.w.frozen? ⟨g,o,none⟩ = false:=own_free K1.out.own
      clear c0 c1 c2 c3 c4 c5 x0 x1 x2 y0 y1 y2 HCM K0 HPX HPY
      obtain ⟨D0,e0,h0,h0b⟩:=HPX1.out.c
      obtain ⟨D1,e1,h1,h1b⟩:=HPX1.out.o
      obtain ⟨E0,i0,h2,h2b⟩:=HPY1.out.c
      obtain ⟨E1,i1,h3,h3b⟩:=HPY1.out.o
      subst h0
      subst h1
      subst h2
      subst h3
      clear h0b h1b h2b h3b
      obtain ⟨V,hV⟩:∃ V,V = p.w := ⟨_,rfl⟩
      rw [← hV] at K1 HPX1 HPY1 q0 q1 q2 q3 q4 q5 fz ⊢
      have INS:=hide (HI.out.step HX.out HY.out (HKL.out.1 hv0))
      clear hV HI hv0 hvb
      go_upto_region 6 with fail
      go_region
      all_goals (go_wp2_with fail)
      go_roundg (gk - 1)
      case measure => have := HJG.out; omega
      case rel =>
       obtain ⟨_,us,hr⟩:=own_rowE K1.out.own
       have F1:=K1.out.set3 HPY1.out hlen
       have F2:=F1.set3 (HPX1.out.store3 hr _ _ _ _ _ _) (j := k) (by rw [List.length_set]; omega)
       exact ⟨k,_,_,by have := HJG.out; omega,rfl,F2.below (Below.refl _ _).drew,INS.out⟩
     ·have hvb:decide (v < 0) = false:=decide_eq_false hv0
      have hkp:(0:Int) < (k:Int) + 1:=by omega
      have HST:=hide (HI.out.stop (.inr ⟨x,y,HX.out,HY.out,by
       rcases Classical.em (Pl.leP y x) with h | h
       ·exact h
       ·exact absurd (HKL.out.2 h) hv0⟩))
      have c0:∀ p:Cls (fun W => Below wr.heap.size wr W),p.w.cell? ⟨g,(k + 1) * 3,none⟩ = some a0:=fun p => cell_below x0 p.ok
      have c1:∀ p:Cls (fun W => Below wr.heap.size wr W),p.w.cell? ⟨g,(k + 1) * 3 + 1,none⟩ = some a1:=fun p => cell_below x1 p.ok
      have c2:∀ p:Cls (fun W => Below wr.heap.size wr W),p.w.cell? ⟨g,(k + 1) * 3 + 2,none⟩ = some (.int .i64 a2):=fun p => cell_below x2 p.ok
      have c3:∀ p:Cls (fun W => Below wr.heap.size wr W),p.w.cell? ⟨g,k * 3,none⟩ = some b0:=fun p => cell_below y0 p.ok
      have c4:∀ p:Cls (fun W => Below wr.heap.size wr W),p.w.cell? ⟨g,k * 3 + 1,none⟩ = some b1:=fun p => cell_below y1 p.ok
      have c5:∀ p:Cls (fun W => Below wr.heap.size wr W),p.w.cell? ⟨g,k * 3 + 2,none⟩ = some (.int .i64 b2):=fun p => cell_below y2 p.ok
      refine wp_region_cls (fun W => Below wr.heap.size wr W) (by kernel_rfl) (by kernel_rfl) (Below.refl wr.heap.size wr).drew (fun hne => ?_)
      repeat (go_big_quiet_step (((go_at_call 116; exact HCM.out _))))
      refine wpQuiet_nil ?_
      rintro _ ⟨p,rfl⟩
      clear c0 c1 c2 c3 c4 c5 x0 x1 x2 y0 y1 y2 HCM
      go_wp2
      go_roundg (go - 1)
      case measure => have := HIG.out; omega
      case rel => exact ⟨i + 1,cs,ps,by have := HIG.out; omega,by go_num,K0.out.below p.ok,HI.out.perm,HST.out⟩
  ·have hii:¬ ((i:Int) < (n:Int)):=by omega
   have HE:=hide (show ps.Pairwise Pl.leP by
    have h:=HSO.out
    rw [List.take_of_length_le (by rw [K0.out.len]; omega)] at h
    exact h)
   clear hig
   go_wp2
   exact bodyPost_end (by simp [results,Tryz.results133,go_sem]; rfl) rfl ⟨⟨_,rfl⟩,_,_,K0.out,HPM.out,HE.out⟩
end Go.Proofs.YtghdiolnonejaaaGreatDoor
end
section
namespace Go.Proofs.YtghdiolnonejaaaGreatDoor
open Go Go.RowKit
theorem lst5_ok {d:Pl.Dg} (hd:Pl.Wf d) {ls:List Int} {P:Nat} (hL:Pl.LB d ls P) (hp:∀ a,a < d.n → 0 ≤ Pl.pv ls a) {i:Nat} {p:Pl.Pc} (h:Pl.Lst5 d (Gl ls d.n i) p):Pl.PcOk d p ∧ ∀ c,c ∈ p.order ↔ c < d.n ∧ Pl.pv ls c = (i:Int) := by
 obtain ⟨r,h1,h2,h3⟩:=h.is
 obtain ⟨hr,hri⟩:=mem_Gl.1 h1
 have key:∀ c,c < d.n → (Pl.pv ls c = (i:Int) ↔ Pl.Comp d r c):=fun c hc => by
  constructor
  ·intro e
   exact hL.conn r c hr hc (hp r hr) (by rw [hri,e])
  ·intro e
   rw [hL.same r c hr e (hp r hr),hri]
 refine ⟨h.ok hd hr (fun c => ?_),fun c => ?_⟩
 ·rw [mem_Gl]
  constructor
  ·rintro ⟨hc,e⟩
   exact ⟨hc,(key c hc).1 e⟩
  ·rintro ⟨hc,e⟩
   exact ⟨hc,(key c hc).2 e⟩
 ·rw [h3,Pl.ord_mem hd hr]
  constructor
  ·intro e
   have hc:c < d.n:=((Pl.ord_ok hd hr).mem c ((Pl.ord_mem hd hr c).2 e)).1
   exact ⟨hc,(key c hc).2 e⟩
  ·rintro ⟨hc,e⟩
   exact (key c hc).1 e
theorem pcs_groups {d:Pl.Dg} (hd:Pl.Wf d) {ls:List Int} {P:Nat} (hL:Pl.LB d ls P) (hp:∀ a,a < d.n → 0 ≤ Pl.pv ls a) {ps:List Pl.Pc} (hlen:ps.length = P) (his:∀ (i:Nat) (p:Pl.Pc),ps[i]? = some p → Pl.Lst5 d (Gl ls d.n i) p):Pl.Pcs d ps := by
 have hok:∀ p,p ∈ ps → Pl.PcOk d p:=fun p hm => by
  obtain ⟨i,hi,rfl⟩:=List.getElem_of_mem hm
  exact (lst5_ok hd hL hp (his i _ (List.getElem?_eq_getElem hi))).1
 refine ⟨hok,?_,fun c hc => ?_⟩
 ·refine List.pairwise_flatMap.2 ⟨fun p hm => ?_,?_⟩
  ·obtain ⟨r,hr,_,e,_⟩:=hok p hm
   rw [e]; exact (Pl.ord_ok hd hr).nd
  ·rw [List.pairwise_iff_getElem]
   intro i j hi hj hij x hx y hy e
   subst e
   have h1:=((lst5_ok hd hL hp (his i _ (List.getElem?_eq_getElem hi))).2 x).1 hx
   have h2:=((lst5_ok hd hL hp (his j _ (List.getElem?_eq_getElem hj))).2 x).1 hy
   have:=h1.2.symm.trans h2.2
   omega
 ·have h0:=hp c hc
  have h1:=(hL.lo c hc).2
  obtain ⟨i,hi⟩:∃ i:Nat,Pl.pv ls c = (i:Int) := ⟨(Pl.pv ls c).toNat,by omega⟩
  have hiP:i < ps.length:=by rw [hlen]; omega
  exact ⟨ps[i],List.getElem_mem hiP,((lst5_ok hd hL hp (his i _ (List.getElem?_eq_getElem hiP))).2 c).2 ⟨hc,hi⟩⟩
theorem pcs_perm {d:Pl.Dg} {ps qs:List Pl.Pc} (h:Pl.Pcs d ps) (hp:qs.Perm ps):Pl.Pcs d qs :=
 ⟨fun p hq => h.ok p (hp.mem_iff.1 hq), (hp.flatMap_right Pl.Pc.order).nodup_iff.2 h.nd, fun c hc => by
   obtain ⟨p,h1,h2⟩:=h.all c hc
   exact ⟨p,hp.mem_iff.2 h1,h2⟩⟩
theorem pcs_sz {d:Pl.Dg} (hd:Pl.Wf d) {ps:List Pl.Pc} (h:Pl.Pcs d ps):∀ p,p ∈ ps → PcSz p := fun p hm => by
 obtain ⟨r,hr,e1,e2,_⟩:=h.ok p hm
 refine ⟨?_,(h.ok p hm).len⟩
 have h1:=(Pl.ord_ok hd hr).nd
 have h2:∀ c,c ∈ Pl.ord d r → c < d.n:=fun c hc => ((Pl.ord_ok hd hr).mem c hc).1
 have:=hd.few
 rw [e2]
 have h3:=Pl.nodup_len h1 h2
 omega
end Go.Proofs.YtghdiolnonejaaaGreatDoor
end
section
namespace Go.Proofs.YtghdiolnonejaaaGreatDoor
open Go Go.RowKit
attribute [local go_sem ↓] Go.wp_at_zero Go.wp_at_succ
set_option maxRecDepth 100000 in
set_option maxHeartbeats 2000000 in
theorem stable_any (base:Nat) (A:Option Addr) (n c:Nat) (cs:List Value) (qs:List Pl.Pc) (w:World) (h0:SI base w A n c cs qs w) (hsz:∀ p,p ∈ qs → PcSz p) (hn:n < 20) :
 Calls Tryz.prog 125 #[.slice A n c,.int .i64 (n:Int),.func (.func 116) #[] #[]] w fun e w' => (∃ v,e = .returned v) ∧ ∃ cs' ps',SI base w A n c cs' ps' w' ∧ ps'.Perm qs ∧ ps'.Pairwise Pl.leP := by
 have H0:=hide h0
 have HSZ:=hide hsz
 have hn1:¬ ((20:Int) ≤ (n:Int)):=by omega
 have hn2:¬ ((20:Int) < (n:Int)):=by omega
 clear h0 hsz
 go_enter Tryz.func125,Tryz.ntmps125
 go_wp2_with fail
 go_loopg [7,8] 0 (fun g s7 s8 wx => s7 = .int .i64 0 ∧ s8 = .int .i64 20 ∧ wx = w)
 case atStart => exact ⟨rfl,rfl,rfl⟩
 case round =>
  obtain ⟨rfl,rfl,rfl⟩:=hrel
  go_wp2_with fail
  refine (isort_any base A n c cs qs _ H0.out HSZ.out (by omega)).mono ?_
  rintro e w1 ⟨⟨v,rfl⟩,cs',ps',hS,hP,hW⟩
  have HR:=hide (show ∃ cs' ps',SI base wr A n c cs' ps' w1 ∧ ps'.Perm qs ∧ ps'.Pairwise Pl.leP from ⟨cs',ps',hS,hP,hW⟩)
  clear hS hP hW
  go_wp2_with fail
  go_loopg [6,7,8] 0 (fun g s6 s7 s8 wx => s6 = .int .i64 20 ∧ wx = w1)
  case atStart => exact ⟨rfl,rfl⟩
  case round =>
   obtain ⟨rfl,rfl⟩:=hrel
   go_wp2
   exact bodyPost_end (by simp [results,Tryz.results125,go_sem]; rfl) rfl ⟨⟨_,rfl⟩,HR.out⟩
set_option maxRecDepth 100000 in
set_option maxHeartbeats 2000000 in
theorem isort_none (A:Option Addr) (n c:Nat) (w:World) (hn:n ≤ 64) :
 Calls Tryz.prog 133 #[.slice A n c,.int .i64 (n:Int),.int .i64 (n:Int),.func (.func 116) #[] #[]] w fun e w' => (∃ v,e = .returned v) ∧ w' = w := by
 have h1:¬ ((n:Int) + 1 < (n:Int)):=by omega
 go_enter Tryz.func133,Tryz.ntmps133
 go_wp2
 go_loopg [8,9] 0 (fun g s8 s9 wx => s8 = .int .i64 ((n:Int) + 1) ∧ wx = w)
 case atStart => exact ⟨rfl,rfl⟩
 case round =>
  obtain ⟨rfl,rfl⟩:=hrel
  go_wp2
  exact bodyPost_end (by simp [results,Tryz.results133,go_sem]; rfl) rfl ⟨⟨_,rfl⟩,rfl⟩
set_option maxRecDepth 100000 in
set_option maxHeartbeats 2000000 in
theorem stable_20 (base:Nat) (A:Option Addr) (c:Nat) (cs:List Value) (qs:List Pl.Pc) (w:World) (h0:SI base w A 20 c cs qs w) (hsz:∀ p,p ∈ qs → PcSz p) :
 Calls Tryz.prog 125 #[.slice A 20 c,.int .i64 20,.func (.func 116) #[] #[]] w fun e w' => (∃ v,e = .returned v) ∧ ∃ cs' ps',SI base w A 20 c cs' ps' w' ∧ ps'.Perm qs ∧ ps'.Pairwise Pl.leP := by
 have H0:=hide h0
 have HSZ:=hide hsz
 clear h0 hsz
 go_enter Tryz.func125,Tryz.ntmps125
 go_wp2_with fail
 go_loopg [7,8] 1 (fun g s7 s8 wx => (g = 1 ∧ s7 = .int .i64 0 ∧ s8 = .int .i64 20 ∧ wx = w) ∨ (g = 0 ∧ s7 = .int .i64 20 ∧ s8 = .int .i64 40 ∧ ∃ cs' ps',SI base w A 20 c cs' ps' wx ∧ ps'.Perm qs ∧ ps'.Pairwise Pl.leP))
 case atStart => exact .inl ⟨rfl,rfl,rfl,rfl⟩
 case round =>
  obtain ⟨go,rfl⟩:∃ go,go = gk := ⟨_,rfl⟩
  rcases hrel with ⟨hg,rfl,rfl,rfl⟩ | ⟨hg,rfl,rfl,hR⟩
  ·have HG:=hide hg
   clear hg
   go_wp2_with fail
   refine (isort_any base A 20 c cs qs _ H0.out HSZ.out (by omega)).mono ?_
   rintro e w1 ⟨⟨v,rfl⟩,cs',ps',hS,hP,hW⟩
   have HR:=hide (show ∃ cs' ps',SI base wr A 20 c cs' ps' w1 ∧ ps'.Perm qs ∧ ps'.Pairwise Pl.leP from ⟨cs',ps',hS,hP,hW⟩)
   clear hS hP hW
   go_wp2_with fail
   go_roundg 0
   case measure => have := HG.out; omega
   case rel => exact .inr ⟨rfl,rfl,rfl,HR.out⟩
  ·have HR:=hide hR
   clear hR hg
   go_wp2_with fail
   refine (isort_none A 20 c _ (by omega)).mono ?_
   rintro e w1 ⟨⟨v,rfl⟩,rfl⟩
   go_wp2_with fail
   go_loopg [6,7,8] 0 (fun g s6 s7 s8 wx => s6 = .int .i64 20 ∧ wx = w1)
   case atStart => exact ⟨rfl,rfl⟩
   case round =>
    obtain ⟨rfl,rfl⟩:=hrel
    go_wp2
    exact bodyPost_end (by simp [results,Tryz.results125,go_sem]; rfl) rfl ⟨⟨_,rfl⟩,HR.out⟩
set_option maxRecDepth 100000 in
set_option maxHeartbeats 2000000 in
theorem sort_any (base:Nat) (A:Option Addr) (n c:Nat) (cs:List Value) (qs:List Pl.Pc) (w:World) (h0:SI base w A n c cs qs w) (hsz:∀ p,p ∈ qs → PcSz p) (hn:n ≤ 20) :
 Calls Tryz.prog 115 #[.slice A n c,.func (.func 116) #[] #[]] w fun e w' => (∃ v,e = .returned v) ∧ ∃ cs' ps',SI base w A n c cs' ps' w' ∧ ps'.Perm qs ∧ ps'.Pairwise Pl.leP := by
 have H0:=hide h0
 have HSZ:=hide hsz
 clear h0 hsz
 go_enter Tryz.func115,Tryz.ntmps115
 go_wp2_with fail
 have hst:Calls Tryz.prog 125 #[.slice A n c,.int .i64 (n:Int),.func (.func 116) #[] #[]] w fun e w' => (∃ v,e = .returned v) ∧ ∃ cs' ps',SI base w A n c cs' ps' w' ∧ ps'.Perm qs ∧ ps'.Pairwise Pl.leP:=by
  rcases Nat.lt_or_ge n 20 with h | h
  ·exact stable_any base A n c cs qs _ H0.out HSZ.out h
  ·obtain rfl:n = 20 := by omega
   exact stable_20 base A c cs qs _ H0.out HSZ.out
 refine hst.mono ?_
 clear hst
 rintro e w1 ⟨⟨v,rfl⟩,cs',ps',hS,hP,hW⟩
 have HR:=hide (show ∃ cs' ps',SI base w A n c cs' ps' w1 ∧ ps'.Perm qs ∧ ps'.Pairwise Pl.leP from ⟨cs',ps',hS,hP,hW⟩)
 clear hS hP hW
 go_wp2
 exact bodyPost_end (by simp [results,Tryz.results115,go_sem]; rfl) rfl ⟨⟨_,rfl⟩,HR.out⟩
end Go.Proofs.YtghdiolnonejaaaGreatDoor
end
section
namespace Go.Proofs.YtghdiolnonejaaaGreatDoor
open Go Go.RowKit
attribute [local go_sem ↓] Go.wp_at_zero Go.wp_at_succ
set_option maxRecDepth 100000 in
set_option maxHeartbeats 8000000 in
theorem pieces_any (d:Pl.Dg) (hd:Pl.Valid d) (A B:Option Addr) (cp cq m:Nat) (w:World) (hm:m = 4 * d.n) (hg:DgAt w A B d) (h20:d.n ≤ 20) :
 Calls Tryz.prog 96 #[.agg #[.slice A d.n cp,.slice B m cq,.int .i64 d.lp]] w fun e w' => ∃ (A':Option Addr) (n c:Nat) (cs:List Value) (ps:List Pl.Pc),e = .returned (.slice A' n c) ∧ w'.ownsRow (w.heap.size + 1) 146 3 (.slice A' n c) n cs ∧ PcsV w' cs ps ∧ ps.length = n ∧ n ≤ d.n ∧ Pl.Pcs d ps ∧ Pl.Srt ps ∧ Below w.heap.size w w' := by
 have hn:=hd.wf.few
 have HM:=hide hm
 have HG:=hide hg
 have HD:=hide hd
 clear hm hg
 have X0:=hide (row_at (W := w) (g := w.heap.size) (t := 24) (vs := [.slice A d.n cp,.slice B m cq,.int .i64 d.lp]) rfl)
 have B0:=hide (show Below w.heap.size w (w.alloc (.cells #[.slice A d.n cp,.slice B m cq,.int .i64 d.lp] 24)) from (Below.refl _ _).alloc (Nat.le_refl _) _)
 go_enter Tryz.func96,Tryz.ntmps96
 obtain ⟨d0,d1,d2,d3⟩:=box3 X0.out
 go_wp2_with fail
 refine (graph_any d hd A B cp cq m _ HM.out (HG.out.keep B0.out)).mono ?_
 rintro e w1 ⟨AG,cG,P,ls,vs,rfl,hP,hLB,hpos,hrow,hvs,hb1,_⟩
 have HLB:=hide hLB
 have HPOS:=hide hpos
 have L0:=hide (show PL w d ls P AG vs [.slice A d.n cp,.slice B m cq,.int .i64 d.lp] 0 (.slice none 0 0) [] [] w1 from
  ⟨X0.out.below hb1,⟨hrow,hvs⟩,World.ownsRow_nil _ _ _ _,trivial,rfl,fun i p h => by simp at h,B0.out.trans (hb1.mono B0.out.size)⟩)
 clear hLB hpos hrow hvs hb1 X0 B0 d0 d1 d2 d3
 go_wp2_with fail
 go_loopg [3,5,6,8,9,10,11,15,34,40] P (fun g s3 s5 s6 s8 s9 s10 s11 s15 s34 s40 wx => ∃ (j:Nat) (cs:List Value) (ps:List Pl.Pc),j + g = P ∧ s15 = .int .i64 (j:Int) ∧ PL w d ls P AG vs [.slice A d.n cp,.slice B m cq,.int .i64 d.lp] j s3 cs ps wx)
 case atStart => exact ⟨0,_,_,by omega,rfl,L0.out⟩
 case round =>
  clear L0
  obtain ⟨j,cs,ps,hjg,rfl,hk⟩:=hrel
  have HJG:=hide hjg
  have K0:=hide hk
  have hjP:j ≤ P:=by omega
  clear hk
  obtain ⟨go,rfl⟩:∃ go,go = gk := ⟨_,rfl⟩
  by_cases hj:j < P
  ·have hji:(j:Int) < (P:Int):=by omega
   have j0:(0:Int) ≤ (j:Int):=by omega
   obtain ⟨v,hvj,AF,cF,rfl,hF⟩:=K0.out.gr.v.2 j _ (gl_at ls d.n hj)
   have hvl:=(List.getElem?_eq_some_iff.1 hvj).1
   obtain ⟨bG,oG,rfl,x1⟩:=RowAt.at_ K0.out.gr.r.row hj
   rw [(List.getElem?_eq_some_iff.1 hvj).2] at x1
   have HVJ:=hide hvj
   obtain ⟨l,hl⟩:∃ l,l = Gl ls d.n j := ⟨_,rfl⟩
   rw [← hl] at x1 hF
   obtain ⟨nl,hnl⟩:∃ n,n = l.length := ⟨_,rfl⟩
   have HNL:=hide hnl
   rw [← hnl] at x1
   have HLL:=hide hl
   have hnl64:nl ≤ 64:=by rw [hnl,hl]; have := Gl_len ls d.n j; omega
   obtain ⟨aLst,cL,rfl⟩:=owns_slice K0.out.own
   have hng:(Value.slice aLst j cL).ownBlock ≠ some wr.heap.size:=fun e => by have := (K0.out.own.lt _ e).2; omega
   have P0:=hide (show PI w d ls P (some ⟨bG,oG,none⟩) vs [.slice A d.n cp,.slice B m cq,.int .i64 d.lp] j (.slice aLst j cL) cs ps wr.heap.size 0 (.slice none 0 0) (.slice none 0 0) 0 (wr.alloc (.cells #[.slice none 0 0,.slice none 0 0,.int .i64 0] 146)) from
    ⟨K0.out.alloc _,row_at (vs := [.slice none 0 0,.slice none 0 0,.int .i64 0]) rfl,.inl ⟨rfl,rfl,rfl,rfl⟩,by have := K0.out.big; omega,hng⟩)
   have hlo:w.heap.size < wr.heap.size:=by have := K0.out.big; omega
   clear hvj hl hnl hF hjg hng
   obtain ⟨d0,d1,d2,d3⟩:=box3 K0.out.bx
   obtain ⟨g6,hg6⟩:∃ g,g = wr.heap.size := ⟨_,rfl⟩
   go_upto_region 6 with fail
   rw [← hg6] at P0 hlo ⊢
   clear hg6 d0 d1 d2 d3 x1 K0
   go_wp2_with fail
   go_loopg [8,9,10,11,21,34,40] nl (fun g s8 s9 s10 s11 s21 s34 s40 wx => ∃ (k:Nat) (vC vO:Value) (x:Int),k + g = nl ∧ s21 = .int .i64 (k:Int) ∧ PI w d ls P (some ⟨bG,oG,none⟩) vs [.slice A d.n cp,.slice B m cq,.int .i64 d.lp] j (.slice aLst j cL) cs ps g6 k vC vO x wx)
   case atStart => exact ⟨0,_,_,_,by omega,rfl,P0.out⟩
   case round =>
    clear P0
    obtain ⟨k,vC,vO,x,hkg,rfl,hk⟩:=hrel
    have HKG:=hide hkg
    have K0:=hide hk
    have hkn:k ≤ nl:=by omega
    clear hk
    obtain ⟨gi,rfl⟩:∃ gi,gi = gk := ⟨_,rfl⟩
    by_cases hk:k < nl
    ·have hki:(k:Int) < (nl:Int):=by omega
     have k0:(0:Int) ≤ (k:Int):=by omega
     obtain ⟨v',e',hF⟩:=K0.out.p.gr.v.2 j _ (gl_at ls d.n hj)
     rw [HVJ.out] at e'
     injection e' with e'
     subst e'
     have hF2:=hF.ints.2
     rw [← HLL.out,← HNL.out] at hF2
     obtain ⟨b8,o8,rfl,x8⟩:=nats_at hF2 hk
     obtain ⟨q,hq⟩:∃ q,q = l.getD k 0 := ⟨_,rfl⟩
     rw [← hq] at x8
     have hql:l[k]? = some q:=by rw [hq,List.getD_eq_getElem?_getD,List.getElem?_eq_getElem (by rw [← HNL.out]; exact hk)]; rfl
     have hqm:q ∈ Gl ls d.n j:=by rw [← HLL.out]; exact List.mem_of_getElem? hql
     have hqn:q < d.n:=(mem_Gl.1 hqm).1
     have HTK:=hide (show (Gl ls d.n j).take (k + 1) = (Gl ls d.n j).take k ++ [q] from Pl.take_one (by rw [← HLL.out]; exact hql))
     have hcc:=fun c (hc:c ∈ Gl ls d.n j) => gl_comp HLB.out HPOS.out hc hqm
     have hq0:(0:Int) ≤ (q:Int):=by omega
     have hbest:=K0.out.b.best HD.out.wf hqn hcc
     clear hF hF2 hq hql hqm hcc hkg
     obtain ⟨d0,d1,d2,d3⟩:=box3 K0.out.p.bx
     obtain ⟨f0,f1,f2,f3⟩:=box3 K0.out.r
     rcases hbest with ⟨hk0,hb⟩ | ⟨p,hpv,hl5,hx0,hxk,hb⟩
     ·have HB:=hide hb
      have hvn:vC = .slice none 0 0:=hb
      subst hvn
      have HK0:=hide hk0
      clear hb hk0
      go_wp2_with fail
      refine (number_any d HD.out.wf A B cp cq m q _ none _ HM.out (HG.out.keep K0.out.p.bel) hqn HB.out).mono ?_
      intro e w2 hres
      obtain ⟨vC',vO',rfl,own1,own2⟩:=hres.2.1 (by rw [Pl.vall_none]; omega)
      have K2:=hide (K0.out.below hres.2.2)
      obtain ⟨A1,e1,rfl⟩:=owns_slice own1
      obtain ⟨A2,e2,rfl⟩:=owns_slice own2
      have HP:=hide (show PcV w2 (.slice A1 (Pl.code d q).length e1) (.slice A2 (Pl.ord d q).length e2) 1 ⟨Pl.code d q,Pl.ord d q,1⟩ from ⟨own_intT own1,own_natT own2,rfl⟩)
      rw [show Pl.vall none (Pl.code d q) = -1 from Pl.vall_none _]
      clear hres own1 own2 d0 d1 d2 d3 f0 f1 f2 f3 x8 K0
      obtain ⟨f0,f1,f2,f3⟩:=box3 K2.out.r
      go_wp2
      go_roundg (gi - 1)
      case measure => have := HKG.out; omega
      case rel => exact ⟨k + 1,_,_,1,by have := HKG.out; omega,by go_num,K2.out.put HP.out (by rw [HTK.out,HK0.out]; exact Pl.Lst5.one q 1)⟩
     ·have HB:=hide hb
      obtain ⟨bb,bo,bc,rfl,hrest⟩:=hb
      clear hrest
      have HPV:=hide hpv
      have HL5:=hide hl5
      clear hpv hl5
      go_wp2_with fail
      refine (number_any d HD.out.wf A B cp cq m q _ (some p.code) _ HM.out (HG.out.keep K0.out.p.bel) hqn HB.out).mono ?_
      intro e w2 hres
      have K2:=hide (K0.out.below hres.2.2)
      have HPV2:=hide (HPV.out.below hres.2.2)
      clear d0 d1 d2 d3 f0 f1 f2 f3 x8 K0 HPV HB
      obtain ⟨f0,f1,f2,f3⟩:=box3 K2.out.r
      obtain ⟨v,hv⟩:∃ v,v = Pl.vall (some p.code) (Pl.code d q) := ⟨_,rfl⟩
      have HV:=hide (show v = Pl.lx (Pl.code d q) p.code from hv.trans (Pl.vall_some _ _))
      by_cases hv0:0 < v
      ·obtain rfl := hres.1 (by rw [← hv]; exact hv0)
       clear hres hv
       have HLS:=hide (HL5.out.more (q := q) (by rw [← HV.out]; omega) x)
       go_wp2
       go_roundg (gi - 1)
       case measure => have := HKG.out; omega
       case rel => exact ⟨k + 1,_,_,x,by have := HKG.out; omega,by go_num,K2.out.skip HPV2.out (by rw [HTK.out]; exact HLS.out) hx0 hxk⟩
      ·obtain ⟨vC',vO',rfl,own1,own2⟩:=hres.2.1 (by rw [← hv]; exact hv0)
       obtain ⟨A1,e1,rfl⟩:=owns_slice own1
       obtain ⟨A2,e2,rfl⟩:=owns_slice own2
       have HP:=hide (show PcV w2 (.slice A1 (Pl.code d q).length e1) (.slice A2 (Pl.ord d q).length e2) 1 ⟨Pl.code d q,Pl.ord d q,1⟩ from ⟨own_intT own1,own_natT own2,rfl⟩)
       rw [← hv]
       clear hres hv own1 own2
       by_cases hvz:v = 0
       ·have HLS:=hide (HL5.out.more (q := q) (by rw [← HV.out]; omega) (x + 1))
        subst hvz
        have hx64:x ≤ 64:=by omega
        go_wp2
        go_roundg (gi - 1)
        case measure => have := HKG.out; omega
        case rel => exact ⟨k + 1,_,_,x + 1,by have := HKG.out; omega,by go_num,K2.out.more HPV2.out (by rw [HTK.out]; exact HLS.out) hx0 hxk⟩
       ·have hvn:v < 0:=by omega
        have HLS:=hide (HL5.out.less (q := q) (by rw [← HV.out]; exact hvn) 1)
        clear hvz hv0
        go_wp2
        go_roundg (gi - 1)
        case measure => have := HKG.out; omega
        case rel => exact ⟨k + 1,_,_,1,by have := HKG.out; omega,by go_num,K2.out.put HP.out (by rw [HTK.out]; exact HLS.out)⟩
    ·have hki:¬ ((k:Int) < (nl:Int)):=by omega
     have hnl0:0 < nl:=by
      obtain ⟨a,ha,he⟩:=HLB.out.all j hj
      rw [HNL.out,HLL.out]
      exact List.length_pos_of_mem (mem_Gl.2 ⟨ha,he⟩)
     rcases K0.out.b with ⟨h0,_⟩ | ⟨p,hp,hl5,hx0,hxk⟩
     ·omega
     ·have HP:=hide hp
      have HL5:=hide (show Pl.Lst5 d (Gl ls d.n j) p by
       have h:(Gl ls d.n j).take k = Gl ls d.n j:=List.take_of_length_le (by rw [← HLL.out,← HNL.out]; omega)
       rw [h] at hl5
       exact hl5)
      clear hp hl5
      obtain ⟨A1,e1,h1,h1b⟩:=HP.out.c
      obtain ⟨A2,e2,h2,h2b⟩:=HP.out.o
      subst h1
      subst h2
      clear h1b h2b hkg hnl0
      have hj64:j ≤ 64:=by omega
      obtain ⟨f0,f1,f2,f3⟩:=box3 K0.out.r
      have KA:=hide (K0.out.p.alloc (.cells #[.slice A1 p.code.length e1,.slice A2 (nats p.order).length e2,.int .i64 x] 146))
      have HPA:=hide (HP.out.below ((Below.refl wr.heap.size wr).alloc (Nat.le_refl _) (.cells #[.slice A1 p.code.length e1,.slice A2 (nats p.order).length e2,.int .i64 x] 146)))
      obtain ⟨i0,hi0,hz0,hz1,hz2⟩:=info_parts pieceInfo
      have P1:∀ u ∈ [Value.slice A1 p.code.length e1,.slice A2 (nats p.order).length e2,.int .i64 x],u.oneCell' = true:=by simp [Value.oneCell']
      go_wp2_with (at_builtin; refine wpList_append_lies _ (by rfl) _ _ 143 (by rfl) (w.heap.size + 1) 146 i0 (.agg #[.slice none 0 0,.slice none 0 0,.int .i64 0]) 3 56 Tryz.underlying143 hi0 hz0 hz1 hz2 rfl (by omega) _ j cs (by rfl) KA.out.own ⟨wr.heap.size,0,none⟩ 1 1 [.slice A1 p.code.length e1,.slice A2 (nats p.order).length e2,.int .i64 x] (by rfl) (by rfl) (three_news wr _ rfl _ _ _) P1 (by omega) (by unfold maxLen; omega) (by omega) KA.out.big (wr.heap.size + 1) (by simp) ?_; intro g3 c3 w3 own3 grow3 at3 lt3; have OWN3 := hide own3; have GR3 := hide grow3; clear own3 grow3 at3)
      go_roundg (go - 1)
      case measure => have := HJG.out; omega
      case rel => exact ⟨j + 1,_,_,by have := HJG.out; omega,by go_num,KA.out.app OWN3.out GR3.out rfl HPA.out HL5.out⟩
  ·have hji:¬ ((j:Int) < (P:Int)):=by omega
   obtain ⟨aLst,cL,rfl⟩:=owns_slice K0.out.own
   have hjP':j = P:=by omega
   have hPd:=HLB.out.le
   have HPCS:=hide (pcs_groups HD.out.wf HLB.out HPOS.out (by rw [K0.out.len]; exact hjP') K0.out.is)
   have S0:=hide (show SI (w.heap.size + 1) wr aLst j cL cs ps wr from ⟨K0.out.own,K0.out.pv,K0.out.len,Below.refl _ _,K0.out.big⟩)
   have BW:=hide K0.out.bel
   clear K0 hjP'
   go_wp2_with fail
   refine (sort_any (w.heap.size + 1) aLst j cL cs ps _ S0.out (pcs_sz HD.out.wf HPCS.out) (by omega)).mono ?_
   rintro e w1 ⟨⟨v,rfl⟩,cs',ps',hS,hP,hW⟩
   have HR:=hide (show ∃ (A':Option Addr) (n c:Nat) (cs:List Value) (ps:List Pl.Pc),Ending.returned (.slice aLst j cL) = .returned (.slice A' n c) ∧ w1.ownsRow (w.heap.size + 1) 146 3 (.slice A' n c) n cs ∧ PcsV w1 cs ps ∧ ps.length = n ∧ n ≤ d.n ∧ Pl.Pcs d ps ∧ Pl.Srt ps ∧ Below w.heap.size w w1 from
    ⟨aLst,j,cL,cs',ps',rfl,hS.own,hS.pv,hS.len,by omega,pcs_perm HPCS.out hP,hW,BW.out.trans (hS.bel.mono (Nat.le_succ _))⟩)
   clear hS hP hW
   go_wp2
   go_ret
   exact HR.out
end Go.Proofs.YtghdiolnonejaaaGreatDoor
end
section
namespace Go.Proofs.YtghdiolnonejaaaGreatDoor
open Go Go.RowKit
attribute [local go_sem ↓] Go.wp_at_zero Go.wp_at_succ
def pcJ (lp:Nat) (ps:List Pl.Pc) (j:Nat):List Int := (lp:Int) :: (ps.length:Int) :: (ps.take j).flatMap (fun p => (p.order.length:Int) :: p.code)
theorem pcJ_zero (lp:Nat) (ps:List Pl.Pc):pcJ lp ps 0 = [(lp:Int),(ps.length:Int)] := by unfold pcJ; simp
theorem pcJ_succ (lp:Nat) {ps:List Pl.Pc} {j:Nat} {p:Pl.Pc} (h:ps[j]? = some p):pcJ lp ps (j + 1) = (pcJ lp ps j ++ [(p.order.length:Int)]) ++ p.code := by
 unfold pcJ
 rw [Pl.take_one h,List.flatMap_append]
 simp
theorem pcJ_all (lp:Nat) {ps:List Pl.Pc} {j:Nat} (h:ps.length ≤ j):pcJ lp ps j = Pl.pcode lp ps := by
 unfold pcJ Pl.pcode
 rw [List.take_of_length_le h]
theorem pcJ_len (lp:Nat) {ps:List Pl.Pc} (hs:∀ p,p ∈ ps → PcSz p):∀ j,(pcJ lp ps j).length ≤ 2 + 400 * j
 | 0 => by rw [pcJ_zero]; simp
 | j + 1 => by
   by_cases h:j < ps.length
   ·have e:ps[j]? = some ps[j]:=List.getElem?_eq_getElem h
    have h1:=hs _ (List.getElem_mem h)
    have h2:=h1.1
    have h3:=h1.2
    have ih:=pcJ_len lp hs j
    rw [pcJ_succ lp e]
    simp only [List.length_append,List.length_cons,List.length_nil]
    omega
   ·have ih:=pcJ_len lp hs j
    rw [pcJ_all lp (by omega)] at ih
    rw [pcJ_all lp (by omega)]
    omega
structure CL (w1:World) (xs:List Int) (m:Nat) (vL:Value) (W:World):Prop where
 own:W.ownsRow w1.heap.size 3 1 vL m (xs.map (.int .i64))
 len:xs.length = m
 bel:Below w1.heap.size w1 W
theorem CL.alloc {w1 W:World} {xs:List Int} {m:Nat} {vL:Value} (h:CL w1 xs m vL W) (o:Obj):CL w1 xs m vL (W.alloc o) :=
 ⟨own_below h.own ((Below.refl _ _).alloc (Nat.le_refl _) o),h.len,h.bel.trans (((Below.refl _ _).alloc (Nat.le_refl _) o).mono h.bel.size)⟩
theorem CL.app {w1 W W':World} {xs ys:List Int} {m n:Nat} {vL vL':Value} (h:CL w1 xs m vL W) (own:W'.ownsRow w1.heap.size 3 1 vL' n (xs.map (.int .i64) ++ ys.map (.int .i64))) (gr:W.grownBy W' vL.ownBlock) (hn:n = m + ys.length):CL w1 (xs ++ ys) n vL' W' :=
 ⟨by rw [List.map_append]; exact own,by rw [List.length_append,h.len,hn],h.bel.grown gr h.bel.size (fun k hk => (h.own.lt k hk).1)⟩
theorem own_two (w:World) (x y:Int):(w.alloc (.cells #[.int .i64 x,.int .i64 y] 3)).ownsRow w.heap.size 3 1 (.slice (some ⟨w.heap.size,0,none⟩) 2 2) 2 ([x,y].map (.int .i64)) :=
 ⟨rfl,.inr ⟨w.heap.size,2,#[.int .i64 x,.int .i64 y],rfl,Nat.le_refl _,heap_alloc_new w _,Nat.le_refl _,by unfold maxLen; omega,rfl,rfl⟩⟩
def CodeT (d:Pl.Dg) (w:World) (e:Ending) (w':World):Prop :=
 ∃ (A':Option Addr) (n c:Nat) (ps:List Pl.Pc),e = .returned (.slice A' n c) ∧ Pl.Pcs d ps ∧ Pl.Srt ps ∧ n ≤ 8100 ∧ RowT w' 3 A' n ((Pl.pcode d.lp ps).map (.int .i64)) ∧ Below w.heap.size w w'
set_option maxRecDepth 100000 in
set_option maxHeartbeats 8100000 in
theorem code_t (d:Pl.Dg) (hd:Pl.Valid d) (h20:d.n ≤ 20) (A B:Option Addr) (cp cq m:Nat) (w:World) (hm:m = 4 * d.n) (hg:DgAt w A B d) :
 Calls Tryz.prog 66 #[.agg #[.slice A d.n cp,.slice B m cq,.int .i64 d.lp]] w (CodeT d w) := by
 have hlp:=hd.wf.lp
 have HM:=hide hm
 have HG:=hide hg
 have HD:=hide hd
 clear hm hg
 have X0:=hide (row_at (W := w) (g := w.heap.size) (t := 24) (vs := [.slice A d.n cp,.slice B m cq,.int .i64 d.lp]) rfl)
 have B0:=hide (show Below w.heap.size w (w.alloc (.cells #[.slice A d.n cp,.slice B m cq,.int .i64 d.lp] 24)) from (Below.refl _ _).alloc (Nat.le_refl _) _)
 go_enter Tryz.func66,Tryz.ntmps66
 obtain ⟨d0,d1,d2,d3⟩:=box3 X0.out
 go_wp2_with fail
 refine (valid_yes d HD.out A B cp cq m _ HM.out (HG.out.keep B0.out)).mono ?_
 rintro e w1 ⟨rfl,hb1⟩
 have Y0:=hide (X0.out.below hb1)
 have B1:=hide (B0.out.trans (hb1.mono B0.out.size))
 clear X0 B0 hb1 d0 d1 d2 d3
 obtain ⟨d0,d1,d2,d3⟩:=box3 Y0.out
 go_wp2_with fail
 refine (pieces_any d HD.out A B cp cq m _ HM.out (HG.out.keep B1.out) h20).mono ?_
 rintro e w2 ⟨aLst,n,cL,cs,ps,rfl,hown,hpv,hlen,hnd,hpcs,hsrt,hb2⟩
 have Z0:=hide (Y0.out.below hb2)
 have B2:=hide (B1.out.trans (hb2.mono B1.out.size))
 have OW:=hide hown
 have HPV:=hide hpv
 have HLEN:=hide hlen
 have HPS:=hide (show Pl.Pcs d ps ∧ Pl.Srt ps from ⟨hpcs,hsrt⟩)
 have HSZ:=hide (pcs_sz HD.out.wf hpcs)
 have hn20:n ≤ 20:=by omega
 clear hown hpv hlen hpcs hsrt hb2 d0 d1 d2 d3 Y0 B1 hnd
 obtain ⟨d0,d1,d2,d3⟩:=box3 Z0.out
 go_upto_region 5 with fail
 have L0:=hide (show CL w2 (pcJ d.lp ps 0) 2 (.slice (some ⟨w2.heap.size,0,none⟩) 2 2) (w2.alloc (.cells #[.int .i64 d.lp,.int .i64 n] 3)) from by
  rw [pcJ_zero,HLEN.out]
  exact ⟨own_two _ _ _,rfl,(Below.refl _ _).alloc (Nat.le_refl _) _⟩)
 clear d0 d1 d2 d3
 go_wp2_with fail
 go_loopg [4,6,19] n (fun g s4 s6 s19 wx => ∃ (j m:Nat) (xs:List Int),j + g = n ∧ s19 = .int .i64 (j:Int) ∧ xs = pcJ d.lp ps j ∧ CL w2 xs m s4 wx)
 case atStart => exact ⟨0,_,_,by omega,rfl,rfl,L0.out⟩
 case round =>
  clear L0
  obtain ⟨j,k,xs,hjg,rfl,hxs,hk⟩:=hrel
  have HJG:=hide hjg
  have K0:=hide hk
  have HXS:=hide hxs
  have hjn:j ≤ n:=by omega
  have hkl:k ≤ 2 + 400 * j:=by
   rw [← hk.len,hxs]
   exact pcJ_len d.lp HSZ.out j
  clear hk hxs
  obtain ⟨A4,c4,rfl⟩:=owns_slice K0.out.own
  by_cases hj:j < n
  ·have hji:(j:Int) < (n:Int):=by omega
   have j0:(0:Int) ≤ (j:Int):=by omega
   have hnA:0 < n:=by omega
   obtain ⟨g,cap,hA,hcap,hgl⟩:=World.ownsRow.form OW.out hnA
   injection hA with hA _ hcc
   subst hA
   subst hcc
   obtain ⟨p,hp⟩:∃ p,ps[j]? = some p := ⟨_,List.getElem?_eq_getElem (by rw [HLEN.out]; exact hj)⟩
   have HXN:=hide (pcJ_succ d.lp hp)
   have hpsz:=HSZ.out p (List.mem_of_getElem? hp)
   obtain ⟨a0,a1,a2,hpx,ca0,ca1,ca2⟩:=HPV.out.at_ hp
   have CA:=fun (t:Nat) (u:Value) (ht:j * 3 + t < n * 3) (e:cs[j * 3 + t]? = some u) => (show wr.cell? ⟨g,j * 3 + t,none⟩ = some u by exact cell_below (by rw [World.ownsRow.cellAt OW.out _ ht]; exact e) K0.out.bel)
   have x0:=CA 0 a0 (by omega) ca0
   have x1:=CA 1 a1 (by omega) ca1
   have x2:=CA 2 _ (by omega) ca2
   rw [Nat.add_zero] at x0
   clear CA ca0 ca1 ca2 hp hjg
   obtain ⟨A1,e1,h1,h1b⟩:=hpx.c
   obtain ⟨A2,e2,h2,h2b⟩:=hpx.o
   have HC1:=hide (show IntsAt w2 A1 p.code.length p.code from h1b.2.row)
   subst h1
   subst h2
   clear h1b h2b hpx
   rw [nats_len] at x1
   obtain ⟨L1,hL1⟩:∃ n,n = p.code.length := ⟨_,rfl⟩
   obtain ⟨L2,hL2⟩:∃ n,n = p.order.length := ⟨_,rfl⟩
   rw [← hL1] at x0 HC1
   rw [← hL2] at x1
   have HL2:=hide hL2
   have HL1:=hide hL1
   have hL2b:L2 ≤ 64:=by rw [hL2]; exact hpsz.1
   have hL1b:L1 ≤ 320:=by rw [hL1,hpsz.2]; have := hpsz.1; omega
   clear hpsz hL1 hL2
   have KA:=hide (K0.out.alloc (.cells #[.slice A1 L1 e1,.slice A2 L2 e2,.int .i64 a2] 146))
   have XB:=hide (row_at (W := wr) (g := wr.heap.size) (t := 146) (vs := [.slice A1 L1 e1,.slice A2 L2 e2,.int .i64 a2]) rfl)
   obtain ⟨f0,f1,f2,f3⟩:=box3 XB.out
   go_upto_region 8 with fail
   obtain ⟨V,hV⟩:∃ V,V = wr.alloc (.cells #[.slice A1 L1 e1,.slice A2 L2 e2,.int .i64 a2] 146) := ⟨_,rfl⟩
   obtain ⟨gb,hgb⟩:∃ g,g = wr.heap.size := ⟨_,rfl⟩
   have hgV:w2.heap.size ≤ gb:=by rw [hgb]; exact K0.out.bel.size
   rw [← hV] at KA XB f0 f1 f2 f3 ⊢
   rw [← hgb] at XB f0 f1 f2 f3 ⊢
   have HUB:=hide (show ∀ b,(Value.slice A4 k c4).ownBlock = some b → b < gb from fun b h => by rw [hgb]; exact (K0.out.own.lt b h).2)
   clear hV hgb x0 x1 x2 K0
   have KB:=hide (KA.out.alloc (.cells #[.int .i64 L2] 3))
   have hVs:=KA.out.bel.size
   obtain ⟨i0,hi0,hz0,hz1,hz2⟩:=info_parts intInfo
   go_upto_region 9 with (at_builtin; refine wpList_append_lies _ (by rfl) _ _ 22 (by rfl) w2.heap.size 3 i0 (.int .i64 0) 1 8 Tryz.underlying22 hi0 hz0 hz1 hz2 rfl (by omega) _ k _ (by rfl) KB.out.own ⟨V.heap.size,0,none⟩ 1 1 [.int .i64 L2] (by rfl) (by rfl) (one_newsG _ _ rfl) (by simp [Value.oneCell']) (by omega) (by unfold maxLen; omega) (by omega) (by have := KB.out.bel.size; omega) (V.heap.size + 1) (by simp) ?_; intro g3 c3 w3 own3 grow3 at3 lt3; have OWN3 := hide own3; have GR3 := hide grow3; clear own3 grow3 at3)
   have K3:=hide (KB.out.app (ys := [(L2:Int)]) OWN3.out GR3.out rfl)
   have X3:=hide ((XB.out.below ((Below.refl V.heap.size V).alloc (Nat.le_refl _) (.cells #[.int .i64 L2] 3))).grown GR3.out (fun e => by have := HUB.out _ e.symm; omega))
   clear f0 f1 f2 f3 KA KB XB OWN3 GR3 lt3
   obtain ⟨f0,f1,f2,f3⟩:=box3 X3.out
   go_wp2_with (at_builtin; refine wpList_append_int _ (by rfl) _ _ 22 (by rfl) w2.heap.size 3 i0 (.int .i64 0) 8 Tryz.underlying22 hi0 hz0 hz1 hz2 rfl _ (k + 1) _ (by rfl) K3.out.own A1 L1 e1 p.code (by rfl) (HC1.out.keep K3.out.bel) (by unfold maxLen; omega) (by omega) K3.out.bel.size ?_; intro v4 w4 own4 gr4; have OWN4 := hide own4; have GR4 := hide gr4; clear own4 gr4)
   go_roundg (gk - 1)
   case measure => have := HJG.out; omega
   case rel => exact ⟨j + 1,_,_,by have := HJG.out; omega,by go_num,rfl,by
    rw [HXN.out,← HXS.out,← HL2.out]
    exact K3.out.app OWN4.out GR4.out (by rw [HL1.out])⟩
  ·have hji:¬ ((j:Int) < (n:Int)):=by omega
   have HIA:=hide (show RowT wr 3 A4 k ((Pl.pcode d.lp ps).map (.int .i64)) by
    rw [← pcJ_all d.lp (j := j) (by rw [HLEN.out]; omega),← HXS.out]
    exact own_rowT K0.out.own)
   have HBE:=hide (B2.out.trans (K0.out.bel.mono B2.out.size))
   go_wp2
   go_ret
   exact ⟨A4,k,c4,ps,rfl,HPS.out.1,HPS.out.2,by omega,HIA.out,HBE.out⟩
end Go.Proofs.YtghdiolnonejaaaGreatDoor
end
section
namespace Go.Proofs.YtghdiolnonejaaaGreatDoor
open Go Go.RowKit
def keyF (l:List Int):List UInt8 := l.flatMap (fun v => 44 :: Lib.itoa v)
def keyL (l:List Int):List UInt8 := (keyF l).drop 1
theorem keyF_app (a b:List Int):keyF (a ++ b) = keyF a ++ keyF b := by unfold keyF; rw [List.flatMap_append]
theorem keyL_one (x:Int):keyL [x] = Lib.itoa x := by unfold keyL keyF; simp
theorem keyL_snoc {a:List Int} (h:a ≠ []) (x:Int):keyL (a ++ [x]) = keyL a ++ 44 :: Lib.itoa x := by
 unfold keyL
 rw [keyF_app,List.drop_append_of_le_length]
 ·unfold keyF; simp
 ·cases a with
  | nil => exact absurd rfl h
  | cons y l => unfold keyF; simp
open Classical in
noncomputable def codeD (d:Pl.Dg):List Int := if h:∃ ps,Pl.Pcs d ps ∧ Pl.Srt ps then Pl.pcode d.lp h.choose else []
theorem codeD_is {d:Pl.Dg} (hd:Pl.Wf d) {ps:List Pl.Pc} (hp:Pl.Pcs d ps) (hs:Pl.Srt ps):Pl.pcode d.lp ps = codeD d := by
 have h:∃ ps,Pl.Pcs d ps ∧ Pl.Srt ps:=⟨ps,hp,hs⟩
 unfold codeD
 rw [dif_pos h]
 exact (Pl.Iso.refl d).pcode hd hd hp h.choose_spec.1 hs h.choose_spec.2
noncomputable def keyD (d:Pl.Dg):List UInt8 := keyL (codeD d)
structure Nd where
 d:Pl.Dg
 m:Mv
 fr:Int
 s:Nat
def nd0 (d:Pl.Dg):Nd := ⟨d,⟨0,0,0,0,false⟩,-1,0⟩
noncomputable def nd1 (i:Nat) (a:Nd) (z:Mv):Nd := ⟨apD a.d z,z,i,a.s + 1⟩
noncomputable def keysL (l:List Nd):List (List UInt8) := l.map (fun x => keyD x.d)
open Classical in
noncomputable def inn (i:Nat) (a:Nd):List Mv → List Nd → List Nd × Nat
 | [],l => (l,0)
 | z :: r, l =>
   if keyD (apD a.d z) ∈ keysL l then inn i a r l
   else if l.length = 300 then (l,1)
   else if remL (apD a.d z) = [] then inn i a r (l ++ [nd1 i a z])
   else (l ++ [nd1 i a z],2)
section
variable {i:Nat} {a:Nd} {z:Mv} {r:List Mv} {l:List Nd}
theorem inn_known (h:keyD (apD a.d z) ∈ keysL l):inn i a (z :: r) l = inn i a r l := by rw [inn,if_pos h]
theorem inn_full (h:keyD (apD a.d z) ∉ keysL l) (hl:l.length = 300):inn i a (z :: r) l = (l,1) := by rw [inn,if_neg h,if_pos hl]
theorem inn_dull (h:keyD (apD a.d z) ∉ keysL l) (hl:l.length ≠ 300) (hr:remL (apD a.d z) = []):inn i a (z :: r) l = inn i a r (l ++ [nd1 i a z]) := by rw [inn,if_neg h,if_neg hl,if_pos hr]
theorem inn_hit (h:keyD (apD a.d z) ∉ keysL l) (hl:l.length ≠ 300) (hr:remL (apD a.d z) ≠ []):inn i a (z :: r) l = (l ++ [nd1 i a z],2) := by rw [inn,if_neg h,if_neg hl,if_neg hr]
end
noncomputable def slD (d:Pl.Dg):List Mv := slL d (4 * d.n)
open Classical in
noncomputable def outr (k:Nat):Nat → Nat → List Nd → List Nd × Nat
 | 0,_,l => (l,1)
 | f + 1, i, l => match l[i]? with
   | none => (l,1)
   | some a => if k ≤ a.s then outr k f (i + 1) l
     else if (inn i a (slD a.d) l).2 = 0 then outr k f (i + 1) (inn i a (slD a.d) l).1
     else inn i a (slD a.d) l
section
variable {k f i:Nat} {a:Nd} {l:List Nd}
theorem out_end (h:l[i]? = none):outr k f i l = (l,1) := by
 cases f with
 | zero => rfl
 | succ f => rw [outr,h]
theorem out_far (h:l[i]? = some a) (hk:k ≤ a.s):outr k (f + 1) i l = outr k f (i + 1) l := by rw [outr,h]; exact if_pos hk
theorem out_on {l':List Nd} (h:l[i]? = some a) (hk:¬ k ≤ a.s) (hi:inn i a (slD a.d) l = (l',0)):outr k (f + 1) i l = outr k f (i + 1) l' := by
 rw [outr,h]
 show (if k ≤ a.s then _ else _) = _
 rw [if_neg hk,hi,if_pos rfl]
theorem out_done {r:List Nd × Nat} (h:l[i]? = some a) (hk:¬ k ≤ a.s) (hi:inn i a (slD a.d) l = r) (hr:r.2 ≠ 0):outr k (f + 1) i l = r := by
 rw [outr,h]
 show (if k ≤ a.s then _ else _) = _
 rw [if_neg hk,hi,if_neg hr]
end
theorem sl_ok {d:Pl.Dg} {z:Mv} (h:z ∈ slD d):∃ x,x < 4 * d.n ∧ slP d x ∧ z = ⟨5,(x:Nat),0,0,false⟩ ∧ apC d z = 0 ∧ apD d z = sldD d x := by
 obtain ⟨x,hx,hp,rfl⟩:=(slL_mem d z _).1 h
 have hr:inR d.n ⟨5,x,0,0,false⟩:=by unfold inR; simp; omega
 have hc:apC d ⟨5,x,0,0,false⟩ = 0:=by
  have e1:Pl.vb (inR d.n ⟨5,(x:Int),0,0,false⟩) = true:=Pl.vb_true hr
  unfold apC
  rw [e1]
  simp [sldC,hp.2.2]
 exact ⟨x,hx,hp,rfl,hc,by unfold apD; simp⟩
theorem sl_n {d:Pl.Dg} (hd:Pl.Valid d) {z:Mv} (h:z ∈ slD d):Pl.Valid (apD d z) ∧ (apD d z).n = d.n ∧ z.kind = 5 ∧ apC d z = 0 := by
 obtain ⟨x,hx,hp,e,hc,hD⟩:=sl_ok h
 refine ⟨(ap_ok hd hc).1,?_,by rw [e],hc⟩
 rw [hD]
 exact sld_n d x
structure NdOk (d0:Pl.Dg) (k:Nat) (l:List Nd) (j:Nat) (a:Nd):Prop where
 v:Pl.Valid a.d
 n:a.d.n = d0.n
 s:a.s ≤ k
 ty:(j = 0 ∧ a = nd0 d0) ∨ ∃ (p:Nd) (q:Nat),a.fr = (q:Int) ∧ q < j ∧ l[q]? = some p ∧ a.m ∈ slD p.d ∧ a.d = apD p.d a.m ∧ a.s = p.s + 1
structure LOk (d0:Pl.Dg) (k:Nat) (l:List Nd):Prop where
 pos:0 < l.length
 few:l.length ≤ 300
 at_:∀ j a,l[j]? = some a → NdOk d0 k l j a
theorem LOk.start {d0:Pl.Dg} (hd:Pl.Valid d0) (k:Nat):LOk d0 k [nd0 d0] := by
 refine ⟨by simp,by simp,fun j a h => ?_⟩
 have hj:=(List.getElem?_eq_some_iff.1 h).1
 have:j = 0:=by simpa using hj
 subst this
 injection h with h
 subst h
 exact ⟨hd,rfl,Nat.zero_le _,.inl ⟨rfl,rfl⟩⟩
theorem LOk.push {d0:Pl.Dg} {k:Nat} {l:List Nd} (h:LOk d0 k l) (h3:l.length ≠ 300) {q:Nat} {p:Nd} (hp:l[q]? = some p) (hs:¬ k ≤ p.s) {z:Mv} (hz:z ∈ slD p.d):LOk d0 k (l ++ [nd1 q p z]) := by
 have hq:=(List.getElem?_eq_some_iff.1 hp).1
 have P:=h.at_ q p hp
 obtain ⟨v,n,_,_⟩:=sl_n P.v hz
 have hf:=h.few
 refine ⟨by simp,by simp; omega,fun j a ha => ?_⟩
 rw [List.getElem?_append] at ha
 split at ha
 ·rename_i hj
  obtain ⟨a1,a2,a3,a4⟩:=h.at_ j a ha
  refine ⟨a1,a2,a3,a4.imp id ?_⟩
  rintro ⟨p',q',b1,b2,b3,b4,b5,b6⟩
  exact ⟨p',q',b1,b2,by rw [List.getElem?_append_left (by omega)]; exact b3,b4,b5,b6⟩
 ·rename_i hj
  have h1:=(List.getElem?_eq_some_iff.1 ha).1
  have h2:j = l.length:=by simp at h1; omega
  subst h2
  rw [Nat.sub_self] at ha
  injection ha with ha
  subst ha
  exact ⟨v,by show (apD p.d z).n = _; rw [n,P.n],by show p.s + 1 ≤ k; omega,.inr ⟨p,q,rfl,hq,by rw [List.getElem?_append_left hq]; exact hp,hz,rfl,rfl⟩⟩
theorem at_app {l:List Nd} {q:Nat} {p:Nd} (hp:l[q]? = some p) (r:List Nd):(l ++ r)[q]? = some p := by
 rw [List.getElem?_append_left (List.getElem?_eq_some_iff.1 hp).1]; exact hp
theorem inn_ok {d0:Pl.Dg} {k q:Nat} {p:Nd} (hs:¬ k ≤ p.s):∀ (r:List Mv) (l:List Nd),LOk d0 k l → l[q]? = some p → (∀ z,z ∈ r → z ∈ slD p.d) → LOk d0 k (inn q p r l).1 ∧ (inn q p r l).1[q]? = some p
 | [],l,h,hp,_ => ⟨h,hp⟩
 | z :: r, l, h, hp, hr => by
   have hz:=hr z (by simp)
   have hr':=fun y (hy:y ∈ r) => hr y (by simp [hy])
   by_cases h1:keyD (apD p.d z) ∈ keysL l
   ·rw [inn_known h1]; exact inn_ok hs r l h hp hr'
   ·by_cases h2:l.length = 300
    ·rw [inn_full h1 h2]; exact ⟨h,hp⟩
    ·have P:=h.push h2 hp hs hz
     by_cases h3:remL (apD p.d z) = []
     ·rw [inn_dull h1 h2 h3]; exact inn_ok hs r _ P (at_app hp _) hr'
     ·rw [inn_hit h1 h2 h3]; exact ⟨P,at_app hp _⟩
theorem inn_found {q:Nat} {p:Nd}:∀ (r:List Mv) (l:List Nd),(inn q p r l).2 = 2 → ∃ a,(inn q p r l).1.getLast? = some a ∧ remL a.d ≠ []
 | [],l,h => absurd h (show ¬ (0:Nat) = 2 by decide)
 | z :: r, l, h => by
   by_cases h1:keyD (apD p.d z) ∈ keysL l
   ·rw [inn_known h1] at h ⊢; exact inn_found r l h
   ·by_cases h2:l.length = 300
    ·rw [inn_full h1 h2] at h; exact absurd h (show ¬ (1:Nat) = 2 by decide)
    ·by_cases h3:remL (apD p.d z) = []
     ·rw [inn_dull h1 h2 h3] at h ⊢; exact inn_found r _ h
     ·rw [inn_hit h1 h2 h3]; exact ⟨nd1 q p z,by simp,h3⟩
theorem out_ok {d0:Pl.Dg} {k:Nat}:∀ (f i:Nat) (l:List Nd),LOk d0 k l → LOk d0 k (outr k f i l).1 ∧ ((outr k f i l).2 = 2 → ∃ a,(outr k f i l).1.getLast? = some a ∧ remL a.d ≠ [])
 | 0,i,l,h => ⟨h,fun e => absurd e (show ¬ (1:Nat) = 2 by decide)⟩
 | f + 1, i, l, h => by
   cases hi:l[i]? with
   | none => rw [out_end hi]; exact ⟨h,fun e => absurd e (show ¬ (1:Nat) = 2 by decide)⟩
   | some a =>
     by_cases hk:k ≤ a.s
     ·rw [out_far hi hk]; exact out_ok f _ l h
     ·have I:=inn_ok hk (slD a.d) l h hi (fun z hz => hz)
      by_cases h0:(inn i a (slD a.d) l).2 = 0
      ·rw [out_on (l' := (inn i a (slD a.d) l).1) hi hk (by rw [← h0])]; exact out_ok f _ _ I.1
      ·rw [out_done hi hk rfl h0]; exact ⟨I.1,fun e => inn_found _ _ e⟩
def pthR (l:List Nd):Nat → Nat → List Mv
 | 0,_ => []
 | f + 1, j => match l[j]? with
   | none => []
   | some a => if a.fr < 0 then [] else a.m :: pthR l f a.fr.toNat
def pt (l:List Nd) (j:Nat):List Mv := pthR l (j + 1) j
theorem pthR_some {l:List Nd} {f j q:Nat} {a:Nd} (h:l[j]? = some a) (hq:a.fr = (q:Int)):pthR l (f + 1) j = a.m :: pthR l f q := by
 rw [pthR,h]
 show (if a.fr < 0 then _ else _) = _
 rw [if_neg (by omega),hq]
 rfl
theorem pthR_root {l:List Nd} {f j:Nat} {a:Nd} (h:l[j]? = some a) (hq:a.fr < 0):pthR l (f + 1) j = [] := by
 rw [pthR,h]
 exact if_pos hq
theorem pthR_more {d0:Pl.Dg} {k:Nat} {l:List Nd} (h:LOk d0 k l):∀ (n j f g:Nat),j ≤ n → j < l.length → j < f → j < g → pthR l f j = pthR l g j := by
 intro n
 induction n with
 | zero =>
   intro j f g hn hl hf hg
   obtain ⟨f,rfl⟩:∃ x,f = x + 1 := ⟨f - 1,by omega⟩
   obtain ⟨g,rfl⟩:∃ x,g = x + 1 := ⟨g - 1,by omega⟩
   have hj:=List.getElem?_eq_getElem hl
   rcases (h.at_ j _ hj).ty with ⟨_,e⟩ | ⟨p,q,_,h2,_⟩
   ·have:(l[j]).fr < 0:=by rw [e]; exact (by decide:(-1:Int) < 0)
    rw [pthR_root hj this,pthR_root hj this]
   ·omega
 | succ n ih =>
   intro j f g hn hl hf hg
   obtain ⟨f,rfl⟩:∃ x,f = x + 1 := ⟨f - 1,by omega⟩
   obtain ⟨g,rfl⟩:∃ x,g = x + 1 := ⟨g - 1,by omega⟩
   have hj:=List.getElem?_eq_getElem hl
   rcases (h.at_ j _ hj).ty with ⟨_,e⟩ | ⟨p,q,h1,h2,_⟩
   ·have:(l[j]).fr < 0:=by rw [e]; exact (by decide:(-1:Int) < 0)
    rw [pthR_root hj this,pthR_root hj this]
   ·rw [pthR_some hj h1,pthR_some hj h1,ih q f g (by omega) (by omega) (by omega) (by omega)]
theorem pt_some {d0:Pl.Dg} {k:Nat} {l:List Nd} (h:LOk d0 k l) {j q:Nat} {a:Nd} (hj:l[j]? = some a) (hq:a.fr = (q:Int)):pt l j = a.m :: pt l q ∧ q < j := by
 have hl:=(List.getElem?_eq_some_iff.1 hj).1
 have hqj:q < j:=by
  rcases (h.at_ j _ hj).ty with ⟨_,e⟩ | ⟨p,q',h1,h2,_⟩
  ·have:a.fr = -1:=by rw [e]; rfl
   omega
  ·omega
 refine ⟨?_,hqj⟩
 unfold pt
 rw [pthR_some hj hq,pthR_more h q q j (q + 1) (Nat.le_refl _) (by omega) (by omega) (by omega)]
theorem pt_root {l:List Nd} {j:Nat} {a:Nd} (hj:l[j]? = some a) (hq:a.fr < 0):pt l j = [] := pthR_root hj hq
inductive Lds:Pl.Dg → List Mv → Pl.Dg → Prop
 | nil (d:Pl.Dg):Lds d [] d
 | cons {d e:Pl.Dg} {z:Mv} {l:List Mv}:apC d z = 0 → Lds (apD d z) l e → Lds d (z :: l) e
theorem Lds.snoc {d e:Pl.Dg} {l:List Mv} (h:Lds d l e) {z:Mv} (hz:apC e z = 0):Lds d (l ++ [z]) (apD e z) := by
 induction h with
 | nil d => exact .cons hz (.nil _)
 | cons h1 _ ih => exact .cons h1 (ih hz)
theorem Lds.app {d e f:Pl.Dg} {l m:List Mv} (h:Lds d l e) (g:Lds e m f):Lds d (l ++ m) f := by
 induction h with
 | nil d => exact g
 | cons h1 _ ih => exact .cons h1 (ih g)
theorem pt_is {d0:Pl.Dg} {k:Nat} {l:List Nd} (h:LOk d0 k l):∀ (n j:Nat) (a:Nd),j ≤ n → l[j]? = some a → (pt l j).length = a.s ∧ (∀ z,z ∈ pt l j → z.kind = 5) ∧ Lds d0 (pt l j).reverse a.d := by
 intro n
 induction n with
 | zero =>
   intro j a hn hj
   rcases (h.at_ j _ hj).ty with ⟨_,rfl⟩ | ⟨p,q,_,h2,_⟩
   ·rw [pt_root hj (by decide:(-1:Int) < 0)]
    exact ⟨rfl,fun z hz => absurd hz (by simp),.nil _⟩
   ·omega
 | succ n ih =>
   intro j a hn hj
   rcases (h.at_ j _ hj).ty with ⟨_,rfl⟩ | ⟨p,q,h1,h2,h3,h4,h5,h6⟩
   ·rw [pt_root hj (by decide:(-1:Int) < 0)]
    exact ⟨rfl,fun z hz => absurd hz (by simp),.nil _⟩
   ·obtain ⟨e1,e2,e3⟩:=ih q p (by omega) h3
    obtain ⟨_,_,s1,s2⟩:=sl_n (h.at_ q p h3).v h4
    rw [(pt_some h hj h1).1]
    refine ⟨by rw [List.length_cons,e1,h6],fun z hz => ?_,?_⟩
    ·rcases List.mem_cons.1 hz with rfl | hz
     ·exact s1
     ·exact e2 z hz
    ·rw [List.reverse_cons,h5]
     exact e3.snoc s2
noncomputable def srR (k:Nat) (d:Pl.Dg):List Nd × Nat := outr k 301 0 [nd0 d]
noncomputable def srB (k:Nat) (d:Pl.Dg):Bool := (srR k d).2 == 2
noncomputable def srD (k:Nat) (d:Pl.Dg):Pl.Dg := (((srR k d).1.getLast?).getD (nd0 d)).d
noncomputable def srP (k:Nat) (d:Pl.Dg):List Mv := (pt (srR k d).1 ((srR k d).1.length - 1)).reverse
theorem sr_is {k:Nat} {d:Pl.Dg} (hd:Pl.Valid d) (h:srB k d = true):Pl.Valid (srD k d) ∧ (srD k d).n = d.n ∧ remL (srD k d) ≠ [] ∧ (srP k d).length ≤ k ∧ (∀ z,z ∈ srP k d → z.kind = 5) ∧ Lds d (srP k d) (srD k d) := by
 obtain ⟨h1,h2⟩:=out_ok (d0 := d) (k := k) 301 0 [nd0 d] (LOk.start hd k)
 have h3:(outr k 301 0 [nd0 d]).2 = 2:=by
  have:=h
  unfold srB srR at this
  simpa using this
 obtain ⟨a,ha,hr⟩:=h2 h3
 have ha':(srR k d).1[(srR k d).1.length - 1]? = some a:=by rw [← List.getLast?_eq_getElem?]; exact ha
 have P:=h1.at_ _ _ ha'
 have eD:srD k d = a.d:=by
  unfold srD
  rw [show (srR k d).1.getLast? = some a from ha]
  rfl
 obtain ⟨e1,e2,e3⟩:=pt_is h1 _ _ a (Nat.le_refl _) ha'
 rw [eD]
 unfold srP
 refine ⟨P.v,P.n,hr,?_,fun z hz => ?_,e3⟩
 ·rw [List.length_reverse]
  show (pt (outr k 301 0 [nd0 d]).1 ((srR k d).1.length - 1)).length ≤ k
  rw [e1]
  exact P.s
 ·exact e2 z (List.mem_reverse.1 hz)
theorem dn_all {d:Pl.Dg} (hd:Pl.Valid d):Pl.Valid (dnD d) ∧ (dnM d).length + (dnD d).n ≤ d.n ∧ remL (dnD d) = [] ∧ (∀ z,z ∈ dnM d → z.kind = 2 ∨ z.kind = 4) ∧ Lds d (dnM d) (dnD d) := by
 suffices h:∀ n,∀ d:Pl.Dg,Pl.Valid d → d.n ≤ n → Pl.Valid (dnD d) ∧ (dnM d).length + (dnD d).n ≤ d.n ∧ remL (dnD d) = [] ∧ (∀ z,z ∈ dnM d → z.kind = 2 ∨ z.kind = 4) ∧ Lds d (dnM d) (dnD d) from h d.n d hd (Nat.le_refl _)
 intro n
 induction n with
 | zero =>
   intro d hd h0
   have e:=rem_flat (d := d) (by omega)
   rw [(dn_stop e).1,(dn_stop e).2]
   exact ⟨hd,by simp,e,fun z hz => absurd hz (by simp),.nil _⟩
 | succ n ih =>
   intro d hd hn
   cases hr:remL d with
   | nil =>
     rw [(dn_stop hr).1,(dn_stop hr).2]
     exact ⟨hd,by simp,hr,fun z hz => absurd hz (by simp),.nil _⟩
   | cons z l =>
     have hz:z ∈ remL d:=by rw [hr]; exact List.mem_cons_self
     have hl:=rem_less hd hz
     have hv:=(ap_ok hd (rem_ok hz).1).1
     obtain ⟨i1,i2,i3,i4,i5⟩:=ih _ hv (by omega)
     rw [(dn_next hd hr).1,(dn_next hd hr).2]
     refine ⟨i1,by rw [List.length_cons]; omega,i3,fun y hy => ?_,.cons (rem_ok hz).1 i5⟩
     rcases List.mem_cons.1 hy with rfl | hy
     ·exact (rem_ok hz).2
     ·exact i4 y hy
theorem dn_cons {d:Pl.Dg} (hd:Pl.Valid d) (h:remL d ≠ []):dnM d ≠ [] ∧ (dnD d).n < d.n := by
 have e:dnM d ≠ []:=fun e => h ((dnM_nil hd).1 e)
 have l:=(dn_all hd).2.1
 have:0 < (dnM d).length:=List.length_pos_iff.2 e
 exact ⟨e,by omega⟩
noncomputable def rd (k:Nat):Nat → Pl.Dg → Pl.Dg × List Mv
 | 0,d => (d,[])
 | f + 1,d => if srB k d = true then ((rd k f (dnD (srD k d))).1,srP k d ++ (dnM (srD k d) ++ (rd k f (dnD (srD k d))).2)) else (d,[])
theorem rd_stop {k:Nat} {d:Pl.Dg} (h:srB k d = false):∀ f,rd k f d = (d,[])
 | 0 => rfl
 | f + 1 => by rw [rd,h]; rfl
theorem rd_go {k f:Nat} {d:Pl.Dg} (h:srB k d = true):rd k (f + 1) d = ((rd k f (dnD (srD k d))).1,srP k d ++ (dnM (srD k d) ++ (rd k f (dnD (srD k d))).2)) := by rw [rd,h]; rfl
theorem sr_less {k:Nat} {d:Pl.Dg} (hd:Pl.Valid d) (h:srB k d = true):(dnD (srD k d)).n < d.n := by
 obtain ⟨v,n,r,_⟩:=sr_is hd h
 rw [← n]
 exact (dn_cons v r).2
theorem rd_more {k:Nat}:∀ (n:Nat) (d:Pl.Dg),Pl.Valid d → d.n ≤ n → ∀ f g,d.n ≤ f → d.n ≤ g → rd k (f + 1) d = rd k (g + 1) d := by
 intro n
 induction n with
 | zero =>
   intro d hd hn f g _ _
   cases hb:srB k d with
   | false => rw [rd_stop hb,rd_stop hb]
   | true => have := sr_less hd hb; omega
 | succ n ih =>
   intro d hd hn f g hf hg
   cases hb:srB k d with
   | false => rw [rd_stop hb,rd_stop hb]
   | true =>
     have hl:=sr_less hd hb
     obtain ⟨f,rfl⟩:∃ x,f = x + 1 := ⟨f - 1,by omega⟩
     obtain ⟨g,rfl⟩:∃ x,g = x + 1 := ⟨g - 1,by omega⟩
     rw [rd_go hb,rd_go hb,ih _ (dn_all (sr_is hd hb).1).1 (by omega) f g (by omega) (by omega)]
noncomputable def rdD (k:Nat) (d:Pl.Dg):Pl.Dg := (rd k (d.n + 1) d).1
noncomputable def rdM (k:Nat) (d:Pl.Dg):List Mv := (rd k (d.n + 1) d).2
theorem rd_no {k:Nat} {d:Pl.Dg} (h:srB k d = false):rdD k d = d ∧ rdM k d = [] := by unfold rdD rdM; rw [rd_stop h]; exact ⟨rfl,rfl⟩
theorem rd_yes {k:Nat} {d:Pl.Dg} (hd:Pl.Valid d) (h:srB k d = true):rdD k d = rdD k (dnD (srD k d)) ∧ rdM k d = srP k d ++ (dnM (srD k d) ++ rdM k (dnD (srD k d))) := by
 have hl:=sr_less hd h
 have e:=rd_more (k := k) _ _ (dn_all (sr_is hd h).1).1 (Nat.le_refl _) (d.n - 1) (dnD (srD k d)).n (by omega) (Nat.le_refl _)
 unfold rdD rdM
 rw [rd_go h,← e,show d.n - 1 + 1 = d.n by omega]
 exact ⟨rfl,rfl⟩
noncomputable def redD (k:Nat) (d:Pl.Dg):Pl.Dg := rdD k (dnD d)
noncomputable def redM (k:Nat) (d:Pl.Dg):List Mv := dnM d ++ rdM k (dnD d)
end Go.Proofs.YtghdiolnonejaaaGreatDoor
end
section
namespace Go.Proofs.YtghdiolnonejaaaGreatDoor
open Go Go.RowKit Go.Shelf
attribute [local go_sem ↓] Go.wp_at_zero Go.wp_at_succ
def bdR:Go.Shelf.Ren := ⟨fun | 166 => 68 | 167 => 67 | 169 => 70 | 240 => 102 | 276 => 121 | n => n,fun | 0 => 0 | 3 => 3 | 4 => 4 | 5 => 5 | 9 => 9 | 20 => 20 | 37 => 103 | 70 => 102 | 72 => 105 | 75 => 108 | 76 => 110 | 164 => 162 | 127 => 151 | 80 => 113 | n => n,fun | n => n⟩
set_option maxRecDepth 100000 in
theorem l167:Go.Proofs.Lays.n167 Tryz.prog bdR := {
 mixed := by kernel_rfl
 f167 := Tryz.func67.trans (congrArg some (by kernel_rfl))
 f240 := Tryz.func102.trans (congrArg some (by kernel_rfl))
 f276 := Tryz.func121.trans (congrArg some (by kernel_rfl))
 t0 := Tryz.underlying0
 a0 := Tryz.isAgg0
 z0 := Tryz.sizeOf0
 v0 := Tryz.zeroValue0
 t4 := Tryz.underlying4
 a4 := Tryz.isAgg4
 z4 := Tryz.sizeOf4
 v4 := Tryz.zeroValue4
 t5 := Tryz.underlying5
 a5 := Tryz.isAgg5
 z5 := Tryz.sizeOf5
 v5 := Tryz.zeroValue5
 t9 := Tryz.underlying9
 a9 := Tryz.isAgg9
 z9 := Tryz.sizeOf9
 v9 := Tryz.zeroValue9
 t20 := Tryz.underlying20
 a20 := Tryz.isAgg20
 z20 := Tryz.sizeOf20
 v20 := Tryz.zeroValue20
 t37 := Tryz.underlying103
 a37 := Tryz.isAgg103
 z37 := Tryz.sizeOf103
 v37 := Tryz.zeroValue103
 t70 := Tryz.underlying102
 a70 := Tryz.isAgg102
 z70 := Tryz.sizeOf102
 v70 := Tryz.zeroValue102
 t72 := Tryz.underlying105
 a72 := Tryz.isAgg105
 z72 := Tryz.sizeOf105
 v72 := Tryz.zeroValue105
 t75 := Tryz.underlying108
 a75 := Tryz.isAgg108
 z75 := Tryz.sizeOf108
 v75 := Tryz.zeroValue108
 t164 := Tryz.underlying162
 a164 := Tryz.isAgg162
 z164 := Tryz.sizeOf162
 v164 := Tryz.zeroValue162 }
set_option maxRecDepth 100000 in
theorem l166:Go.Proofs.Lays.n166 Tryz.prog bdR := {
 mixed := by kernel_rfl
 f166 := Tryz.func68.trans (congrArg some (by kernel_rfl))
 f240 := Tryz.func102.trans (congrArg some (by kernel_rfl))
 f276 := Tryz.func121.trans (congrArg some (by kernel_rfl))
 t0 := Tryz.underlying0
 a0 := Tryz.isAgg0
 z0 := Tryz.sizeOf0
 v0 := Tryz.zeroValue0
 t3 := Tryz.underlying3
 a3 := Tryz.isAgg3
 z3 := Tryz.sizeOf3
 v3 := Tryz.zeroValue3
 t4 := Tryz.underlying4
 a4 := Tryz.isAgg4
 z4 := Tryz.sizeOf4
 v4 := Tryz.zeroValue4
 t9 := Tryz.underlying9
 a9 := Tryz.isAgg9
 z9 := Tryz.sizeOf9
 v9 := Tryz.zeroValue9
 t20 := Tryz.underlying20
 a20 := Tryz.isAgg20
 z20 := Tryz.sizeOf20
 v20 := Tryz.zeroValue20
 t37 := Tryz.underlying103
 a37 := Tryz.isAgg103
 z37 := Tryz.sizeOf103
 v37 := Tryz.zeroValue103
 t70 := Tryz.underlying102
 a70 := Tryz.isAgg102
 z70 := Tryz.sizeOf102
 v70 := Tryz.zeroValue102
 t72 := Tryz.underlying105
 a72 := Tryz.isAgg105
 z72 := Tryz.sizeOf105
 v72 := Tryz.zeroValue105
 t75 := Tryz.underlying108
 a75 := Tryz.isAgg108
 z75 := Tryz.sizeOf108
 v75 := Tryz.zeroValue108
 t164 := Tryz.underlying162
 a164 := Tryz.isAgg162
 z164 := Tryz.sizeOf162
 v164 := Tryz.zeroValue162 }
set_option maxRecDepth 100000 in
theorem bdX:Builder.Extra Tryz.prog bdR := { Tryz.Builder_Extra_169 with }
def IsB (B b:Nat) (l:List UInt8) (w:World):Prop := Lib.IsBuilderF 105 5 B b (Lib.byteCells l) w
theorem writeByte_any (B b:Nat) (l:List UInt8) (c:UInt8) (w:World) (h:IsB B b l w) (hlen:l.length + 1 ≤ 140737488355328) (hBw:B ≤ w.heap.size) :
 Calls Tryz.prog 67 #[.pointer (some ⟨b,0,none⟩),.int .u8 c.toNat] w fun e w' => e = .returned .nilIface ∧ IsB B b (l ++ [c]) w' ∧ Below B w w' ∧ Lib.OthersKept 5 (some b) w w' :=
 (Any.Builder_WriteByte_k l167 bdX B b (Lib.byteCells l) c.toNat w h (by simpa [Lib.byteCells_length] using hlen) hBw).mono fun e w' ⟨he, h1, h2, h3⟩ =>
   ⟨he,.inr (by rw [show Lib.byteCells (l ++ [c]) = Lib.byteCells l ++ [.int .u8 c.toNat] from by simp [Lib.byteCells]]; exact h1),h2,h3⟩
theorem writeString_any (B b:Nat) (l:List UInt8) (s:ByteArray) (w:World) (h:IsB B b l w) (hlen:l.length + s.size ≤ 140737488355328) (hBw:B ≤ w.heap.size) :
 Calls Tryz.prog 68 #[.pointer (some ⟨b,0,none⟩),.string s] w fun e w' => e = .returned (.tuple #[.int .i64 s.size,.nilIface]) ∧ IsB B b (l ++ s.data.toList) w' ∧ Below B w w' ∧ Lib.OthersKept 5 (some b) w w' :=
 (Any.Builder_WriteString_k l166 bdX B b (Lib.byteCells l) s w h (by simpa [Lib.byteCells_length] using hlen) hBw).mono fun e w' ⟨he, h1, h2, h3⟩ =>
   ⟨he,.inr (by rw [show Lib.byteCells (l ++ s.data.toList) = Lib.byteCells l ++ Lib.strCells s from by simp [Lib.byteCells,Lib.strCells]]; exact h1),h2,h3⟩
theorem string_any (B b:Nat) (l:List UInt8) (w:World) (h:IsB B b l w) (hBw:B ≤ w.heap.size) :
 Calls Tryz.prog 70 #[.pointer (some ⟨b,0,none⟩)] w fun e w' => e = .returned (.string ⟨l.toArray⟩) ∧ IsB B b l w' ∧ Below B w w' :=
 Tryz.Builder_String_any_f B b l w h hBw
theorem isB_new (w:World):IsB w.heap.size w.heap.size [] (w.alloc (.cells #[.pointer none,.slice none 0 0] 105)) := by
 rcases Lib.fresh_isBuilder 105 5 w with ⟨h1,v,h2,h3,h4⟩ | ⟨h1,v,h2,h3,h4⟩
 ·exact .inl ⟨h1,v,h2,World.ownsRowF_of h3,h4⟩
 ·exact .inr ⟨h1,v,h2,World.ownsRowF_of h3,h4⟩
theorem isB_lt {B b:Nat} {l:List UInt8} {w:World} (h:IsB B b l w):b < w.heap.size := by
 have key:∀ p,Lib.BuilderAtF 105 5 B b p (Lib.byteCells l) w → b < w.heap.size:=by
  rintro p ⟨h1,v,h2,h3,h4⟩
  exact lt_of_heap h2
 rcases h with h | h
 ·exact key _ h
 ·exact key _ h
theorem isB_more {B b:Nat} {l:List UInt8} {w w':World} (h:IsB B b l w) (hb:Below w.heap.size w w'):IsB B b l w' := by
 have key:∀ p,Lib.BuilderAtF 105 5 B b p (Lib.byteCells l) w → Lib.BuilderAtF 105 5 B b p (Lib.byteCells l) w':=by
  rintro p ⟨h1,v,h2,h3,h4⟩
  refine ⟨h1,v,(hb.block b (lt_of_heap h2)).trans h2,⟨h3.1,?_⟩,h4⟩
  rcases h3.2 with hz | ⟨g,cap,cur,fz,r1,r2,r3,r4⟩
  ·exact .inl hz
  ·exact .inr ⟨g,cap,cur,fz,r1,r2,(hb.block g (lt_of_heap r3)).trans r3,r4⟩
 rcases h with h | h
 ·exact .inl (key _ h)
 ·exact .inr (key _ h)
theorem isB_block {B b:Nat} {l:List UInt8} {w:World} (h:IsB B b l w):∃ cs fr,w.heap[b]? = some (.cells cs 105 fr) := by
 rcases h with ⟨h1,v,h2,_⟩ | ⟨h1,v,h2,_⟩
 ·exact ⟨_,_,h2⟩
 ·exact ⟨_,_,h2⟩
theorem RowT.oth {w w':World} {A:Option Addr} {n b:Nat} {xs:List Value} (h:RowT w 3 A n xs) (ho:Lib.OthersKept 5 (some b) w w') (hb:∃ cs fr,w.heap[b]? = some (.cells cs 105 fr)):RowT w' 3 A n xs :=
 ⟨h.1, fun hn => let ⟨g, o, cs, fr, e, hg, hc⟩ := h.2 hn; ⟨g, o, cs, fr, e, ho g _ hg (fun e => by
   injection e with e
   obtain ⟨cs',fr',hb⟩:=hb
   rw [← e,hg] at hb
   injection hb with hb
   injection hb with _ hb
   exact absurd hb (by decide)) (fun c fz e => by
   injection e with _ e
   exact absurd e (by decide)),hc⟩⟩
theorem below_itoa (w:World) (k:Nat) (os:Array Obj):Below w.heap.size w («Sort».grow (w.drewN k) os) := by
 refine ⟨rfl,rfl,rfl,?_,fun j hj => ?_⟩
 ·show w.heap.size ≤ (w.heap ++ os).size
  rw [Array.size_append]; omega
 ·show (w.heap ++ os)[j]? = w.heap[j]?
  rw [Array.getElem?_append_left hj]
def GT (W : World) : Prop := Lib.TabIs Tryz.prog W "internal/strconv.uint64pow10" .u64 Lib.pow10Tab
theorem GT.below {W W':World} (h:GT W) (hb:Below W.heap.size W W'):GT W' := Joins.tab_stays (g := 0) (by kernel_rfl) h hb (Nat.le_refl _)
theorem pcode_in {d:Pl.Dg} (hd:Pl.Wf d) {ps:List Pl.Pc} (hp:Pl.Pcs d ps) (hl:(Pl.pcode d.lp ps).length ≤ 8100) {x:Int} (hx:x ∈ Pl.pcode d.lp ps):-1 ≤ x ∧ x ≤ 100000 := by
 have hlp:=hd.lp
 have hle:(ps.flatMap (fun p => (p.order.length:Int) :: p.code)).length + 2 ≤ 8100:=by
  have:=hl
  unfold Pl.pcode at this
  simpa using this
 have hps:∀ (qs:List Pl.Pc),qs.length ≤ (qs.flatMap (fun p => (p.order.length:Int) :: p.code)).length:=by
  intro qs
  induction qs with
  | nil => simp
  | cons q qs ih => rw [List.flatMap_cons,List.length_append,List.length_cons,List.length_cons]; omega
 have h1:=hps ps
 unfold Pl.pcode at hx
 rcases List.mem_cons.1 hx with rfl | hx
 ·omega
 rcases List.mem_cons.1 hx with rfl | hx
 ·omega
 obtain ⟨p,hpm,hx⟩:=List.mem_flatMap.1 hx
 obtain ⟨r,hr,e1,e2,_⟩:=hp.ok p hpm
 have ho:p.order.length ≤ 64:=by
  rw [e2]
  have:=(Pl.ord_ok hd hr).len
  have:=hd.few
  omega
 rcases List.mem_cons.1 hx with rfl | hx
 ·omega
 rw [e1] at hx
 unfold Pl.code at hx
 obtain ⟨c,hc,hx⟩:=List.mem_flatMap.1 hx
 have hcn:=((Pl.ord_ok hd hr).mem c hc).1
 have hs:=hd.sign c hcn
 have hi:∀ b,(Pl.ord d r).idxOf b ≤ 64:=fun b => by
  have:=List.idxOf_le_length (l := Pl.ord d r) (a := b)
  rw [← e2] at this ⊢
  omega
 have h2:=hi (Pl.nb d c 0)
 have h3:=hi (Pl.nb d c 1)
 have h4:=hi (Pl.nb d c 2)
 have h5:=hi (Pl.nb d c 3)
 unfold Pl.chk at hx
 simp only [List.mem_cons,List.not_mem_nil,or_false] at hx
 rcases hx with rfl | rfl | rfl | rfl | rfl <;> omega
theorem keyL_len:∀ (l:List Int),(∀ x,x ∈ l → -1 ≤ x ∧ x ≤ 100000) → (keyL l).length ≤ 22 * l.length := by
 have key:∀ (l:List Int),(∀ x,x ∈ l → -1 ≤ x ∧ x ≤ 100000) → (keyF l).length ≤ 22 * l.length:=by
  intro l
  induction l with
  | nil => intro _; simp [keyF]
  | cons x l ih =>
    intro h
    have h1:=ih (fun y hy => h y (by simp [hy]))
    have h2:=h x (by simp)
    have h3:=Lib.itoa_length_le x (by omega) (by omega)
    have e:keyF (x :: l) = 44 :: (Lib.itoa x ++ keyF l):=by unfold keyF; rw [List.flatMap_cons]; rfl
    rw [e,List.length_cons,List.length_append,List.length_cons]
    omega
 intro l h
 have:=key l h
 unfold keyL
 rw [List.length_drop]
 omega
theorem keyL_step {l:List Int} {k:Nat} {x:Int} (h:l[k]? = some x):keyL (l.take (k + 1)) = if k = 0 then Lib.itoa x else keyL (l.take k) ++ 44 :: Lib.itoa x := by
 have hk:=(List.getElem?_eq_some_iff.1 h).1
 rw [Pl.take_one h]
 split
 ·rename_i h0
  subst h0
  rw [List.take_zero,List.nil_append,keyL_one]
 ·rename_i h0
  refine keyL_snoc (fun e => ?_) x
  have:=congrArg List.length e
  rw [List.length_take,List.length_nil] at this
  omega
def KeyPost (d:Pl.Dg) (w:World) (e:Ending) (w':World):Prop := ∃ s:ByteArray,e = .returned (.string s) ∧ s.data.toList = keyD d ∧ s.size ≤ 180000 ∧ Below w.heap.size w w'
set_option maxRecDepth 100000 in
set_option maxHeartbeats 4000000 in
theorem key_any (d:Pl.Dg) (hd:Pl.Valid d) (h20:d.n ≤ 20) (A B:Option Addr) (cp cq m:Nat) (w:World) (hm:m = 4 * d.n) (hg:DgAt w A B d) (ht:GT w) :
 Calls Tryz.prog 36 #[.agg #[.slice A d.n cp,.slice B m cq,.int .i64 d.lp]] w (KeyPost d w) := by
 have HM:=hide hm
 have HG:=hide hg
 have HT:=hide ht
 have HD:=hide hd
 clear hm hg ht
 have X0:=hide (row_at (W := w) (g := w.heap.size) (t := 24) (vs := [.slice A d.n cp,.slice B m cq,.int .i64 d.lp]) rfl)
 have B0:=hide (show Below w.heap.size w (w.alloc (.cells #[.slice A d.n cp,.slice B m cq,.int .i64 d.lp] 24)) from (Below.refl _ _).alloc (Nat.le_refl _) _)
 obtain ⟨W1,hW1⟩:∃ W,W = w.alloc (.cells #[.slice A d.n cp,.slice B m cq,.int .i64 d.lp] 24) := ⟨_,rfl⟩
 rw [← hW1] at X0 B0
 have hs1:W1.heap.size = w.heap.size + 1:=by rw [hW1]; simp
 have I0:=hide (isB_new W1)
 rw [hs1] at I0
 have X1:=hide (X0.out.alloc (.cells #[.pointer none,.slice none 0 0] 105))
 have B1:=hide (B0.out.alloc (o := .cells #[.pointer none,.slice none 0 0] 105) B0.out.size)
 have HS1:=hide hs1
 clear X0 B0 hs1
 rw [hW1] at X1 B1 I0
 clear hW1 HS1 W1
 obtain ⟨d0,d1,d2,d3⟩:=box3 X1.out
 go_enter Tryz.func36,Tryz.ntmps36
 go_wp2_with fail
 refine (code_t d HD.out h20 A B cp cq m _ HM.out (HG.out.keep B1.out)).mono ?_
 rintro e w2 ⟨A2,n,c2,ps,rfl,hps,hsr,hn,hints,hb2⟩
 have HCD:=hide (codeD_is HD.out.wf hps hsr)
 have HPI:=hide (fun (x:Int) (hx:x ∈ Pl.pcode d.lp ps) => pcode_in HD.out.wf hps (by have := hints.1; rw [List.length_map] at this; omega) hx)
 have HI:=hide hints
 have HN:=hide (show (Pl.pcode d.lp ps).length = n from by have := hints.1; rw [List.length_map] at this; exact this)
 obtain ⟨cl,hcl⟩:∃ l,l = Pl.pcode d.lp ps := ⟨_,rfl⟩
 have hs2:w.heap.size + 1 ≤ w2.heap.size:=by have := hb2.size; simp at this; omega
 have I2:=hide (isB_more I0.out hb2)
 have B2:=hide (B1.out.trans (hb2.mono B1.out.size))
 rw [← hcl] at HCD HPI HI HN
 clear hps hsr hints hb2 hcl X1 B1 I0 d0 d1 d2 d3
 go_wp2_with fail
 go_loopg [4,5,9,16,18,19] n (fun g s4 s5 i s16 s18 s19 wx => ∃ k:Nat,k + g = n ∧ i = .int .i64 (k:Int) ∧ IsB (w.heap.size + 1) (w.heap.size + 1) (keyL (cl.take k)) wx ∧ Below w.heap.size w wx ∧ RowT wx 3 A2 n (cl.map (.int .i64)))
 case atStart => exact ⟨0,by omega,rfl,by rw [List.take_zero]; exact I2.out,B2.out,HI.out⟩
 case round =>
  clear I2 B2 HI
  obtain ⟨k,hkg,rfl,hi,hb,hr⟩:=hrel
  have HKG:=hide hkg
  have I0:=hide hi
  have B0:=hide hb
  have R0:=hide hr
  have hkn:k ≤ n:=by omega
  have hsz:w.heap.size + 1 ≤ wr.heap.size:=Nat.le_of_lt (isB_lt hi)
  have hkl:(keyL (cl.take k)).length ≤ 22 * k:=by
   have h:=keyL_len (cl.take k) (fun x hx => HPI.out x (List.mem_of_mem_take hx))
   rw [List.length_take] at h
   have:22 * min k cl.length ≤ 22 * k:=Nat.mul_le_mul_left _ (Nat.min_le_left _ _)
   omega
  clear hkg hi hb hr
  by_cases hk:k < n
  ·have hki:(k:Int) < (n:Int):=by omega
   have k0:(0:Int) ≤ (k:Int):=by omega
   obtain ⟨x,hx⟩:∃ x,cl[k]? = some x := ⟨_,List.getElem?_eq_getElem (by rw [HN.out]; exact hk)⟩
   obtain ⟨b,o,rfl,x1⟩:=(R0.out.row).at_ hk
   rw [show (cl.map (Value.int .i64))[k]'(by rw [R0.out.1]; exact hk) = .int .i64 x from by rw [List.getElem_map]; congr 1; exact (List.getElem?_eq_some_iff.1 hx).2] at x1
   have HXB:=hide (HPI.out x (List.mem_of_getElem? hx))
   have hxb:=HXB.out
   have HST:=hide (keyL_step hx)
   clear hx
   by_cases h0:k = 0
   ·have hk0:¬ ((0:Int) < (k:Int)):=by omega
    have HST2:=hide (show keyL (cl.take (k + 1)) = keyL (cl.take k) ++ Lib.itoa x by rw [HST.out,if_pos h0,h0]; rfl)
    clear h0
    clear HST
    go_wp2_with fail
    refine (Tryz.strconv_Itoa x (by omega) (by omega) _ (HT.out.below B0.out)).mono ?_
    rintro e w3 ⟨rfl,k3,os3,hw3⟩
    have hb3:Below wr.heap.size wr w3:=by rw [hw3]; exact below_itoa wr k3 os3
    have B3:=hide (B0.out.trans (hb3.mono B0.out.size))
    have I3:=hide (isB_more I0.out hb3)
    have R3:=hide (R0.out.keep hb3)
    have hs3:w.heap.size + 1 ≤ w3.heap.size:=by have := hb3.size; omega
    clear hw3 hb3 B0 I0 R0 x1
    obtain ⟨sx,hsx⟩:∃ x1:ByteArray,x1 = ⟨(Lib.itoa x).toArray⟩:=⟨_,rfl⟩
    have HSX:=hide (show sx.data.toList = Lib.itoa x by rw [hsx])
    have hsz2:sx.size ≤ 21:=by rw [Lib.size_eq,HSX.out]; exact Lib.itoa_length_le x (by omega) (by omega)
    rw [← hsx]
    clear hsx
    go_wp2_with fail
    refine (writeString_any (w.heap.size + 1) (w.heap.size + 1) _ sx _ I3.out (by omega) hs3).mono ?_
    rintro e w4 ⟨rfl,hi4,hb4,ho4⟩
    have I4:=hide hi4
    have B4:=hide (B3.out.trans (hb4.mono (by omega)))
    have R4:=hide (R3.out.oth ho4 (isB_block I3.out))
    clear hi4 hb4 ho4
    go_wp2_with fail
    go_roundg (gk - 1)
    case measure => have := HKG.out; omega
    case rel => exact ⟨k + 1,by have := HKG.out; omega,by go_num,by rw [HST2.out,← HSX.out]; exact I4.out,B4.out,R4.out⟩
   ·have hk0:(0:Int) < (k:Int):=by omega
    have HST2:=hide (show keyL (cl.take (k + 1)) = (keyL (cl.take k) ++ [44]) ++ Lib.itoa x by rw [HST.out,if_neg h0,List.append_assoc]; rfl)
    clear HST
    go_wp2_with fail
    refine (writeByte_any (w.heap.size + 1) (w.heap.size + 1) _ 44 _ I0.out (by omega) hsz).mono ?_
    rintro e w2' ⟨rfl,hi2,hb2,ho2⟩
    have I2:=hide hi2
    have B2:=hide (B0.out.trans (hb2.mono (by omega)))
    have R2:=hide (R0.out.oth ho2 (isB_block I0.out))
    clear hi2 hb2 ho2 B0 I0 R0 x1
    go_wp2_with fail
    refine (Tryz.strconv_Itoa x (by omega) (by omega) _ (HT.out.below B2.out)).mono ?_
    rintro e w3 ⟨rfl,k3,os3,hw3⟩
    have hb3:Below w2'.heap.size w2' w3:=by rw [hw3]; exact below_itoa w2' k3 os3
    have B3:=hide (B2.out.trans (hb3.mono B2.out.size))
    have I3:=hide (isB_more I2.out hb3)
    have R3:=hide (R2.out.keep hb3)
    have hs3:w.heap.size + 1 ≤ w3.heap.size:=Nat.le_of_lt (isB_lt I3.out)
    clear hw3 hb3 B2 I2 R2
    obtain ⟨sx,hsx⟩:∃ x1:ByteArray,x1 = ⟨(Lib.itoa x).toArray⟩:=⟨_,rfl⟩
    have HSX:=hide (show sx.data.toList = Lib.itoa x by rw [hsx])
    have hsz2:sx.size ≤ 21:=by rw [Lib.size_eq,HSX.out]; exact Lib.itoa_length_le x (by omega) (by omega)
    have hkl2:(keyL (cl.take k) ++ [44]).length ≤ 22 * k + 1:=by rw [List.length_append,List.length_singleton]; omega
    rw [← hsx]
    clear hsx
    go_wp2_with fail
    refine (writeString_any (w.heap.size + 1) (w.heap.size + 1) _ sx _ I3.out (by omega) hs3).mono ?_
    rintro e w4 ⟨rfl,hi4,hb4,ho4⟩
    have I4:=hide hi4
    have B4:=hide (B3.out.trans (hb4.mono (by omega)))
    have R4:=hide (R3.out.oth ho4 (isB_block I3.out))
    clear hi4 hb4 ho4
    go_wp2_with fail
    go_roundg (gk - 1)
    case measure => have := HKG.out; omega
    case rel => exact ⟨k + 1,by have := HKG.out; omega,by go_num,by rw [HST2.out,← HSX.out]; exact I4.out,B4.out,R4.out⟩
  ·have hki:¬ ((k:Int) < (n:Int)):=by omega
   have hkk:k = n:=by omega
   rw [hkk,List.take_of_length_le (by have := HN.out; omega)] at I0
   have hlen:(keyL cl).length ≤ 22 * n:=by
    have h:=keyL_len cl HPI.out
    have:=HN.out
    rw [← this]
    exact h
   go_wp2_with fail
   refine (string_any (w.heap.size + 1) (w.heap.size + 1) _ _ I0.out hsz).mono ?_
   rintro e w4 ⟨rfl,hi4,hb4⟩
   have B4:=hide (B0.out.trans (hb4.mono (by omega)))
   go_wp2
   go_ret
   refine ⟨_,rfl,?_,?_,B4.out⟩
   ·show (keyL cl).toArray.toList = keyD d
    rw [List.toList_toArray,HCD.out]
    rfl
   ·rw [Lib.size_eq]
    show (keyL cl).toArray.toList.length ≤ 180000
    rw [List.toList_toArray]
    omega
end Go.Proofs.YtghdiolnonejaaaGreatDoor
end
section
namespace Go.Proofs.YtghdiolnonejaaaGreatDoor
open Go Go.RowKit
attribute [local go_sem ↓] Go.wp_at_zero Go.wp_at_succ
def put5 (xs:List Value) (j:Nat) (z:Mv):List Value := ((((xs.set (j * 5) (.int .i64 z.kind)).set (j * 5 + 1) (.int .i64 z.x)).set (j * 5 + 2) (.int .i64 z.y)).set (j * 5 + 3) (.int .i64 z.sign)).set (j * 5 + 4) (.bool z.over)
theorem mvs_put (z:Mv):∀ (ms:List Mv) (j:Nat),j < ms.length → mvs (ms.set j z) = put5 (mvs ms) j z
 | [],j,h => absurd h (by simp)
 | m :: ms,0,_ => rfl
 | m :: ms, j + 1, h => by
   have ih:=mvs_put z ms j (by simpa using h)
   show m.cells ++ mvs (ms.set j z) = _
   rw [ih]
   unfold put5
   rw [show (j + 1) * 5 = j * 5 + 5 by omega,show j * 5 + 5 + 1 = (j * 5 + 1) + 5 by omega,show j * 5 + 5 + 2 = (j * 5 + 2) + 5 by omega,show j * 5 + 5 + 3 = (j * 5 + 3) + 5 by omega,show j * 5 + 5 + 4 = (j * 5 + 4) + 5 by omega]
   rfl
structure RV (base g n c:Nat) (L:List Mv) (i j:Nat) (ms:List Mv) (w W:World):Prop where
 own:W.ownsRow base 43 5 (.slice (some ⟨g,0,none⟩) n c) n (mvs ms)
 len:ms.length = n
 is:∀ p,p < n → ms[p]? = if p < i ∨ j < p then L[n - 1 - p]? else L[p]?
 bel:Below base w W
theorem RV.swap {base g n c:Nat} {L:List Mv} {i j:Nat} {ms:List Mv} {w W:World} (h:RV base g n c L i j ms w W) (hL:L.length = n) (hij:i < j) (hs:i + j + 1 = n) {x y:Mv} (hx:ms[i]? = some x) (hy:ms[j]? = some y) :
 RV base g n c L (i + 1) (j - 1) ((ms.set i y).set j x) w ((((((((((W.setCell ⟨g,i * 5,none⟩ (.int .i64 y.kind)).setCell ⟨g,i * 5 + 1,none⟩ (.int .i64 y.x)).setCell ⟨g,i * 5 + 2,none⟩ (.int .i64 y.y)).setCell ⟨g,i * 5 + 3,none⟩ (.int .i64 y.sign)).setCell ⟨g,i * 5 + 4,none⟩ (.bool y.over)).setCell ⟨g,j * 5,none⟩ (.int .i64 x.kind)).setCell ⟨g,j * 5 + 1,none⟩ (.int .i64 x.x)).setCell ⟨g,j * 5 + 2,none⟩ (.int .i64 x.y)).setCell ⟨g,j * 5 + 3,none⟩ (.int .i64 x.sign)).setCell ⟨g,j * 5 + 4,none⟩ (.bool x.over)) := by
 have hb:=(own_rowE h.own).1
 have K:∀ {V:World},Below base w V → ∀ o v,Below base w (V.setCell ⟨g,o,none⟩ v):=fun hV o v => hV.setCell (by show _ ≤ g; exact hb) v
 refine ⟨?_,by rw [List.length_set,List.length_set]; exact h.len,fun p hp => ?_,K (K (K (K (K (K (K (K (K (K h.bel _ _) _ _) _ _) _ _) _ _) _ _) _ _) _ _) _ _) _ _⟩
 ·rw [mvs_put x _ j (by rw [List.length_set,h.len]; omega),mvs_put y _ i (by rw [h.len]; omega)]
  exact own_setIn (own_setIn (own_setIn (own_setIn (own_setIn (own_setIn (own_setIn (own_setIn (own_setIn (own_setIn h.own _) _) _) _) _) _) _) _) _) _
 ·have h1:=h.is i (by omega)
  have h2:=h.is j (by omega)
  rw [if_neg (by omega),hx] at h1
  rw [if_neg (by omega),hy] at h2
  rw [List.getElem?_set]
  split
  ·rename_i e
   subst e
   rw [if_pos (by rw [List.length_set,h.len]; omega),if_pos (by omega),show n - 1 - j = i by omega]
   exact h1
  ·rename_i e
   rw [List.getElem?_set]
   split
   ·rename_i e2
    subst e2
    rw [if_pos (by rw [h.len]; omega),if_pos (by omega),show n - 1 - i = j by omega]
    exact h2
   ·rename_i e2
    rw [h.is p hp]
    by_cases hc:p < i ∨ j < p
    ·rw [if_pos hc,if_pos (by omega)]
    ·rw [if_neg hc,if_neg (by omega)]
theorem RV.done {base g n c:Nat} {L:List Mv} {i j:Nat} {ms:List Mv} {w W:World} (h:RV base g n c L i j ms w W) (hL:L.length = n) (hij:¬ i < j) (hs:i + j + 1 = n):ms = L.reverse := by
 refine List.ext_getElem? fun p => ?_
 by_cases hp:p < n
 ·rw [h.is p hp,List.getElem?_reverse (by omega),hL]
  by_cases hc:p < i ∨ j < p
  ·rw [if_pos hc]
  ·rw [if_neg hc,show n - 1 - p = p by omega]
 ·rw [List.getElem?_eq_none (by rw [h.len]; omega),List.getElem?_eq_none (by rw [List.length_reverse]; omega)]
theorem RV.down {base g n c:Nat} {L:List Mv} {i j:Nat} {ms:List Mv} {w W W':World} (h:RV base g n c L i j ms w W) (hbs:base ≤ W.heap.size) (hb:Below W.heap.size W W'):RV base g n c L i j ms w W' := ⟨own_below h.own hb,h.len,h.is,h.bel.trans (hb.mono hbs)⟩
set_option maxRecDepth 100000 in
set_option maxHeartbeats 4000000 in
theorem rev_any (base g n c:Nat) (L:List Mv) (w:World) (h:w.ownsRow base 43 5 (.slice (some ⟨g,0,none⟩) n c) n (mvs L)) (hn:L.length = n) (h0:0 < n) (hb:n ≤ 1000) :
 Calls Tryz.prog 44 #[.slice (some ⟨g,0,none⟩) n c] w fun e w' => (∃ v,e = .returned v) ∧ w'.ownsRow base 43 5 (.slice (some ⟨g,0,none⟩) n c) n (mvs L.reverse) ∧ Below base w w' := by
 have HL:=hide hn
 have R0:=hide (show RV base g n c L 0 (n - 1) L w w from ⟨h,hn,fun p hp => by rw [if_neg (by omega)],Below.refl _ _⟩)
 clear h hn
 have hn1:(1:Int) ≤ (n:Int):=by omega
 go_enter Tryz.func44,Tryz.ntmps44
 go_wp2_with fail
 go_loopg [2,3] n (fun gm s2 s3 wx => ∃ (i j:Nat) (ms:List Mv),j + 1 ≤ gm ∧ i + j + 1 = n ∧ s2 = .int .i64 (i:Int) ∧ s3 = .int .i64 (j:Int) ∧ RV base g n c L i j ms w wx)
 case atStart => exact ⟨0,n - 1,L,by omega,by omega,rfl,by go_num,R0.out⟩
 case round =>
  clear R0
  obtain ⟨i,j,ms,hjg,hs,rfl,rfl,hr⟩:=hrel
  have HJG:=hide hjg
  have HS:=hide hs
  have R0:=hide hr
  have hjn:j < n:=by omega
  have hin:i < n:=by omega
  clear hjg hs hr
  by_cases hij:i < j
  ·have hiji:(i:Int) < (j:Int):=by omega
   have i0:(0:Int) ≤ (i:Int):=by omega
   have j0:(0:Int) ≤ (j:Int):=by omega
   have ini:(i:Int) < (n:Int):=by omega
   have jni:(j:Int) < (n:Int):=by omega
   obtain ⟨x,hx⟩:∃ x,ms[i]? = some x := ⟨_,List.getElem?_eq_getElem (by rw [R0.out.len]; omega)⟩
   obtain ⟨y,hy⟩:∃ y,ms[j]? = some y := ⟨_,List.getElem?_eq_getElem (by rw [R0.out.len]; omega)⟩
   have CA:=fun (t:Nat) (u:Value) (ht:t < 5) (e:x.cells[t]? = some u) => (show wr.cell? ⟨g,i * 5 + t,none⟩ = some u by rw [World.ownsRow.cellAt R0.out.own _ (by omega),mvs_get ms i x hx t u e])
   have CB:=fun (t:Nat) (u:Value) (ht:t < 5) (e:y.cells[t]? = some u) => (show wr.cell? ⟨g,j * 5 + t,none⟩ = some u by rw [World.ownsRow.cellAt R0.out.own _ (by omega),mvs_get ms j y hy t u e])
   have SW:=hide (R0.out.swap HL.out hij HS.out hx hy)
   obtain ⟨xk,xx,xy,xs,xo⟩:=x
   obtain ⟨yk,yx,yy,ys,yo⟩:=y
   have x0:=CA 0 _ (by omega) rfl
   have x1:=CA 1 _ (by omega) rfl
   have x2:=CA 2 _ (by omega) rfl
   have x3:=CA 3 _ (by omega) rfl
   have x4:=CA 4 _ (by omega) rfl
   have y0:=CB 0 _ (by omega) rfl
   have y1:=CB 1 _ (by omega) rfl
   have y2:=CB 2 _ (by omega) rfl
   have y3:=CB 3 _ (by omega) rfl
   have y4:=CB 4 _ (by omega) rfl
   rw [Nat.add_zero] at x0 y0
   have fz:∀ o,wr.frozen? ⟨g,o,none⟩ = false:=own_free R0.out.own
   clear CA CB hx hy
   go_upto_region 3 with fail
   go_region
   all_goals (go_wp2_with fail)
   all_goals (
    go_roundg (gk - 1)
    case measure => have := HJG.out; omega
    case rel =>
     have e:((j - 1:Nat):Int) = (j:Int) - 1:=by omega
     have hbs:base ≤ wr.heap.size:=by
      obtain ⟨h1,us,hr⟩:=own_rowE R0.out.own
      have:=hr.lt
      omega
     exact ⟨i + 1,j - 1,_,by have := HJG.out; omega,by have := HS.out; omega,by go_num,by rw [e],SW.out.down (by simpa using hbs) (Below.refl _ _).drew⟩)
  ·have hiji:¬ ((i:Int) < (j:Int)):=by omega
   have HR:=hide (R0.out.done HL.out hij HS.out)
   go_wp2
   refine bodyPost_end (results_none rfl _ _ _) rfl ⟨⟨_,rfl⟩,by rw [← HR.out]; exact R0.out.own,R0.out.bel⟩
end Go.Proofs.YtghdiolnonejaaaGreatDoor
end
section
namespace Go.Proofs.YtghdiolnonejaaaGreatDoor
open Go Go.RowKit
attribute [local go_sem ↓] Go.wp_at_zero Go.wp_at_succ
theorem nodeInfo:(Tryz.prog.info? 75).map (fun i => (i.zero,i.size,i.bytes)) = some (some (.agg #[.slice none 0 0,.slice none 0 0,.int .i64 0,.int .i64 0,.int .i64 0,.int .i64 0,.int .i64 0,.bool false,.int .i64 0,.int .i64 0]),10,112) := by kernel_rfl
def MapIs (W:World) (b:Nat) (ks:List (List UInt8)):Prop :=
 ∃ (n:Nat) (D:DataW Unit),W.ownsMap Tryz.prog 9 (plainElem Tryz.prog 4) b n D ∧ n ≤ ks.length ∧ ∀ s:List UInt8,D.atKey (.string s) (.lit (.bool false)) = .lit (.bool (Pl.vb (s ∈ ks)))
theorem skKey:Maps.Keyed Tryz.prog 9 := Maps.string_keyed Tryz.underlying9
theorem MapIs.lt {W:World} {b:Nat} {ks:List (List UInt8)} (h:MapIs W b ks):b < W.heap.size := let ⟨_,_,h,_⟩:=h; h.lt
theorem MapIs.obj {W:World} {b:Nat} {ks:List (List UInt8)} (h:MapIs W b ks):∃ es cl,W.heap[b]? = some (.map es cl) := let ⟨_,_,⟨es,cl,h,_⟩,_⟩:=h; ⟨es,cl,h⟩
theorem MapIs.same {W W':World} {b:Nat} {ks:List (List UInt8)} (h:MapIs W b ks) (e:W'.heap[b]? = W.heap[b]?):MapIs W' b ks := by
 obtain ⟨n,D,⟨es,cl,hb,r⟩,h2,h3⟩:=h
 exact ⟨n,D,⟨es,cl,e.trans hb,r⟩,h2,h3⟩
theorem plainElem_bool_inv {P:Program} {e:TypeId} (he:P.underlying e = some .bool) {v:Value} {z:DataW Unit × List MemPlace} (h:plainElem P e v = some z):∃ x,v = .bool x ∧ z = (.lit (.bool x),[]) := by
 unfold plainElem at h
 rw [he] at h
 cases v <;> simp at h
 exact ⟨_,rfl,h.symm⟩
theorem MapIs.new (W:World):MapIs (W.alloc (.map #[] 0)) W.heap.size [] :=
 ⟨0, .map [], World.ownsMap_made W _ _ _, Nat.le_refl _, fun s => by
   rw [WideAt.atKey_none _ (fun p hp => absurd hp (by simp)),Pl.vb_false (by simp)]⟩
set_option maxRecDepth 100000 in
theorem MapIs.look {W:World} {b:Nat} {ks:List (List UInt8)} (h:MapIs W b ks) (s:ByteArray) (hs:s.size ≤ maxLen) :
 (Instr.lookup 77 (.map (some b)) (.string s) false).run Tryz.prog W = .ok (.bool (Pl.vb (s.data.toList ∈ ks))) W := by
 obtain ⟨n,D,h1,h2,h3⟩:=h
 obtain ⟨v,ps,hrun,hv⟩:=h1.lookup skKey Tryz.underlying77 (Tryz.zeroValue4 W) (plainElem_bool Tryz.underlying4 false) (WideMaps.keyOf_string_mk Tryz.underlying9 hs)
 rw [h3] at hv
 rw [hrun]
 obtain ⟨x,hx⟩:∃ x,x = Pl.vb (s.data.toList ∈ ks) := ⟨_,rfl⟩
 rw [← hx] at hv ⊢
 obtain ⟨y,rfl,hy⟩:=plainElem_bool_inv Tryz.underlying4 hv
 injection hy with hy
 injection hy with hy
 injection hy with hy
 rw [hy]
theorem MapIs.put {n b:Nat} {D:DataW Unit} {W W':World} {ks:List (List UInt8)} (h0:W.ownsMap Tryz.prog 9 (plainElem Tryz.prog 4) b n D) (hn:n ≤ ks.length) (h3:∀ s:List UInt8,D.atKey (.string s) (.lit (.bool false)) = .lit (.bool (Pl.vb (s ∈ ks)))) (s:List UInt8)
 (h:W'.ownsMap Tryz.prog 9 (plainElem Tryz.prog 4) b (n + 1) (D.put (.string s) (.lit (.bool true)))):MapIs W' b (ks ++ [s]) := by
 refine ⟨n + 1,_,h,by rw [List.length_append,List.length_singleton]; omega,fun t => ?_⟩
 by_cases e:t = s
 ·subst e
  rw [Maps.atKey_put_same h0.isMap (by trivial),Pl.vb_true (by simp)]
 ·rw [Maps.atKey_put_other (fun e2 => e (by injection e2)),h3]
  congr 3
  exact propext ⟨fun h => by simp [h],fun h => by simpa [e] using h⟩
def KpT (t:TypeId) (W W':World):Prop := ∀ (g:Nat) (cs:Array Value) (fr:Nat × Nat),W.heap[g]? = some (Obj.cells cs t fr) → W'.heap[g]? = some (Obj.cells cs t fr)
theorem KpT.of_below {t:TypeId} {W W':World} (h:Below W.heap.size W W'):KpT t W W' := fun g cs fr hg => (h.block g (lt_of_heap hg)).trans hg
theorem KpT.of_grown {t t':TypeId} {W W':World} {row:Option Nat} (h:W.grownBy W' row) (hr:∀ g,row = some g → ∃ cs fr,W.heap[g]? = some (.cells cs t' fr)) (hne:t ≠ t'):KpT t W W' := fun g cs fr hg => (h.block g (lt_of_heap hg) (fun e => by
 obtain ⟨cs',fr',h2⟩:=hr g e.symm
 rw [hg] at h2
 injection h2 with h2
 injection h2 with _ h2
 exact hne h2)).trans hg
theorem KpT.of_map {t:TypeId} {W W':World} {b:Nat} (h:W.grownBy W' (some b)) (hr:∃ es cl,W.heap[b]? = some (.map es cl)):KpT t W W' := fun g cs fr hg => (h.block g (lt_of_heap hg) (fun e => by
 injection e with e
 obtain ⟨es,cl,h2⟩:=hr
 rw [← e,hg] at h2
 injection h2 with h2
 cases h2)).trans hg
theorem Row.kp {t:TypeId} {W W':World} {g:Nat} {vs:List Value} (h:Row W g t vs) (k:KpT t W W'):Row W' g t vs := k g _ _ h
theorem RowT.kp {t:TypeId} {W W':World} {A:Option Addr} {n:Nat} {xs:List Value} (h:RowT W t A n xs) (k:KpT t W W'):RowT W' t A n xs :=
 ⟨h.1,fun hn => let ⟨b,o,cs,fr,e,hb,hc⟩:=h.2 hn; ⟨b,o,cs,fr,e,k b cs fr hb,hc⟩⟩
theorem DgT.kp {W W':World} {A B:Option Addr} {d:Pl.Dg} (h:DgT W A B d) (k:KpT 3 W W'):DgT W' A B d := ⟨h.s.kp k,h.m.kp k⟩
theorem own_kp {t:TypeId} {W W':World} {base s n:Nat} {v:Value} {xs:List Value} (h:W.ownsRow base t s v n xs) (k:KpT t W W'):W'.ownsRow base t s v n xs := by
 refine ⟨h.1,?_⟩
 rcases h.2 with hz | ⟨g,cap,cur,r1,r2,r3,r4⟩
 ·exact .inl hz
 ·exact .inr ⟨g,cap,cur,r1,r2,k g _ _ r3,r4⟩
structure Nm where
 a:Nd
 A:Option Addr
 B:Option Addr
 c:Nat
 e:Nat
def Nm.v (z:Nm):List Value := [.slice z.A z.a.d.n z.c,.slice z.B (4 * z.a.d.n) z.e,.int .i64 z.a.d.lp,.int .i64 z.a.m.kind,.int .i64 z.a.m.x,.int .i64 z.a.m.y,.int .i64 z.a.m.sign,.bool z.a.m.over,.int .i64 z.a.fr,.int .i64 z.a.s]
def nms (zs:List Nm):List Value := zs.flatMap Nm.v
theorem nms_len:∀ zs:List Nm,(nms zs).length = zs.length * 10
 | [] => rfl
 | z :: zs => by
   have:=nms_len zs
   show (z.v ++ nms zs).length = _
   rw [List.length_append,this,List.length_cons]
   show 10 + _ = _
   omega
theorem nms_app (zs:List Nm) (z:Nm):nms (zs ++ [z]) = nms zs ++ z.v := by unfold nms; simp
theorem nms_get:∀ (zs:List Nm) (j:Nat) (z:Nm),zs[j]? = some z → ∀ (i:Nat) (u:Value),z.v[i]? = some u → (nms zs)[j * 10 + i]? = some u
 | [],j,z,h,_,_,_ => by cases h
 | m :: ms, 0, z, h, i, u, hu => by
   obtain rfl:m = z := by simpa using h
   show (m.v ++ nms ms)[0 * 10 + i]? = _
   rw [Nat.zero_mul,Nat.zero_add,List.getElem?_append_left (List.getElem?_eq_some_iff.1 hu).1]
   exact hu
 | m :: ms, j + 1, z, h, i, u, hu => by
   show (m.v ++ nms ms)[(j + 1) * 10 + i]? = _
   rw [List.getElem?_append_right (by show 10 ≤ _; omega),show (j + 1) * 10 + i - m.v.length = j * 10 + i by show (j + 1) * 10 + i - 10 = _; omega]
   exact nms_get ms j z (by simpa using h) i u hu
theorem nm_ones (z:Nm):∀ u ∈ z.v,u.oneCell' = true := by simp [Nm.v,Value.oneCell']
theorem row_news (W:World) (g:Nat) (hg:g = W.heap.size) (t:TypeId) (vs:List Value):∀ j u,vs[j]? = some u → (W.alloc (.cells vs.toArray t)).cell? ((⟨g,0,none⟩:Addr).add j) = some u := by
 intro j u hu
 rw [Addr.add_lit,Nat.zero_add,cell_of_row _ _ j _ _ _ (row_at (W := W) (g := g) (t := t) (vs := vs) hg)]
 simpa using hu
def NdT (W:World) (A0 B0:Option Addr) (d0:Pl.Dg) (z:Nm):Prop := DgT W z.A z.B z.a.d ∨ (z.A = A0 ∧ z.B = B0 ∧ z.a.d = d0)
theorem NdT.kp {W W':World} {A0 B0:Option Addr} {d0:Pl.Dg} {z:Nm} (h:NdT W A0 B0 d0 z) (k:KpT 3 W W'):NdT W' A0 B0 d0 z := h.imp (fun h => h.kp k) id
theorem NdT.dg {w W:World} {A0 B0:Option Addr} {d0:Pl.Dg} {z:Nm} (h:NdT W A0 B0 d0 z) (hg:DgAt w A0 B0 d0) (hb:Below w.heap.size w W):DgAt W z.A z.B z.a.d := by
 rcases h with h | ⟨h1,h2,h3⟩
 ·exact h.at
 ·rw [h1,h2,h3]; exact hg.keep hb
structure SrL (w:World) (A0 B0:Option Addr) (d0:Pl.Dg) (k:Nat) (dv:List Value) (gm:Nat) (v:Value) (zs:List Nm) (W:World):Prop where
 bx:Row W w.heap.size 24 dv
 rs:Row W (w.heap.size + 1) 24 [.slice none 0 0,.slice none 0 0,.int .i64 0]
 own:W.ownsRow (w.heap.size + 1 + 1) 75 10 v zs.length (nms zs)
 nt:∀ z,z ∈ zs → NdT W A0 B0 d0 z
 ok:LOk d0 k (zs.map Nm.a)
 mp:MapIs W gm (keysL (zs.map Nm.a))
 gml:w.heap.size + 1 < gm
 bel:Below w.heap.size w W
section
variable {w W W':World} {A0 B0:Option Addr} {d0:Pl.Dg} {k gm:Nat} {dv:List Value} {v:Value} {zs:List Nm}
theorem SrL.big (h:SrL w A0 B0 d0 k dv gm v zs W):w.heap.size + 1 + 1 ≤ W.heap.size := by have := h.rs.lt; omega
theorem SrL.below (h:SrL w A0 B0 d0 k dv gm v zs W) (hb:Below W.heap.size W W'):SrL w A0 B0 d0 k dv gm v zs W' :=
 ⟨h.bx.below hb,h.rs.below hb,own_below h.own hb,fun z hz => (h.nt z hz).kp (.of_below hb),h.ok,h.mp.same (hb.block gm h.mp.lt),h.gml,h.bel.trans (hb.mono h.bel.size)⟩
theorem SrL.cell {g n c j t:Nat} {z:Nm} {u:Value} (h:SrL w A0 B0 d0 k dv gm (.slice (some ⟨g,0,none⟩) n c) zs W) (hn:n = zs.length) (hz:zs[j]? = some z) (ht:t < 10) (e:z.v[t]? = some u):W.cell? ⟨g,j * 10 + t,none⟩ = some u := by
 subst hn
 have hj:=(List.getElem?_eq_some_iff.1 hz).1
 rw [World.ownsRow.cellAt h.own _ (by omega),nms_get zs j z hz t u e]
theorem SrL.app {z:Nm} {W2:World} {g c n:Nat} (h:SrL w A0 B0 d0 k dv gm v zs W) (hm:MapIs W' gm (keysL (zs.map Nm.a) ++ [keyD z.a.d])) (hg:W.grownBy W' (some gm)) (hok:LOk d0 k (zs.map Nm.a ++ [z.a])) :
 W'.ownsRow (w.heap.size + 1 + 1) 75 10 v zs.length (nms zs) ∧ (∀ t,KpT t W W') ∧ Below w.heap.size w W' ∧ w.heap.size + 1 + 1 ≤ W'.heap.size ∧
 (∀ (V : World), Below W'.heap.size W' V → V.ownsRow (w.heap.size + 1 + 1) 75 10 v zs.length (nms zs) → DgT V z.A z.B z.a.d → W2.ownsRow (w.heap.size + 1 + 1) 75 10 (.slice (some ⟨g, 0, none⟩) n c) n (nms zs ++ z.v) → V.grownBy W2 v.ownBlock → n = zs.length + 1 →
   SrL w A0 B0 d0 k dv gm (.slice (some ⟨g,0,none⟩) n c) (zs ++ [z]) W2 ∧ ∀ t,t ≠ 75 → KpT t V W2) := by
 have k1:∀ t,KpT t W W':=fun t => .of_map hg h.mp.obj
 have b1:Below w.heap.size w W':=h.bel.grown hg h.bel.size (fun k hk => by
  injection hk with hk
  have:=h.gml
  omega)
 have s1:W.heap.size ≤ W'.heap.size:=hg.size
 have hbig:=h.big
 refine ⟨own_kp h.own (k1 _),k1,b1,by omega,fun V hV own T own2 gr hn => ?_⟩
 have hbk:=fun g (hg:v.ownBlock = some g) => ownsRow_block own g hg
 have k2:∀ t,t ≠ 75 → KpT t V W2:=fun t ht => .of_grown gr hbk ht
 have k3:∀ t,t ≠ 75 → KpT t W W2:=fun t ht g cs fr hg => k2 t ht g cs fr (KpT.of_below hV g cs fr (k1 t g cs fr hg))
 have hl:(zs ++ [z]).length = zs.length + 1:=by rw [List.length_append]; rfl
 have hgmb:V.heap[gm]? = W'.heap[gm]?:=hV.block gm hm.lt
 refine ⟨⟨h.bx.kp (k3 _ (by decide)),h.rs.kp (k3 _ (by decide)),?_,fun y hy => ?_,?_,?_,h.gml,?_⟩,k2⟩
 ·rw [nms_app,hl,← hn]; exact own2
 ·rcases List.mem_append.1 hy with hy | hy
  ·exact (h.nt y hy).kp (k3 _ (by decide))
  ·rw [List.mem_singleton.1 hy]
   exact .inl (T.kp (k2 _ (by decide)))
 ·rw [List.map_append]; exact hok
 ·have e:keysL ((zs ++ [z]).map Nm.a) = keysL (zs.map Nm.a) ++ [keyD z.a.d]:=by unfold keysL; simp
  rw [e]
  refine hm.same ?_
  rw [gr.block gm (by have := hm.lt; have := hV.size; omega) (fun e => by
   obtain ⟨cs,fr,h2⟩:=hbk gm e.symm
   obtain ⟨es,cl,h3⟩:=hm.obj
   rw [hgmb,h3] at h2
   injection h2 with h2
   cases h2)]
  exact hgmb
 ·refine (b1.trans (hV.mono b1.size)).grown gr ?_ (fun k hk => by have := (own.lt k hk).1; omega)
  have:=hV.size
  have:=b1.size
  omega
end
end Go.Proofs.YtghdiolnonejaaaGreatDoor
end
section
namespace Go.Proofs.YtghdiolnonejaaaGreatDoor
open Go Go.RowKit
theorem rd_len {k:Nat} (hk:k ≤ 8):∀ (n:Nat) (d:Pl.Dg),Pl.Valid d → d.n ≤ n → (rdM k d).length ≤ 9 * d.n := by
 intro n
 induction n with
 | zero =>
   intro d hd hn
   cases hb:srB k d with
   | false => rw [(rd_no hb).2]; simp
   | true => have := sr_less hd hb; omega
 | succ n ih =>
   intro d hd hn
   cases hb:srB k d with
   | false => rw [(rd_no hb).2]; simp
   | true =>
     obtain ⟨v,e,r,pl,pk,_⟩:=sr_is hd hb
     have hl:=sr_less hd hb
     have h1:=ih _ (dn_all v).1 (by omega)
     have h2:=(dn_all v).2.1
     rw [(rd_yes hd hb).2,List.length_append,List.length_append]
     omega
theorem red_len {d:Pl.Dg} (hd:Pl.Valid d) {k:Nat} (hk:k ≤ 8):(redM k d).length ≤ 9 * d.n := by
 have h1:=rd_len hk _ (dnD d) (dn_all hd).1 (Nat.le_refl _)
 have h2:=(dn_all hd).2.1
 unfold redM
 rw [List.length_append]
 omega
theorem rd_end {k:Nat}:∀ (n:Nat) (d:Pl.Dg),Pl.Valid d → d.n ≤ n → remL d = [] → Pl.Valid (rdD k d) ∧ remL (rdD k d) = [] ∧ srB k (rdD k d) = false ∧ (rdD k d).n ≤ d.n ∧ Lds d (rdM k d) (rdD k d) := by
 intro n
 induction n with
 | zero =>
   intro d hd hn hr
   cases hb:srB k d with
   | false => rw [(rd_no hb).1,(rd_no hb).2]; exact ⟨hd,hr,hb,Nat.le_refl _,.nil _⟩
   | true => have := sr_less hd hb; omega
 | succ n ih =>
   intro d hd hn hr
   cases hb:srB k d with
   | false => rw [(rd_no hb).1,(rd_no hb).2]; exact ⟨hd,hr,hb,Nat.le_refl _,.nil _⟩
   | true =>
     obtain ⟨v,_,r,pl,pk,hL⟩:=sr_is hd hb
     have hl:=sr_less hd hb
     obtain ⟨u1,u2,u3,u4,u5⟩:=dn_all v
     obtain ⟨i1,i2,i3,i4,i5⟩:=ih _ u1 (by omega) u3
     rw [(rd_yes hd hb).1,(rd_yes hd hb).2]
     exact ⟨i1,i2,i3,by omega,hL.app (u5.app i5)⟩
theorem red_end {d:Pl.Dg} (hd:Pl.Valid d) (k:Nat):Pl.Valid (redD k d) ∧ remL (redD k d) = [] ∧ srB k (redD k d) = false ∧ (redD k d).n ≤ (dnD d).n ∧ Lds d (redM k d) (redD k d) := by
 obtain ⟨u1,u2,u3,u4,u5⟩:=dn_all hd
 obtain ⟨i1,i2,i3,i4,i5⟩:=rd_end (k := k) _ _ u1 (Nat.le_refl _) u3
 exact ⟨i1,i2,i3,i4,u5.app i5⟩
theorem red_again {d:Pl.Dg} (hd:Pl.Valid d) (k:Nat):redD k (redD k d) = redD k d ∧ redM k (redD k d) = [] := by
 obtain ⟨_,h2,h3,_,_⟩:=red_end hd k
 unfold redD redM at *
 rw [(dn_stop h2).1,(dn_stop h2).2,(rd_no h3).1,(rd_no h3).2]
 exact ⟨rfl,rfl⟩
theorem sr_zero {d:Pl.Dg} (hd:Pl.Valid d) (h:remL d = []):srB 0 d = false := by
 cases hb:srB 0 d with
 | false => rfl
 | true =>
   obtain ⟨v,_,r,pl,pk,hL⟩:=sr_is hd hb
   have e:srP 0 d = []:=List.eq_nil_of_length_eq_zero (by omega)
   rw [e] at hL
   cases hL
   exact absurd h r
theorem red_zero {d:Pl.Dg} (hd:Pl.Valid d):redD 0 d = dnD d ∧ redM 0 d = dnM d := by
 obtain ⟨u1,u2,u3,u4,u5⟩:=dn_all hd
 have h:=sr_zero u1 u3
 unfold redD redM
 rw [(rd_no h).1,(rd_no h).2,List.append_nil]
 exact ⟨rfl,rfl⟩
end Go.Proofs.YtghdiolnonejaaaGreatDoor
end
section
namespace Go.Proofs.YtghdiolnonejaaaGreatDoor
open Go Go.RowKit
theorem gt_of {W : World} {t1 t2 : String × DataW Unit} (hL : laidMet Tryz.prog [t1, t2, ("internal/strconv.uint64pow10", Rows.laid_internal_strconv_uint64pow10)] W) : GT W :=
 Lib.tabIs_of_head (g := 0) (t := 175) (e := 167) (n := 20) (by kernel_rfl) (by kernel_rfl) (by kernel_rfl) (by kernel_rfl) (by kernel_rfl) (by kernel_rfl) (rest := _) hL.tail.tail
end Go.Proofs.YtghdiolnonejaaaGreatDoor
end
