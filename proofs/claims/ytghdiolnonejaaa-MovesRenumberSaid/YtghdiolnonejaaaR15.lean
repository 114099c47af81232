/-
 The texts Vk, Vl, Vn, Vp, Vq, Vr, Ja, Jb.
-/
import Derived.Test.YtghdiolnonejaaaR12
import Derived.Test.YtghdiolnonejaaaR14
set_option linter.unusedVariables false
set_option linter.unusedSimpArgs false
section
namespace Go.Proofs.Ytghdiolnonejaaa
open Go Go.RowKit
attribute [local go_sem ↓] Go.wp_at_zero Go.wp_at_succ
structure SI (base:Nat) (w:World) (A:Option Addr) (n c:Nat) (cs:List Value) (ps:List Pl.Pc) (W:World):Prop where
 own:W.ownsRow base 116 3 (.slice A n c) n cs
 pv:PcsV W cs ps
 len:ps.length = n
 bel:Below base w W
 big:base ≤ W.heap.size
theorem SI.below {base:Nat} {w W W':World} {A:Option Addr} {n c:Nat} {cs:List Value} {ps:List Pl.Pc} (h:SI base w A n c cs ps W) (hb:Below W.heap.size W W'):SI base w A n c cs ps W' :=
 ⟨own_below h.own hb,h.pv.map (fun p => p.below hb),h.len,h.bel.trans (hb.mono h.big),Nat.le_trans h.big hb.size⟩
theorem own_free {W:World} {base s g n c:Nat} {e:TypeId} {xs:List Value} (h:W.ownsRow base e s (.slice (some ⟨g,0,none⟩) n c) n xs):∀ o,W.frozen? ⟨g,o,none⟩ = false := by
 rcases h.2 with ⟨h1,_⟩ | ⟨g',cap,cur,h1,_,h3,_⟩
 ·cases h1
 ·injection h1 with h1
  injection h1 with h1
  injection h1 with h1
  subst h1
  exact Row.free (t := e) (vs := cur.toList) (show W.heap[g]? = _ by rw [h3])
theorem own_setIn {W:World} {base s g n c k:Nat} {e:TypeId} {xs:List Value} (h:W.ownsRow base e s (.slice (some ⟨g,0,none⟩) n c) n xs) (v:Value):(W.setCell ⟨g,k,none⟩ v).ownsRow base e s (.slice (some ⟨g,0,none⟩) n c) n (xs.set k v) := by
 refine ⟨by rw [List.length_set]; exact h.1,?_⟩
 rcases h.2 with ⟨h1,_⟩ | ⟨g',cap,cur,h1,h2,h3,h4,h5,h6,h7⟩
 ·cases h1
 ·injection h1 with h1 h1b h1c
  injection h1 with h1
  injection h1 with h1
  subst h1
  have hr:Row W g e cur.toList:=by show W.heap[g]? = _; rw [h3]
  have hs:=hr.set k v
  refine .inr ⟨g,cap,(cur.toList.set k v).toArray,by rw [h1c],h2,hs,h4,h5,by simp; exact h6,?_⟩
  simp only [List.toList_toArray]
  rw [List.take_set,h7]
def PcSz (p:Pl.Pc):Prop := p.order.length ≤ 64 ∧ p.code.length = 5 * p.order.length
theorem own_rowE {W:World} {base s g n c:Nat} {e:TypeId} {xs:List Value} (h:W.ownsRow base e s (.slice (some ⟨g,0,none⟩) n c) n xs):base ≤ g ∧ ∃ us,Row W g e us := by
 rcases h.2 with ⟨h1,_⟩ | ⟨g',cap,cur,h1,h2,h3,_⟩
 ·cases h1
 ·injection h1 with h1
  injection h1 with h1
  injection h1 with h1
  subst h1
  exact ⟨h2,cur.toList,by show W.heap[g]? = _; rw [h3]⟩
theorem PcV.store3 {W:World} {vC vO:Value} {x:Int} {p:Pl.Pc} (h:PcV W vC vO x p) {g:Nat} {us:List Value} (hr:Row W g 116 us) (a b c:Nat) (y0 y1 y2:Value) :
 PcV (((W.setCell ⟨g,a,none⟩ y0).setCell ⟨g,b,none⟩ y1).setCell ⟨g,c,none⟩ y2) vC vO x p :=
 ((h.store hr (by decide) y0).store (hr.set a y0) (by decide) y1).store ((hr.set a y0).set b y1) (by decide) y2
theorem SI.set3 {base g n c:Nat} {w W:World} {cs:List Value} {ps:List Pl.Pc} (h:SI base w (some ⟨g,0,none⟩) n c cs ps W) {vC vO:Value} {x:Int} {p:Pl.Pc} (hp:PcV W vC vO x p) {j:Nat} (hj:j < ps.length) :
 SI base w (some ⟨g,0,none⟩) n c (((cs.set (j * 3) vC).set (j * 3 + 1) vO).set (j * 3 + 2) (.int .i64 x)) (ps.set j p) (((W.setCell ⟨g,j * 3,none⟩ vC).setCell ⟨g,j * 3 + 1,none⟩ vO).setCell ⟨g,j * 3 + 2,none⟩ (.int .i64 x)) := by
 obtain ⟨hb,us,hr⟩:=own_rowE h.own
 exact ⟨own_setIn (own_setIn (own_setIn h.own _) _) _,PcsV.put (hp.store3 hr _ _ _ _ _ _) (h.pv.map (fun q => q.store3 hr _ _ _ _ _ _)) j hj,by rw [List.length_set]; exact h.len,((h.bel.setCell (by show _ ≤ g; exact hb) _).setCell (by show _ ≤ g; exact hb) _).setCell (by show _ ≤ g; exact hb) _,by simpa using h.big⟩
set_option maxRecDepth 100000 in
set_option maxHeartbeats 8000000 in
theorem isort_any (base:Nat) (A:Option Addr) (n c:Nat) (cs:List Value) (qs:List Pl.Pc) (w:World) (h0:SI base w A n c cs qs w) (hsz:∀ p,p ∈ qs → PcSz p) (hn:n ≤ 64) :
 Calls Try.prog 150 #[.slice A n c,.int .i64 0,.int .i64 (n:Int),.func (.func 140) #[] #[]] w fun e w' => (∃ v,e = .returned v) ∧ ∃ cs' ps',SI base w A n c cs' ps' w' ∧ ps'.Perm qs ∧ ps'.Pairwise Pl.leP := by
 have H0:=hide h0
 have HSZ:=hide hsz
 clear h0 hsz
 obtain ⟨N,hN1,hN2,hN3⟩:∃ N,n ≤ N ∧ 1 ≤ N ∧ N ≤ 64 := ⟨max n 1,by omega,by omega,by omega⟩
 go_enter Try.func150,Try.ntmps150
 go_wp2
 go_loopg [8,9] (N - 1) (fun g s8 s9 wx => ∃ (i:Nat) (cs:List Value) (ps:List Pl.Pc),i + g = N ∧ s8 = .int .i64 (i:Int) ∧ SI base w A n c cs ps wx ∧ ps.Perm qs ∧ (ps.take i).Pairwise Pl.leP)
 case atStart => exact ⟨1,cs,qs,by omega,rfl,H0.out,List.Perm.refl _,by
  cases qs with
  | nil => simp
  | cons a l => simp⟩
 case round =>
  clear H0
  obtain ⟨i,cs,ps,hig,rfl,hk,hpm,hso⟩:=hrel
  have HIG:=hide hig
  have K0:=hide hk
  have HPM:=hide hpm
  have HSO:=hide hso
  have hin:i ≤ N:=by omega
  clear hk hpm hso
  obtain ⟨go,rfl⟩:∃ go,go = gk := ⟨_,rfl⟩
  by_cases hi:i < n
  ·have hii:(i:Int) < (n:Int):=by omega
   have I0:=hide (Pl.Ins.start HPM.out HSO.out (by rw [K0.out.len]; exact hi))
   clear hig
   go_wp2_with fail
   go_loopg [9] i (fun g s9 wx => ∃ (j:Nat) (cs:List Value) (ps:List Pl.Pc),j = g ∧ s9 = .int .i64 (j:Int) ∧ SI base w A n c cs ps wx ∧ Pl.Ins qs ps i j)
   case atStart => exact ⟨i,_,_,rfl,rfl,K0.out,I0.out⟩
   case round =>
    clear I0 K0 HSO HPM
    obtain ⟨j,cs,ps,hjg,rfl,hk,hins⟩:=hrel
    have HJG:=hide hjg
    have K0:=hide hk
    have HI:=hide hins
    clear hk hins hjg
    have hnA:0 < n:=by omega
    obtain ⟨g,cap,hA,hcap,hgl⟩:=World.ownsRow.form K0.out.own hnA
    injection hA with hA _ hcc
    subst hA
    subst hcc
    by_cases hj0:j = 0
    ·subst hj0
     have HST:=hide (HI.out.stop (.inl rfl))
     have hz:¬ ((0:Int) < ((0:Nat):Int)):=by omega
     go_upto_region 4 with fail
     go_quiet (fail)
     go_wp2
     go_roundg (go - 1)
     case measure => have := HIG.out; omega
     case rel => exact ⟨i + 1,cs,ps,by have := HIG.out; omega,by go_num,K0.out.below (below_drewN (Below.refl _ _) _),HI.out.perm,HST.out⟩
    ·obtain ⟨k,rfl⟩:∃ k,j = k + 1 := ⟨j - 1,by omega⟩
     clear hj0
     obtain ⟨pre,x0,mid,suf,he1,he2,he3,_,_⟩:=HI.out.ex
     have hlen:k + 1 < ps.length:=by rw [he1]; simp; omega
     have hkn:k + 1 < n:=by rw [← K0.out.len]; exact hlen
     clear he1 he2 he3
     obtain ⟨x,hx⟩:∃ x,ps[k + 1]? = some x := ⟨_,List.getElem?_eq_getElem hlen⟩
     obtain ⟨y,hy⟩:∃ y,ps[k]? = some y := ⟨_,List.getElem?_eq_getElem (by omega)⟩
     have hsx:=HSZ.out x (HI.out.perm.mem_iff.1 (List.mem_of_getElem? hx))
     have hsy:=HSZ.out y (HI.out.perm.mem_iff.1 (List.mem_of_getElem? hy))
     obtain ⟨a0,a1,a2,hpx,ca0,ca1,ca2⟩:=K0.out.pv.at_ hx
     obtain ⟨b0,b1,b2,hpy,cb0,cb1,cb2⟩:=K0.out.pv.at_ hy
     have HX:=hide hx
     have HY:=hide hy
     have HPX:=hide hpx
     have HPY:=hide hpy
     have CA:=fun (t:Nat) (u:Value) (ht:(k + 1) * 3 + t < n * 3) (e:cs[(k + 1) * 3 + t]? = some u) => (show wr.cell? ⟨g,(k + 1) * 3 + t,none⟩ = some u by rw [World.ownsRow.cellAt K0.out.own _ ht]; exact e)
     have CB:=fun (t:Nat) (u:Value) (ht:k * 3 + t < n * 3) (e:cs[k * 3 + t]? = some u) => (show wr.cell? ⟨g,k * 3 + t,none⟩ = some u by rw [World.ownsRow.cellAt K0.out.own _ ht]; exact e)
     have x0:=CA 0 a0 (by omega) ca0
     have x1:=CA 1 a1 (by omega) ca1
     have x2:=CA 2 _ (by omega) ca2
     have y0:=CB 0 b0 (by omega) cb0
     have y1:=CB 1 b1 (by omega) cb1
     have y2:=CB 2 _ (by omega) cb2
     rw [Nat.add_zero] at x0 y0
     clear CA CB ca0 ca1 ca2 cb0 cb1 cb2 hx hy
     obtain ⟨v,hv⟩:∃ v,v = cmpP x y := ⟨_,rfl⟩
     have HV:=hide hv
     have HCM:=hide (fun (p:Cls (fun W => Below wr.heap.size wr W)) => calls_cls (C := (fun W => Below wr.heap.size wr W)) (cmp_pieces a0 a1 b0 b1 a2 b2 x y p.w (HPX.out.below p.ok) (HPY.out.below p.ok) hsx.1 hsy.1 (by rw [hsx.2]; have := hsx.1; omega) (by rw [hsy.2]; have := hsy.1; omega)) (fun e w' h => ⟨h.1,p.ok.trans (h.2.mono p.ok.size)⟩))
     have HKL:=hide (cmp_kle hsx.2 hsy.2)
     rw [← hv] at HCM HKL
     clear hpx hpy hsx hsy hv
     go_upto_region 4 with fail
     by_cases hv0:v < 0
     ·have hvb:decide (v < 0) = true:=decide_eq_true hv0
      have hkp:(0:Int) < (k:Int) + 1:=by omega
      have c0:∀ p:Cls (fun W => Below wr.heap.size wr W),p.w.cell? ⟨g,(k + 1) * 3,none⟩ = some a0:=fun p => cell_below x0 p.ok
      have c1:∀ p:Cls (fun W => Below wr.heap.size wr W),p.w.cell? ⟨g,(k + 1) * 3 + 1,none⟩ = some a1:=fun p => cell_below x1 p.ok
      have c2:∀ p:Cls (fun W => Below wr.heap.size wr W),p.w.cell? ⟨g,(k + 1) * 3 + 2,none⟩ = some (.int .i64 a2):=fun p => cell_below x2 p.ok
      have c3:∀ p:Cls (fun W => Below wr.heap.size wr W),p.w.cell? ⟨g,k * 3,none⟩ = some b0:=fun p => cell_below y0 p.ok
      have c4:∀ p:Cls (fun W => Below wr.heap.size wr W),p.w.cell? ⟨g,k * 3 + 1,none⟩ = some b1:=fun p => cell_below y1 p.ok
      have c5:∀ p:Cls (fun W => Below wr.heap.size wr W),p.w.cell? ⟨g,k * 3 + 2,none⟩ = some (.int .i64 b2):=fun p => cell_below y2 p.ok
      refine wp_region_cls (fun W => Below wr.heap.size wr W) (by kernel_rfl) (by kernel_rfl) (Below.refl wr.heap.size wr).drew (fun hne => ?_)
      repeat (go_big_quiet_step (((go_at_call 140; exact HCM.out _))))
      refine wpQuiet_nil ?_
      rintro _ ⟨p,rfl⟩
      have K1:=hide (K0.out.below p.ok)
      have HPX1:=hide (HPX.out.below p.ok)
      have HPY1:=hide (HPY.out.below p.ok)
      have q0:=c0 p
      have q1:=c1 p
      have q2:=c2 p
      have q3:=c3 p
      have q4:=c4 p
      have q5:=c5 p
      have fz:∀ o,p.w.frozen? ⟨g,o,none⟩ = false:=own_free K1.out.own
      clear c0 c1 c2 c3 c4 c5 x0 x1 x2 y0 y1 y2 HCM K0 HPX HPY
      obtain ⟨D0,e0,h0,h0b⟩:=HPX1.out.c
      obtain ⟨D1,e1,h1,h1b⟩:=HPX1.out.o
      obtain ⟨E0,i0,h2,h2b⟩:=HPY1.out.c
      obtain ⟨E1,i1,h3,h3b⟩:=HPY1.out.o
      subst h0
      subst h1
      subst h2
      subst h3
      clear h0b h1b h2b h3b
      obtain ⟨V,hV⟩:∃ V,V = p.w := ⟨_,rfl⟩
      rw [← hV] at K1 HPX1 HPY1 q0 q1 q2 q3 q4 q5 fz ⊢
      have INS:=hide (HI.out.step HX.out HY.out (HKL.out.1 hv0))
      clear hV HI hv0 hvb
      go_upto_region 6 with fail
      go_region
      all_goals (go_wp2_with fail)
      go_roundg (gk - 1)
      case measure => have := HJG.out; omega
      case rel =>
       obtain ⟨_,us,hr⟩:=own_rowE K1.out.own
       have F1:=K1.out.set3 HPY1.out hlen
       have F2:=F1.set3 (HPX1.out.store3 hr _ _ _ _ _ _) (j := k) (by rw [List.length_set]; omega)
       exact ⟨k,_,_,by have := HJG.out; omega,rfl,F2.below (Below.refl _ _).drew,INS.out⟩
     ·have hvb:decide (v < 0) = false:=decide_eq_false hv0
      have hkp:(0:Int) < (k:Int) + 1:=by omega
      have HST:=hide (HI.out.stop (.inr ⟨x,y,HX.out,HY.out,by
       rcases Classical.em (Pl.leP y x) with h | h
       ·exact h
       ·exact absurd (HKL.out.2 h) hv0⟩))
      have c0:∀ p:Cls (fun W => Below wr.heap.size wr W),p.w.cell? ⟨g,(k + 1) * 3,none⟩ = some a0:=fun p => cell_below x0 p.ok
      have c1:∀ p:Cls (fun W => Below wr.heap.size wr W),p.w.cell? ⟨g,(k + 1) * 3 + 1,none⟩ = some a1:=fun p => cell_below x1 p.ok
      have c2:∀ p:Cls (fun W => Below wr.heap.size wr W),p.w.cell? ⟨g,(k + 1) * 3 + 2,none⟩ = some (.int .i64 a2):=fun p => cell_below x2 p.ok
      have c3:∀ p:Cls (fun W => Below wr.heap.size wr W),p.w.cell? ⟨g,k * 3,none⟩ = some b0:=fun p => cell_below y0 p.ok
      have c4:∀ p:Cls (fun W => Below wr.heap.size wr W),p.w.cell? ⟨g,k * 3 + 1,none⟩ = some b1:=fun p => cell_below y1 p.ok
      have c5:∀ p:Cls (fun W => Below wr.heap.size wr W),p.w.cell? ⟨g,k * 3 + 2,none⟩ = some (.int .i64 b2):=fun p => cell_below y2 p.ok
      refine wp_region_cls (fun W => Below wr.heap.size wr W) (by kernel_rfl) (by kernel_rfl) (Below.refl wr.heap.size wr).drew (fun hne => ?_)
      repeat (go_big_quiet_step (((go_at_call 140; exact HCM.out _))))
      refine wpQuiet_nil ?_
      rintro _ ⟨p,rfl⟩
      clear c0 c1 c2 c3 c4 c5 x0 x1 x2 y0 y1 y2 HCM
      go_wp2
      go_roundg (go - 1)
      case measure => have := HIG.out; omega
      case rel => exact ⟨i + 1,cs,ps,by have := HIG.out; omega,by go_num,K0.out.below p.ok,HI.out.perm,HST.out⟩
  ·have hii:¬ ((i:Int) < (n:Int)):=by omega
   have HE:=hide (show ps.Pairwise Pl.leP by
    have h:=HSO.out
    rw [List.take_of_length_le (by rw [K0.out.len]; omega)] at h
    exact h)
   clear hig
   go_wp2
   exact bodyPost_end (by simp [results,Try.results150,go_sem]; rfl) rfl ⟨⟨_,rfl⟩,_,_,K0.out,HPM.out,HE.out⟩
end Go.Proofs.Ytghdiolnonejaaa
end
section
namespace Go.Proofs.Ytghdiolnonejaaa
open Go Go.RowKit
theorem lst5_ok {d:Pl.Dg} (hd:Pl.Wf d) {ls:List Int} {P:Nat} (hL:Pl.LB d ls P) (hp:∀ a,a < d.n → 0 ≤ Pl.pv ls a) {i:Nat} {p:Pl.Pc} (h:Pl.Lst5 d (Gl ls d.n i) p):Pl.PcOk d p ∧ ∀ c,c ∈ p.order ↔ c < d.n ∧ Pl.pv ls c = (i:Int) := by
 obtain ⟨r,h1,h2,h3⟩:=h.is
 obtain ⟨hr,hri⟩:=mem_Gl.1 h1
 have key:∀ c,c < d.n → (Pl.pv ls c = (i:Int) ↔ Pl.Comp d r c):=fun c hc => by
  constructor
  ·intro e
   exact hL.conn r c hr hc (hp r hr) (by rw [hri,e])
  ·intro e
   rw [hL.same r c hr e (hp r hr),hri]
 refine ⟨h.ok hd hr (fun c => ?_),fun c => ?_⟩
 ·rw [mem_Gl]
  constructor
  ·rintro ⟨hc,e⟩
   exact ⟨hc,(key c hc).1 e⟩
  ·rintro ⟨hc,e⟩
   exact ⟨hc,(key c hc).2 e⟩
 ·rw [h3,Pl.ord_mem hd hr]
  constructor
  ·intro e
   have hc:c < d.n:=((Pl.ord_ok hd hr).mem c ((Pl.ord_mem hd hr c).2 e)).1
   exact ⟨hc,(key c hc).2 e⟩
  ·rintro ⟨hc,e⟩
   exact (key c hc).1 e
theorem pcs_groups {d:Pl.Dg} (hd:Pl.Wf d) {ls:List Int} {P:Nat} (hL:Pl.LB d ls P) (hp:∀ a,a < d.n → 0 ≤ Pl.pv ls a) {ps:List Pl.Pc} (hlen:ps.length = P) (his:∀ (i:Nat) (p:Pl.Pc),ps[i]? = some p → Pl.Lst5 d (Gl ls d.n i) p):Pl.Pcs d ps := by
 have hok:∀ p,p ∈ ps → Pl.PcOk d p:=fun p hm => by
  obtain ⟨i,hi,rfl⟩:=List.getElem_of_mem hm
  exact (lst5_ok hd hL hp (his i _ (List.getElem?_eq_getElem hi))).1
 refine ⟨hok,?_,fun c hc => ?_⟩
 ·refine List.pairwise_flatMap.2 ⟨fun p hm => ?_,?_⟩
  ·obtain ⟨r,hr,_,e,_⟩:=hok p hm
   rw [e]; exact (Pl.ord_ok hd hr).nd
  ·rw [List.pairwise_iff_getElem]
   intro i j hi hj hij x hx y hy e
   subst e
   have h1:=((lst5_ok hd hL hp (his i _ (List.getElem?_eq_getElem hi))).2 x).1 hx
   have h2:=((lst5_ok hd hL hp (his j _ (List.getElem?_eq_getElem hj))).2 x).1 hy
   have:=h1.2.symm.trans h2.2
   omega
 ·have h0:=hp c hc
  have h1:=(hL.lo c hc).2
  obtain ⟨i,hi⟩:∃ i:Nat,Pl.pv ls c = (i:Int) := ⟨(Pl.pv ls c).toNat,by omega⟩
  have hiP:i < ps.length:=by rw [hlen]; omega
  exact ⟨ps[i],List.getElem_mem hiP,((lst5_ok hd hL hp (his i _ (List.getElem?_eq_getElem hiP))).2 c).2 ⟨hc,hi⟩⟩
theorem pcs_perm {d:Pl.Dg} {ps qs:List Pl.Pc} (h:Pl.Pcs d ps) (hp:qs.Perm ps):Pl.Pcs d qs :=
 ⟨fun p hq => h.ok p (hp.mem_iff.1 hq), (hp.flatMap_right Pl.Pc.order).nodup_iff.2 h.nd, fun c hc => by
   obtain ⟨p,h1,h2⟩:=h.all c hc
   exact ⟨p,hp.mem_iff.2 h1,h2⟩⟩
theorem pcs_sz {d:Pl.Dg} (hd:Pl.Wf d) {ps:List Pl.Pc} (h:Pl.Pcs d ps):∀ p,p ∈ ps → PcSz p := fun p hm => by
 obtain ⟨r,hr,e1,e2,_⟩:=h.ok p hm
 refine ⟨?_,(h.ok p hm).len⟩
 have h1:=(Pl.ord_ok hd hr).nd
 have h2:∀ c,c ∈ Pl.ord d r → c < d.n:=fun c hc => ((Pl.ord_ok hd hr).mem c hc).1
 have:=hd.few
 rw [e2]
 have h3:=Pl.nodup_len h1 h2
 omega
end Go.Proofs.Ytghdiolnonejaaa
end
section
namespace Go.Proofs.Ytghdiolnonejaaa
open Go Go.RowKit
attribute [local go_sem ↓] Go.wp_at_zero Go.wp_at_succ
set_option maxRecDepth 100000 in
set_option maxHeartbeats 2000000 in
theorem stable_any (base:Nat) (A:Option Addr) (n c:Nat) (cs:List Value) (qs:List Pl.Pc) (w:World) (h0:SI base w A n c cs qs w) (hsz:∀ p,p ∈ qs → PcSz p) (hn:n < 20) :
 Calls Try.prog 148 #[.slice A n c,.int .i64 (n:Int),.func (.func 140) #[] #[]] w fun e w' => (∃ v,e = .returned v) ∧ ∃ cs' ps',SI base w A n c cs' ps' w' ∧ ps'.Perm qs ∧ ps'.Pairwise Pl.leP := by
 have H0:=hide h0
 have HSZ:=hide hsz
 have hn1:¬ ((20:Int) ≤ (n:Int)):=by omega
 have hn2:¬ ((20:Int) < (n:Int)):=by omega
 clear h0 hsz
 go_enter Try.func148,Try.ntmps148
 go_wp2_with fail
 go_loopg [7,8] 0 (fun g s7 s8 wx => s7 = .int .i64 0 ∧ s8 = .int .i64 20 ∧ wx = w)
 case atStart => exact ⟨rfl,rfl,rfl⟩
 case round =>
  obtain ⟨rfl,rfl,rfl⟩:=hrel
  go_wp2_with fail
  refine (isort_any base A n c cs qs _ H0.out HSZ.out (by omega)).mono ?_
  rintro e w1 ⟨⟨v,rfl⟩,cs',ps',hS,hP,hW⟩
  have HR:=hide (show ∃ cs' ps',SI base wr A n c cs' ps' w1 ∧ ps'.Perm qs ∧ ps'.Pairwise Pl.leP from ⟨cs',ps',hS,hP,hW⟩)
  clear hS hP hW
  go_wp2_with fail
  go_loopg [6,7,8] 0 (fun g s6 s7 s8 wx => s6 = .int .i64 20 ∧ wx = w1)
  case atStart => exact ⟨rfl,rfl⟩
  case round =>
   obtain ⟨rfl,rfl⟩:=hrel
   go_wp2
   exact bodyPost_end (by simp [results,Try.results148,go_sem]; rfl) rfl ⟨⟨_,rfl⟩,HR.out⟩
set_option maxRecDepth 100000 in
set_option maxHeartbeats 2000000 in
theorem isort_none (A:Option Addr) (n c:Nat) (w:World) (hn:n ≤ 64) :
 Calls Try.prog 150 #[.slice A n c,.int .i64 (n:Int),.int .i64 (n:Int),.func (.func 140) #[] #[]] w fun e w' => (∃ v,e = .returned v) ∧ w' = w := by
 have h1:¬ ((n:Int) + 1 < (n:Int)):=by omega
 go_enter Try.func150,Try.ntmps150
 go_wp2
 go_loopg [8,9] 0 (fun g s8 s9 wx => s8 = .int .i64 ((n:Int) + 1) ∧ wx = w)
 case atStart => exact ⟨rfl,rfl⟩
 case round =>
  obtain ⟨rfl,rfl⟩:=hrel
  go_wp2
  exact bodyPost_end (by simp [results,Try.results150,go_sem]; rfl) rfl ⟨⟨_,rfl⟩,rfl⟩
set_option maxRecDepth 100000 in
set_option maxHeartbeats 2000000 in
theorem stable_20 (base:Nat) (A:Option Addr) (c:Nat) (cs:List Value) (qs:List Pl.Pc) (w:World) (h0:SI base w A 20 c cs qs w) (hsz:∀ p,p ∈ qs → PcSz p) :
 Calls Try.prog 148 #[.slice A 20 c,.int .i64 20,.func (.func 140) #[] #[]] w fun e w' => (∃ v,e = .returned v) ∧ ∃ cs' ps',SI base w A 20 c cs' ps' w' ∧ ps'.Perm qs ∧ ps'.Pairwise Pl.leP := by
 have H0:=hide h0
 have HSZ:=hide hsz
 clear h0 hsz
 go_enter Try.func148,Try.ntmps148
 go_wp2_with fail
 go_loopg [7,8] 1 (fun g s7 s8 wx => (g = 1 ∧ s7 = .int .i64 0 ∧ s8 = .int .i64 20 ∧ wx = w) ∨ (g = 0 ∧ s7 = .int .i64 20 ∧ s8 = .int .i64 40 ∧ ∃ cs' ps',SI base w A 20 c cs' ps' wx ∧ ps'.Perm qs ∧ ps'.Pairwise Pl.leP))
 case atStart => exact .inl ⟨rfl,rfl,rfl,rfl⟩
 case round =>
  obtain ⟨go,rfl⟩:∃ go,go = gk := ⟨_,rfl⟩
  rcases hrel with ⟨hg,rfl,rfl,rfl⟩ | ⟨hg,rfl,rfl,hR⟩
  ·have HG:=hide hg
   clear hg
   go_wp2_with fail
   refine (isort_any base A 20 c cs qs _ H0.out HSZ.out (by omega)).mono ?_
   rintro e w1 ⟨⟨v,rfl⟩,cs',ps',hS,hP,hW⟩
   have HR:=hide (show ∃ cs' ps',SI base wr A 20 c cs' ps' w1 ∧ ps'.Perm qs ∧ ps'.Pairwise Pl.leP from ⟨cs',ps',hS,hP,hW⟩)
   clear hS hP hW
   go_wp2_with fail
   go_roundg 0
   case measure => have := HG.out; omega
   case rel => exact .inr ⟨rfl,rfl,rfl,HR.out⟩
  ·have HR:=hide hR
   clear hR hg
   go_wp2_with fail
   refine (isort_none A 20 c _ (by omega)).mono ?_
   rintro e w1 ⟨⟨v,rfl⟩,rfl⟩
   go_wp2_with fail
   go_loopg [6,7,8] 0 (fun g s6 s7 s8 wx => s6 = .int .i64 20 ∧ wx = w1)
   case atStart => exact ⟨rfl,rfl⟩
   case round =>
    obtain ⟨rfl,rfl⟩:=hrel
    go_wp2
    exact bodyPost_end (by simp [results,Try.results148,go_sem]; rfl) rfl ⟨⟨_,rfl⟩,HR.out⟩
set_option maxRecDepth 100000 in
set_option maxHeartbeats 2000000 in
theorem sort_any (base:Nat) (A:Option Addr) (n c:Nat) (cs:List Value) (qs:List Pl.Pc) (w:World) (h0:SI base w A n c cs qs w) (hsz:∀ p,p ∈ qs → PcSz p) (hn:n ≤ 20) :
 Calls Try.prog 139 #[.slice A n c,.func (.func 140) #[] #[]] w fun e w' => (∃ v,e = .returned v) ∧ ∃ cs' ps',SI base w A n c cs' ps' w' ∧ ps'.Perm qs ∧ ps'.Pairwise Pl.leP := by
 have H0:=hide h0
 have HSZ:=hide hsz
 clear h0 hsz
 go_enter Try.func139,Try.ntmps139
 go_wp2_with fail
 have hst:Calls Try.prog 148 #[.slice A n c,.int .i64 (n:Int),.func (.func 140) #[] #[]] w fun e w' => (∃ v,e = .returned v) ∧ ∃ cs' ps',SI base w A n c cs' ps' w' ∧ ps'.Perm qs ∧ ps'.Pairwise Pl.leP:=by
  rcases Nat.lt_or_ge n 20 with h | h
  ·exact stable_any base A n c cs qs _ H0.out HSZ.out h
  ·obtain rfl:n = 20 := by omega
   exact stable_20 base A c cs qs _ H0.out HSZ.out
 refine hst.mono ?_
 clear hst
 rintro e w1 ⟨⟨v,rfl⟩,cs',ps',hS,hP,hW⟩
 have HR:=hide (show ∃ cs' ps',SI base w A n c cs' ps' w1 ∧ ps'.Perm qs ∧ ps'.Pairwise Pl.leP from ⟨cs',ps',hS,hP,hW⟩)
 clear hS hP hW
 go_wp2
 exact bodyPost_end (by simp [results,Try.results139,go_sem]; rfl) rfl ⟨⟨_,rfl⟩,HR.out⟩
end Go.Proofs.Ytghdiolnonejaaa
end
section
namespace Go.Proofs.Ytghdiolnonejaaa
open Go Go.RowKit
attribute [local go_sem ↓] Go.wp_at_zero Go.wp_at_succ
set_option maxRecDepth 100000 in
set_option maxHeartbeats 8000000 in
theorem pieces_any (d:Pl.Dg) (hd:Pl.Valid d) (A B:Option Addr) (cp cq m:Nat) (w:World) (hm:m = 4 * d.n) (hg:DgAt w A B d) (h20:d.n ≤ 20) :
 Calls Try.prog 101 #[.agg #[.slice A d.n cp,.slice B m cq,.int .i64 d.lp]] w fun e w' => ∃ (A':Option Addr) (n c:Nat) (cs:List Value) (ps:List Pl.Pc),e = .returned (.slice A' n c) ∧ w'.ownsRow (w.heap.size + 1) 116 3 (.slice A' n c) n cs ∧ PcsV w' cs ps ∧ ps.length = n ∧ n ≤ d.n ∧ Pl.Pcs d ps ∧ Pl.Srt ps ∧ Below w.heap.size w w' := by
 have hn:=hd.wf.few
 have HM:=hide hm
 have HG:=hide hg
 have HD:=hide hd
 clear hm hg
 have X0:=hide (row_at (W := w) (g := w.heap.size) (t := 24) (vs := [.slice A d.n cp,.slice B m cq,.int .i64 d.lp]) rfl)
 have B0:=hide (show Below w.heap.size w (w.alloc (.cells #[.slice A d.n cp,.slice B m cq,.int .i64 d.lp] 24)) from (Below.refl _ _).alloc (Nat.le_refl _) _)
 go_enter Try.func101,Try.ntmps101
 obtain ⟨d0,d1,d2,d3⟩:=box3 X0.out
 go_wp2_with fail
 refine (graph_any d hd A B cp cq m _ HM.out (HG.out.keep B0.out)).mono ?_
 rintro e w1 ⟨AG,cG,P,ls,vs,rfl,hP,hLB,hpos,hrow,hvs,hb1,_⟩
 have HLB:=hide hLB
 have HPOS:=hide hpos
 have L0:=hide (show PL w d ls P AG vs [.slice A d.n cp,.slice B m cq,.int .i64 d.lp] 0 (.slice none 0 0) [] [] w1 from
  ⟨X0.out.below hb1,⟨hrow,hvs⟩,World.ownsRow_nil _ _ _ _,trivial,rfl,fun i p h => by simp at h,B0.out.trans (hb1.mono B0.out.size)⟩)
 clear hLB hpos hrow hvs hb1 X0 B0 d0 d1 d2 d3
 go_wp2_with fail
 go_loopg [3,5,6,8,9,10,11,15,34,40] P (fun g s3 s5 s6 s8 s9 s10 s11 s15 s34 s40 wx => ∃ (j:Nat) (cs:List Value) (ps:List Pl.Pc),j + g = P ∧ s15 = .int .i64 (j:Int) ∧ PL w d ls P AG vs [.slice A d.n cp,.slice B m cq,.int .i64 d.lp] j s3 cs ps wx)
 case atStart => exact ⟨0,_,_,by omega,rfl,L0.out⟩
 case round =>
  clear L0
  obtain ⟨j,cs,ps,hjg,rfl,hk⟩:=hrel
  have HJG:=hide hjg
  have K0:=hide hk
  have hjP:j ≤ P:=by omega
  clear hk
  obtain ⟨go,rfl⟩:∃ go,go = gk := ⟨_,rfl⟩
  by_cases hj:j < P
  ·have hji:(j:Int) < (P:Int):=by omega
   have j0:(0:Int) ≤ (j:Int):=by omega
   obtain ⟨v,hvj,AF,cF,rfl,hF⟩:=K0.out.gr.v.2 j _ (gl_at ls d.n hj)
   have hvl:=(List.getElem?_eq_some_iff.1 hvj).1
   obtain ⟨bG,oG,rfl,x1⟩:=RowAt.at_ K0.out.gr.r.row hj
   rw [(List.getElem?_eq_some_iff.1 hvj).2] at x1
   have HVJ:=hide hvj
   obtain ⟨l,hl⟩:∃ l,l = Gl ls d.n j := ⟨_,rfl⟩
   rw [← hl] at x1 hF
   obtain ⟨nl,hnl⟩:∃ n,n = l.length := ⟨_,rfl⟩
   have HNL:=hide hnl
   rw [← hnl] at x1
   have HLL:=hide hl
   have hnl64:nl ≤ 64:=by rw [hnl,hl]; have := Gl_len ls d.n j; omega
   obtain ⟨aLst,cL,rfl⟩:=owns_slice K0.out.own
   have hng:(Value.slice aLst j cL).ownBlock ≠ some wr.heap.size:=fun e => by have := (K0.out.own.lt _ e).2; omega
   have P0:=hide (show PI w d ls P (some ⟨bG,oG,none⟩) vs [.slice A d.n cp,.slice B m cq,.int .i64 d.lp] j (.slice aLst j cL) cs ps wr.heap.size 0 (.slice none 0 0) (.slice none 0 0) 0 (wr.alloc (.cells #[.slice none 0 0,.slice none 0 0,.int .i64 0] 116)) from
    ⟨K0.out.alloc _,row_at (vs := [.slice none 0 0,.slice none 0 0,.int .i64 0]) rfl,.inl ⟨rfl,rfl,rfl,rfl⟩,by have := K0.out.big; omega,hng⟩)
   have hlo:w.heap.size < wr.heap.size:=by have := K0.out.big; omega
   clear hvj hl hnl hF hjg hng
   obtain ⟨d0,d1,d2,d3⟩:=box3 K0.out.bx
   obtain ⟨g6,hg6⟩:∃ g,g = wr.heap.size := ⟨_,rfl⟩
   go_upto_region 6 with fail
   rw [← hg6] at P0 hlo ⊢
   clear hg6 d0 d1 d2 d3 x1 K0
   go_wp2_with fail
   go_loopg [8,9,10,11,21,34,40] nl (fun g s8 s9 s10 s11 s21 s34 s40 wx => ∃ (k:Nat) (vC vO:Value) (x:Int),k + g = nl ∧ s21 = .int .i64 (k:Int) ∧ PI w d ls P (some ⟨bG,oG,none⟩) vs [.slice A d.n cp,.slice B m cq,.int .i64 d.lp] j (.slice aLst j cL) cs ps g6 k vC vO x wx)
   case atStart => exact ⟨0,_,_,_,by omega,rfl,P0.out⟩
   case round =>
    clear P0
    obtain ⟨k,vC,vO,x,hkg,rfl,hk⟩:=hrel
    have HKG:=hide hkg
    have K0:=hide hk
    have hkn:k ≤ nl:=by omega
    clear hk
    obtain ⟨gi,rfl⟩:∃ gi,gi = gk := ⟨_,rfl⟩
    by_cases hk:k < nl
    ·have hki:(k:Int) < (nl:Int):=by omega
     have k0:(0:Int) ≤ (k:Int):=by omega
     obtain ⟨v',e',hF⟩:=K0.out.p.gr.v.2 j _ (gl_at ls d.n hj)
     rw [HVJ.out] at e'
     injection e' with e'
     subst e'
     have hF2:=hF.ints.2
     rw [← HLL.out,← HNL.out] at hF2
     obtain ⟨b8,o8,rfl,x8⟩:=nats_at hF2 hk
     obtain ⟨q,hq⟩:∃ q,q = l.getD k 0 := ⟨_,rfl⟩
     rw [← hq] at x8
     have hql:l[k]? = some q:=by rw [hq,List.getD_eq_getElem?_getD,List.getElem?_eq_getElem (by rw [← HNL.out]; exact hk)]; rfl
     have hqm:q ∈ Gl ls d.n j:=by rw [← HLL.out]; exact List.mem_of_getElem? hql
     have hqn:q < d.n:=(mem_Gl.1 hqm).1
     have HTK:=hide (show (Gl ls d.n j).take (k + 1) = (Gl ls d.n j).take k ++ [q] from Pl.take_one (by rw [← HLL.out]; exact hql))
     have hcc:=fun c (hc:c ∈ Gl ls d.n j) => gl_comp HLB.out HPOS.out hc hqm
     have hq0:(0:Int) ≤ (q:Int):=by omega
     have hbest:=K0.out.b.best HD.out.wf hqn hcc
     clear hF hF2 hq hql hqm hcc hkg
     obtain ⟨d0,d1,d2,d3⟩:=box3 K0.out.p.bx
     obtain ⟨f0,f1,f2,f3⟩:=box3 K0.out.r
     rcases hbest with ⟨hk0,hb⟩ | ⟨p,hpv,hl5,hx0,hxk,hb⟩
     ·have HB:=hide hb
      have hvn:vC = .slice none 0 0:=hb
      subst hvn
      have HK0:=hide hk0
      clear hb hk0
      go_wp2_with fail
      refine (number_any d HD.out.wf A B cp cq m q _ none _ HM.out (HG.out.keep K0.out.p.bel) hqn HB.out).mono ?_
      intro e w2 hres
      obtain ⟨vC',vO',rfl,own1,own2⟩:=hres.2.1 (by rw [Pl.vall_none]; omega)
      have K2:=hide (K0.out.below hres.2.2)
      obtain ⟨A1,e1,rfl⟩:=owns_slice own1
      obtain ⟨A2,e2,rfl⟩:=owns_slice own2
      have HP:=hide (show PcV w2 (.slice A1 (Pl.code d q).length e1) (.slice A2 (Pl.ord d q).length e2) 1 ⟨Pl.code d q,Pl.ord d q,1⟩ from ⟨own_intT own1,own_natT own2,rfl⟩)
      rw [show Pl.vall none (Pl.code d q) = -1 from Pl.vall_none _]
      clear hres own1 own2 d0 d1 d2 d3 f0 f1 f2 f3 x8 K0
      obtain ⟨f0,f1,f2,f3⟩:=box3 K2.out.r
      go_wp2
      go_roundg (gi - 1)
      case measure => have := HKG.out; omega
      case rel => exact ⟨k + 1,_,_,1,by have := HKG.out; omega,by go_num,K2.out.put HP.out (by rw [HTK.out,HK0.out]; exact Pl.Lst5.one q 1)⟩
     ·have HB:=hide hb
      obtain ⟨bb,bo,bc,rfl,hrest⟩:=hb
      clear hrest
      have HPV:=hide hpv
      have HL5:=hide hl5
      clear hpv hl5
      go_wp2_with fail
      refine (number_any d HD.out.wf A B cp cq m q _ (some p.code) _ HM.out (HG.out.keep K0.out.p.bel) hqn HB.out).mono ?_
      intro e w2 hres
      have K2:=hide (K0.out.below hres.2.2)
      have HPV2:=hide (HPV.out.below hres.2.2)
      clear d0 d1 d2 d3 f0 f1 f2 f3 x8 K0 HPV HB
      obtain ⟨f0,f1,f2,f3⟩:=box3 K2.out.r
      obtain ⟨v,hv⟩:∃ v,v = Pl.vall (some p.code) (Pl.code d q) := ⟨_,rfl⟩
      have HV:=hide (show v = Pl.lx (Pl.code d q) p.code from hv.trans (Pl.vall_some _ _))
      by_cases hv0:0 < v
      ·obtain rfl := hres.1 (by rw [← hv]; exact hv0)
       clear hres hv
       have HLS:=hide (HL5.out.more (q := q) (by rw [← HV.out]; omega) x)
       go_wp2
       go_roundg (gi - 1)
       case measure => have := HKG.out; omega
       case rel => exact ⟨k + 1,_,_,x,by have := HKG.out; omega,by go_num,K2.out.skip HPV2.out (by rw [HTK.out]; exact HLS.out) hx0 hxk⟩
      ·obtain ⟨vC',vO',rfl,own1,own2⟩:=hres.2.1 (by rw [← hv]; exact hv0)
       obtain ⟨A1,e1,rfl⟩:=owns_slice own1
       obtain ⟨A2,e2,rfl⟩:=owns_slice own2
       have HP:=hide (show PcV w2 (.slice A1 (Pl.code d q).length e1) (.slice A2 (Pl.ord d q).length e2) 1 ⟨Pl.code d q,Pl.ord d q,1⟩ from ⟨own_intT own1,own_natT own2,rfl⟩)
       rw [← hv]
       clear hres hv own1 own2
       by_cases hvz:v = 0
       ·have HLS:=hide (HL5.out.more (q := q) (by rw [← HV.out]; omega) (x + 1))
        subst hvz
        have hx64:x ≤ 64:=by omega
        go_wp2
        go_roundg (gi - 1)
        case measure => have := HKG.out; omega
        case rel => exact ⟨k + 1,_,_,x + 1,by have := HKG.out; omega,by go_num,K2.out.more HPV2.out (by rw [HTK.out]; exact HLS.out) hx0 hxk⟩
       ·have hvn:v < 0:=by omega
        have HLS:=hide (HL5.out.less (q := q) (by rw [← HV.out]; exact hvn) 1)
        clear hvz hv0
        go_wp2
        go_roundg (gi - 1)
        case measure => have := HKG.out; omega
        case rel => exact ⟨k + 1,_,_,1,by have := HKG.out; omega,by go_num,K2.out.put HP.out (by rw [HTK.out]; exact HLS.out)⟩
    ·have hki:¬ ((k:Int) < (nl:Int)):=by omega
     have hnl0:0 < nl:=by
      obtain ⟨a,ha,he⟩:=HLB.out.all j hj
      rw [HNL.out,HLL.out]
      exact List.length_pos_of_mem (mem_Gl.2 ⟨ha,he⟩)
     rcases K0.out.b with ⟨h0,_⟩ | ⟨p,hp,hl5,hx0,hxk⟩
     ·omega
     ·have HP:=hide hp
      have HL5:=hide (show Pl.Lst5 d (Gl ls d.n j) p by
       have h:(Gl ls d.n j).take k = Gl ls d.n j:=List.take_of_length_le (by rw [← HLL.out,← HNL.out]; omega)
       rw [h] at hl5
       exact hl5)
      clear hp hl5
      obtain ⟨A1,e1,h1,h1b⟩:=HP.out.c
      obtain ⟨A2,e2,h2,h2b⟩:=HP.out.o
      subst h1
      subst h2
      clear h1b h2b hkg hnl0
      have hj64:j ≤ 64:=by omega
      obtain ⟨f0,f1,f2,f3⟩:=box3 K0.out.r
      have KA:=hide (K0.out.p.alloc (.cells #[.slice A1 p.code.length e1,.slice A2 (nats p.order).length e2,.int .i64 x] 116))
      have HPA:=hide (HP.out.below ((Below.refl wr.heap.size wr).alloc (Nat.le_refl _) (.cells #[.slice A1 p.code.length e1,.slice A2 (nats p.order).length e2,.int .i64 x] 116)))
      obtain ⟨i0,hi0,hz0,hz1,hz2⟩:=info_parts pieceInfo
      have P1:∀ u ∈ [Value.slice A1 p.code.length e1,.slice A2 (nats p.order).length e2,.int .i64 x],u.oneCell' = true:=by simp [Value.oneCell']
      go_wp2_with (at_builtin; refine wpList_append_lies _ (by rfl) _ _ 113 (by rfl) (w.heap.size + 1) 116 i0 (.agg #[.slice none 0 0,.slice none 0 0,.int .i64 0]) 3 56 Try.underlying113 hi0 hz0 hz1 hz2 rfl (by omega) _ j cs (by rfl) KA.out.own ⟨wr.heap.size,0,none⟩ 1 1 [.slice A1 p.code.length e1,.slice A2 (nats p.order).length e2,.int .i64 x] (by rfl) (by rfl) (three_news wr _ rfl _ _ _) P1 (by omega) (by unfold maxLen; omega) (by omega) KA.out.big (wr.heap.size + 1) (by simp) ?_; intro g3 c3 w3 own3 grow3 at3 lt3; have OWN3 := hide own3; have GR3 := hide grow3; clear own3 grow3 at3)
      go_roundg (go - 1)
      case measure => have := HJG.out; omega
      case rel => exact ⟨j + 1,_,_,by have := HJG.out; omega,by go_num,KA.out.app OWN3.out GR3.out rfl HPA.out HL5.out⟩
  ·have hji:¬ ((j:Int) < (P:Int)):=by omega
   obtain ⟨aLst,cL,rfl⟩:=owns_slice K0.out.own
   have hjP':j = P:=by omega
   have hPd:=HLB.out.le
   have HPCS:=hide (pcs_groups HD.out.wf HLB.out HPOS.out (by rw [K0.out.len]; exact hjP') K0.out.is)
   have S0:=hide (show SI (w.heap.size + 1) wr aLst j cL cs ps wr from ⟨K0.out.own,K0.out.pv,K0.out.len,Below.refl _ _,K0.out.big⟩)
   have BW:=hide K0.out.bel
   clear K0 hjP'
   go_wp2_with fail
   refine (sort_any (w.heap.size + 1) aLst j cL cs ps _ S0.out (pcs_sz HD.out.wf HPCS.out) (by omega)).mono ?_
   rintro e w1 ⟨⟨v,rfl⟩,cs',ps',hS,hP,hW⟩
   have HR:=hide (show ∃ (A':Option Addr) (n c:Nat) (cs:List Value) (ps:List Pl.Pc),Ending.returned (.slice aLst j cL) = .returned (.slice A' n c) ∧ w1.ownsRow (w.heap.size + 1) 116 3 (.slice A' n c) n cs ∧ PcsV w1 cs ps ∧ ps.length = n ∧ n ≤ d.n ∧ Pl.Pcs d ps ∧ Pl.Srt ps ∧ Below w.heap.size w w1 from
    ⟨aLst,j,cL,cs',ps',rfl,hS.own,hS.pv,hS.len,by omega,pcs_perm HPCS.out hP,hW,BW.out.trans (hS.bel.mono (Nat.le_succ _))⟩)
   clear hS hP hW
   go_wp2
   go_ret
   exact HR.out
end Go.Proofs.Ytghdiolnonejaaa
end
section
namespace Go.Proofs.Ytghdiolnonejaaa
open Go Go.RowKit
attribute [local go_sem ↓] Go.wp_at_zero Go.wp_at_succ
def pcJ (lp:Nat) (ps:List Pl.Pc) (j:Nat):List Int := (lp:Int) :: (ps.length:Int) :: (ps.take j).flatMap (fun p => (p.order.length:Int) :: p.code)
theorem pcJ_zero (lp:Nat) (ps:List Pl.Pc):pcJ lp ps 0 = [(lp:Int),(ps.length:Int)] := by unfold pcJ; simp
theorem pcJ_succ (lp:Nat) {ps:List Pl.Pc} {j:Nat} {p:Pl.Pc} (h:ps[j]? = some p):pcJ lp ps (j + 1) = (pcJ lp ps j ++ [(p.order.length:Int)]) ++ p.code := by
 unfold pcJ
 rw [Pl.take_one h,List.flatMap_append]
 simp
theorem pcJ_all (lp:Nat) {ps:List Pl.Pc} {j:Nat} (h:ps.length ≤ j):pcJ lp ps j = Pl.pcode lp ps := by
 unfold pcJ Pl.pcode
 rw [List.take_of_length_le h]
theorem pcJ_len (lp:Nat) {ps:List Pl.Pc} (hs:∀ p,p ∈ ps → PcSz p):∀ j,(pcJ lp ps j).length ≤ 2 + 400 * j
 | 0 => by rw [pcJ_zero]; simp
 | j + 1 => by
   by_cases h:j < ps.length
   ·have e:ps[j]? = some ps[j]:=List.getElem?_eq_getElem h
    have h1:=hs _ (List.getElem_mem h)
    have h2:=h1.1
    have h3:=h1.2
    have ih:=pcJ_len lp hs j
    rw [pcJ_succ lp e]
    simp only [List.length_append,List.length_cons,List.length_nil]
    omega
   ·have ih:=pcJ_len lp hs j
    rw [pcJ_all lp (by omega)] at ih
    rw [pcJ_all lp (by omega)]
    omega
structure CL (w1:World) (xs:List Int) (m:Nat) (vL:Value) (W:World):Prop where
 own:W.ownsRow w1.heap.size 3 1 vL m (xs.map (.int .i64))
 len:xs.length = m
 bel:Below w1.heap.size w1 W
theorem CL.alloc {w1 W:World} {xs:List Int} {m:Nat} {vL:Value} (h:CL w1 xs m vL W) (o:Obj):CL w1 xs m vL (W.alloc o) :=
 ⟨own_below h.own ((Below.refl _ _).alloc (Nat.le_refl _) o),h.len,h.bel.trans (((Below.refl _ _).alloc (Nat.le_refl _) o).mono h.bel.size)⟩
theorem CL.app {w1 W W':World} {xs ys:List Int} {m n:Nat} {vL vL':Value} (h:CL w1 xs m vL W) (own:W'.ownsRow w1.heap.size 3 1 vL' n (xs.map (.int .i64) ++ ys.map (.int .i64))) (gr:W.grownBy W' vL.ownBlock) (hn:n = m + ys.length):CL w1 (xs ++ ys) n vL' W' :=
 ⟨by rw [List.map_append]; exact own,by rw [List.length_append,h.len,hn],h.bel.grown gr h.bel.size (fun k hk => (h.own.lt k hk).1)⟩
theorem own_two (w:World) (x y:Int):(w.alloc (.cells #[.int .i64 x,.int .i64 y] 3)).ownsRow w.heap.size 3 1 (.slice (some ⟨w.heap.size,0,none⟩) 2 2) 2 ([x,y].map (.int .i64)) :=
 ⟨rfl,.inr ⟨w.heap.size,2,#[.int .i64 x,.int .i64 y],rfl,Nat.le_refl _,heap_alloc_new w _,Nat.le_refl _,by unfold maxLen; omega,rfl,rfl⟩⟩
def CodeT (d:Pl.Dg) (w:World) (e:Ending) (w':World):Prop :=
 ∃ (A':Option Addr) (n c:Nat) (ps:List Pl.Pc),e = .returned (.slice A' n c) ∧ Pl.Pcs d ps ∧ Pl.Srt ps ∧ n ≤ 8100 ∧ RowT w' 3 A' n ((Pl.pcode d.lp ps).map (.int .i64)) ∧ Below w.heap.size w w'
set_option maxRecDepth 100000 in
set_option maxHeartbeats 8100000 in
theorem code_t (d:Pl.Dg) (hd:Pl.Valid d) (h20:d.n ≤ 20) (A B:Option Addr) (cp cq m:Nat) (w:World) (hm:m = 4 * d.n) (hg:DgAt w A B d) :
 Calls Try.prog 57 #[.agg #[.slice A d.n cp,.slice B m cq,.int .i64 d.lp]] w (CodeT d w) := by
 have hlp:=hd.wf.lp
 have HM:=hide hm
 have HG:=hide hg
 have HD:=hide hd
 clear hm hg
 have X0:=hide (row_at (W := w) (g := w.heap.size) (t := 24) (vs := [.slice A d.n cp,.slice B m cq,.int .i64 d.lp]) rfl)
 have B0:=hide (show Below w.heap.size w (w.alloc (.cells #[.slice A d.n cp,.slice B m cq,.int .i64 d.lp] 24)) from (Below.refl _ _).alloc (Nat.le_refl _) _)
 go_enter Try.func57,Try.ntmps57
 obtain ⟨d0,d1,d2,d3⟩:=box3 X0.out
 go_wp2_with fail
 refine (valid_yes d HD.out A B cp cq m _ HM.out (HG.out.keep B0.out)).mono ?_
 rintro e w1 ⟨rfl,hb1⟩
 have Y0:=hide (X0.out.below hb1)
 have B1:=hide (B0.out.trans (hb1.mono B0.out.size))
 clear X0 B0 hb1 d0 d1 d2 d3
 obtain ⟨d0,d1,d2,d3⟩:=box3 Y0.out
 go_wp2_with fail
 refine (pieces_any d HD.out A B cp cq m _ HM.out (HG.out.keep B1.out) h20).mono ?_
 rintro e w2 ⟨aLst,n,cL,cs,ps,rfl,hown,hpv,hlen,hnd,hpcs,hsrt,hb2⟩
 have Z0:=hide (Y0.out.below hb2)
 have B2:=hide (B1.out.trans (hb2.mono B1.out.size))
 have OW:=hide hown
 have HPV:=hide hpv
 have HLEN:=hide hlen
 have HPS:=hide (show Pl.Pcs d ps ∧ Pl.Srt ps from ⟨hpcs,hsrt⟩)
 have HSZ:=hide (pcs_sz HD.out.wf hpcs)
 have hn20:n ≤ 20:=by omega
 clear hown hpv hlen hpcs hsrt hb2 d0 d1 d2 d3 Y0 B1 hnd
 obtain ⟨d0,d1,d2,d3⟩:=box3 Z0.out
 go_upto_region 5 with fail
 have L0:=hide (show CL w2 (pcJ d.lp ps 0) 2 (.slice (some ⟨w2.heap.size,0,none⟩) 2 2) (w2.alloc (.cells #[.int .i64 d.lp,.int .i64 n] 3)) from by
  rw [pcJ_zero,HLEN.out]
  exact ⟨own_two _ _ _,rfl,(Below.refl _ _).alloc (Nat.le_refl _) _⟩)
 clear d0 d1 d2 d3
 go_wp2_with fail
 go_loopg [4,6,19] n (fun g s4 s6 s19 wx => ∃ (j m:Nat) (xs:List Int),j + g = n ∧ s19 = .int .i64 (j:Int) ∧ xs = pcJ d.lp ps j ∧ CL w2 xs m s4 wx)
 case atStart => exact ⟨0,_,_,by omega,rfl,rfl,L0.out⟩
 case round =>
  clear L0
  obtain ⟨j,k,xs,hjg,rfl,hxs,hk⟩:=hrel
  have HJG:=hide hjg
  have K0:=hide hk
  have HXS:=hide hxs
  have hjn:j ≤ n:=by omega
  have hkl:k ≤ 2 + 400 * j:=by
   rw [← hk.len,hxs]
   exact pcJ_len d.lp HSZ.out j
  clear hk hxs
  obtain ⟨A4,c4,rfl⟩:=owns_slice K0.out.own
  by_cases hj:j < n
  ·have hji:(j:Int) < (n:Int):=by omega
   have j0:(0:Int) ≤ (j:Int):=by omega
   have hnA:0 < n:=by omega
   obtain ⟨g,cap,hA,hcap,hgl⟩:=World.ownsRow.form OW.out hnA
   injection hA with hA _ hcc
   subst hA
   subst hcc
   obtain ⟨p,hp⟩:∃ p,ps[j]? = some p := ⟨_,List.getElem?_eq_getElem (by rw [HLEN.out]; exact hj)⟩
   have HXN:=hide (pcJ_succ d.lp hp)
   have hpsz:=HSZ.out p (List.mem_of_getElem? hp)
   obtain ⟨a0,a1,a2,hpx,ca0,ca1,ca2⟩:=HPV.out.at_ hp
   have CA:=fun (t:Nat) (u:Value) (ht:j * 3 + t < n * 3) (e:cs[j * 3 + t]? = some u) => (show wr.cell? ⟨g,j * 3 + t,none⟩ = some u by exact cell_below (by rw [World.ownsRow.cellAt OW.out _ ht]; exact e) K0.out.bel)
   have x0:=CA 0 a0 (by omega) ca0
   have x1:=CA 1 a1 (by omega) ca1
   have x2:=CA 2 _ (by omega) ca2
   rw [Nat.add_zero] at x0
   clear CA ca0 ca1 ca2 hp hjg
   obtain ⟨A1,e1,h1,h1b⟩:=hpx.c
   obtain ⟨A2,e2,h2,h2b⟩:=hpx.o
   have HC1:=hide (show IntsAt w2 A1 p.code.length p.code from h1b.2.row)
   subst h1
   subst h2
   clear h1b h2b hpx
   rw [nats_len] at x1
   obtain ⟨L1,hL1⟩:∃ n,n = p.code.length := ⟨_,rfl⟩
   obtain ⟨L2,hL2⟩:∃ n,n = p.order.length := ⟨_,rfl⟩
   rw [← hL1] at x0 HC1
   rw [← hL2] at x1
   have HL2:=hide hL2
   have HL1:=hide hL1
   have hL2b:L2 ≤ 64:=by rw [hL2]; exact hpsz.1
   have hL1b:L1 ≤ 320:=by rw [hL1,hpsz.2]; have := hpsz.1; omega
   clear hpsz hL1 hL2
   have KA:=hide (K0.out.alloc (.cells #[.slice A1 L1 e1,.slice A2 L2 e2,.int .i64 a2] 116))
   have XB:=hide (row_at (W := wr) (g := wr.heap.size) (t := 116) (vs := [.slice A1 L1 e1,.slice A2 L2 e2,.int .i64 a2]) rfl)
   obtain ⟨f0,f1,f2,f3⟩:=box3 XB.out
   go_upto_region 8 with fail
   obtain ⟨V,hV⟩:∃ V,V = wr.alloc (.cells #[.slice A1 L1 e1,.slice A2 L2 e2,.int .i64 a2] 116) := ⟨_,rfl⟩
   obtain ⟨gb,hgb⟩:∃ g,g = wr.heap.size := ⟨_,rfl⟩
   have hgV:w2.heap.size ≤ gb:=by rw [hgb]; exact K0.out.bel.size
   rw [← hV] at KA XB f0 f1 f2 f3 ⊢
   rw [← hgb] at XB f0 f1 f2 f3 ⊢
   have HUB:=hide (show ∀ b,(Value.slice A4 k c4).ownBlock = some b → b < gb from fun b h => by rw [hgb]; exact (K0.out.own.lt b h).2)
   clear hV hgb x0 x1 x2 K0
   have KB:=hide (KA.out.alloc (.cells #[.int .i64 L2] 3))
   have hVs:=KA.out.bel.size
   obtain ⟨i0,hi0,hz0,hz1,hz2⟩:=info_parts intInfo
   go_upto_region 9 with (at_builtin; refine wpList_append_lies _ (by rfl) _ _ 22 (by rfl) w2.heap.size 3 i0 (.int .i64 0) 1 8 Try.underlying22 hi0 hz0 hz1 hz2 rfl (by omega) _ k _ (by rfl) KB.out.own ⟨V.heap.size,0,none⟩ 1 1 [.int .i64 L2] (by rfl) (by rfl) (one_newsG _ _ rfl) (by simp [Value.oneCell']) (by omega) (by unfold maxLen; omega) (by omega) (by have := KB.out.bel.size; omega) (V.heap.size + 1) (by simp) ?_; intro g3 c3 w3 own3 grow3 at3 lt3; have OWN3 := hide own3; have GR3 := hide grow3; clear own3 grow3 at3)
   have K3:=hide (KB.out.app (ys := [(L2:Int)]) OWN3.out GR3.out rfl)
   have X3:=hide ((XB.out.below ((Below.refl V.heap.size V).alloc (Nat.le_refl _) (.cells #[.int .i64 L2] 3))).grown GR3.out (fun e => by have := HUB.out _ e.symm; omega))
   clear f0 f1 f2 f3 KA KB XB OWN3 GR3 lt3
   obtain ⟨f0,f1,f2,f3⟩:=box3 X3.out
   go_wp2_with (at_builtin; refine wpList_append_int _ (by rfl) _ _ 22 (by rfl) w2.heap.size 3 i0 (.int .i64 0) 8 Try.underlying22 hi0 hz0 hz1 hz2 rfl _ (k + 1) _ (by rfl) K3.out.own A1 L1 e1 p.code (by rfl) (HC1.out.keep K3.out.bel) (by unfold maxLen; omega) (by omega) K3.out.bel.size ?_; intro v4 w4 own4 gr4; have OWN4 := hide own4; have GR4 := hide gr4; clear own4 gr4)
   go_roundg (gk - 1)
   case measure => have := HJG.out; omega
   case rel => exact ⟨j + 1,_,_,by have := HJG.out; omega,by go_num,rfl,by
    rw [HXN.out,← HXS.out,← HL2.out]
    exact K3.out.app OWN4.out GR4.out (by rw [HL1.out])⟩
  ·have hji:¬ ((j:Int) < (n:Int)):=by omega
   have HIA:=hide (show RowT wr 3 A4 k ((Pl.pcode d.lp ps).map (.int .i64)) by
    rw [← pcJ_all d.lp (j := j) (by rw [HLEN.out]; omega),← HXS.out]
    exact own_rowT K0.out.own)
   have HBE:=hide (B2.out.trans (K0.out.bel.mono B2.out.size))
   go_wp2
   go_ret
   exact ⟨A4,k,c4,ps,rfl,HPS.out.1,HPS.out.2,by omega,HIA.out,HBE.out⟩
def CodePost (d:Pl.Dg) (w:World) (e:Ending) (w':World):Prop :=
 ∃ (A':Option Addr) (n c:Nat) (ps:List Pl.Pc),e = .returned (.slice A' n c) ∧ Pl.Pcs d ps ∧ Pl.Srt ps ∧ n ≤ 8100 ∧ IntsAt w' A' n (Pl.pcode d.lp ps) ∧ Below w.heap.size w w'
theorem code_yes (d:Pl.Dg) (hd:Pl.Valid d) (h20:d.n ≤ 20) (A B:Option Addr) (cp cq m:Nat) (w:World) (hm:m = 4 * d.n) (hg:DgAt w A B d) :
 Calls Try.prog 57 #[.agg #[.slice A d.n cp,.slice B m cq,.int .i64 d.lp]] w (CodePost d w) :=
 (code_t d hd h20 A B cp cq m w hm hg).mono fun _ _ ⟨A',n,c,ps,h1,h2,h3,h4,h5,h6⟩ => ⟨A',n,c,ps,h1,h2,h3,h4,h5.row,h6⟩
end Go.Proofs.Ytghdiolnonejaaa
end
section
namespace Go.Proofs.Ytghdiolnonejaaa
open Go Go.RowKit
attribute [local go_sem ↓] Go.wp_at_zero Go.wp_at_succ
theorem eq_ints (A B:Option Addr) (n m c e:Nat) (xs ys:List Int) (w:World) (ha:IntsAt w A n xs) (hb:IntsAt w B m ys) (hn0:0 < n) (hm0:0 < m) (hn:n ≤ 100000) (hm:m ≤ 100000) :
 Calls Try.prog 56 #[.slice A n c,.slice B m e] w fun r w' => r = .returned (.bool (Pl.vb (xs = ys))) ∧ Below w.heap.size w w' := by
 have hl:=ha.len
 have hl2:=hb.len
 obtain ⟨b,o,rfl,_⟩:=ha.at_ (k := 0) hn0
 obtain ⟨b2,o2,rfl,_⟩:=hb.at_ (k := 0) hm0
 refine (Try.slices_Equal_int b o n c b2 o2 m e xs ys w (by omega) (by omega) (by omega) (by omega) (fun j hj => ?_) (fun j hj => ?_)).mono ?_
 ·obtain ⟨b',o',e1,hc⟩:=ha.at_ (k := j) (by omega)
  injection e1 with e1
  injection e1 with e1 e2
  subst e1
  subst e2
  exact hc
 ·obtain ⟨b',o',e1,hc⟩:=hb.at_ (k := j) (by omega)
  injection e1 with e1
  injection e1 with e1 e2
  subst e1
  subst e2
  exact hc
 ·rintro r w' ⟨rfl,q,rfl⟩
  refine ⟨ret_bool ?_,below_drewN (Below.refl _ _) q⟩
  rw [List.take_of_length_le (by omega),List.take_of_length_le (by omega),Bool.eq_iff_iff,Pl.vb_iff]
  simp
theorem same_vb {a b:Pl.Dg} (ha:Pl.Wf a) (hb:Pl.Wf b) {ps qs:List Pl.Pc} (hp:Pl.Pcs a ps) (hq:Pl.Pcs b qs) (sp:Pl.Srt ps) (sq:Pl.Srt qs):Pl.vb (Pl.pcode a.lp ps = Pl.pcode b.lp qs) = Pl.vb (∃ σ,Pl.Iso a b σ) := by
 rw [Bool.eq_iff_iff,Pl.vb_iff,Pl.vb_iff]
 exact ⟨fun h => Pl.iso_of_code ha hb hp hq h,fun ⟨σ,I⟩ => I.pcode ha hb hp hq sp sq⟩
theorem pcode_pos {w:World} {A:Option Addr} {n lp:Nat} {ps:List Pl.Pc} (h:IntsAt w A n (Pl.pcode lp ps)):0 < n := by
 have:=h.len
 unfold Pl.pcode at this
 simp only [List.length_cons] at this
 omega
set_option maxRecDepth 100000 in
set_option maxHeartbeats 8000000 in
theorem same_yes20 (a b:Pl.Dg) (ha:Pl.Valid a) (hb:Pl.Valid b) (ha20:a.n ≤ 20) (hb20:b.n ≤ 20) (A B C D:Option Addr) (cp cq m cp' cq' m':Nat) (w:World) (hm:m = 4 * a.n) (hg:DgAt w A B a) (hm':m' = 4 * b.n) (hg':DgAt w C D b) :
 Calls Try.prog 29 #[.agg #[.slice A a.n cp,.slice B m cq,.int .i64 a.lp],.agg #[.slice C b.n cp',.slice D m' cq',.int .i64 b.lp]] w fun e w' => e = .returned (.bool (Pl.vb (∃ σ,Pl.Iso a b σ))) ∧ Below w.heap.size w w' := by
 have hlp:=ha.wf.lp
 have hlp':=hb.wf.lp
 have HM:=hide hm
 have HG:=hide hg
 have HA:=hide ha
 have HM':=hide hm'
 have HG':=hide hg'
 have HB:=hide hb
 clear hm hg hm' hg'
 have X0:=hide (row_at (W := w) (g := w.heap.size) (t := 24) (vs := [.slice A a.n cp,.slice B m cq,.int .i64 a.lp]) rfl)
 have X1:=hide (X0.out.below ((Below.refl _ _).alloc (Nat.le_refl _) (.cells #[.slice C b.n cp',.slice D m' cq',.int .i64 b.lp] 24)))
 have Y1:=hide (row_at (W := w.alloc (.cells #[.slice A a.n cp,.slice B m cq,.int .i64 a.lp] 24)) (g := w.heap.size + 1) (t := 24) (vs := [.slice C b.n cp',.slice D m' cq',.int .i64 b.lp]) (by simp))
 have B0:=hide (show Below w.heap.size w ((w.alloc (.cells #[.slice A a.n cp,.slice B m cq,.int .i64 a.lp] 24)).alloc (.cells #[.slice C b.n cp',.slice D m' cq',.int .i64 b.lp] 24)) from ((Below.refl _ _).alloc (Nat.le_refl _) _).alloc (by simp) _)
 clear X0
 go_enter Try.func29,Try.ntmps29
 obtain ⟨d0,d1,d2,d3⟩:=box3 X1.out
 obtain ⟨e0,e1,e2,e3⟩:=box3 Y1.out
 go_wp2_with fail
 refine (valid_yes a HA.out A B cp cq m _ HM.out (HG.out.keep B0.out)).mono ?_
 rintro e w1 ⟨rfl,hb1⟩
 have X2:=hide (X1.out.below hb1)
 have Y2:=hide (Y1.out.below hb1)
 have B1:=hide (B0.out.trans (hb1.mono B0.out.size))
 clear X1 Y1 B0 hb1 d0 d1 d2 d3 e0 e1 e2 e3
 obtain ⟨d0,d1,d2,d3⟩:=box3 X2.out
 obtain ⟨e0,e1,e2,e3⟩:=box3 Y2.out
 go_wp2_with fail
 refine (valid_yes b HB.out C D cp' cq' m' _ HM'.out (HG'.out.keep B1.out)).mono ?_
 rintro e w2 ⟨rfl,hb2⟩
 have X3:=hide (X2.out.below hb2)
 have Y3:=hide (Y2.out.below hb2)
 have B2:=hide (B1.out.trans (hb2.mono B1.out.size))
 clear X2 Y2 B1 hb2 d0 d1 d2 d3 e0 e1 e2 e3
 obtain ⟨d0,d1,d2,d3⟩:=box3 X3.out
 obtain ⟨e0,e1,e2,e3⟩:=box3 Y3.out
 go_upto_region 3 with fail
 have BD:=hide (show Below w.heap.size w w2.drew from B2.out.drew)
 have DA:=hide (HG.out.keep BD.out)
 have XD:=hide (X3.out.below (Below.refl w2.heap.size w2).drew)
 have YD:=hide (Y3.out.below (Below.refl w2.heap.size w2).drew)
 have DB:=hide (HG'.out.keep BD.out)
 go_region_with (first
  | (go_at_call 57
     have hx:=hba
     refine (code_yes b HB.out hb20 C D cp' cq' m' _ HM'.out (DB.out.keep hx)).mono ?_
     rintro e wb ⟨A8,n8,c8,qs,rfl,q1,q2,q3,q4,hbc⟩)
  | (go_at_call 57
     have hx:=hbb
     refine (code_yes a HA.out ha20 A B cp cq m _ HM.out (DA.out.keep hx)).mono ?_
     rintro e wa ⟨A7,n7,c7,ps,rfl,p1,p2,p3,p4,hbc⟩)
  | (go_at_call 57
     refine (code_yes a HA.out ha20 A B cp cq m _ HM.out DA.out).mono ?_
     rintro e wa ⟨A7,n7,c7,ps,rfl,p1,p2,p3,p4,hba⟩
     obtain ⟨k0,k1,k2,k3⟩:=box3 (YD.out.below hba))
  | (go_at_call 57
     refine (code_yes b HB.out hb20 C D cp' cq' m' _ HM'.out DB.out).mono ?_
     rintro e wb ⟨A8,n8,c8,qs,rfl,q1,q2,q3,q4,hbb⟩
     obtain ⟨k0,k1,k2,k3⟩:=box3 (XD.out.below hbb))
  | (go_at_call 56
     have hx:=hba
     have p4':=p4.keep hbc
     refine (eq_ints A7 A8 n7 n8 c7 c8 _ _ _ p4' q4 (pcode_pos p4') (pcode_pos q4) (by omega) (by omega)).mono ?_
     rintro e w9 ⟨rfl,hb9⟩
     rw [same_vb HA.out.wf HB.out.wf p1 q1 p2 q2]
     have HF:=hide (BD.out.trans ((hx.trans ((hbc.trans (hb9.mono hbc.size)).mono hx.size)).mono BD.out.size)))
  | (go_at_call 56
     have hx:=hbb
     have q4':=q4.keep hbc
     refine (eq_ints A7 A8 n7 n8 c7 c8 _ _ _ p4 q4' (pcode_pos p4) (pcode_pos q4') (by omega) (by omega)).mono ?_
     rintro e w9 ⟨rfl,hb9⟩
     rw [same_vb HA.out.wf HB.out.wf p1 q1 p2 q2]
     have HF:=hide (BD.out.trans ((hx.trans ((hbc.trans (hb9.mono hbc.size)).mono hx.size)).mono BD.out.size))))
 all_goals (go_wp2_with fail)
 all_goals (go_ret; exact ⟨rfl,HF.out⟩)
end Go.Proofs.Ytghdiolnonejaaa
end
section
namespace Go.Proofs.Ytghdiolnonejaaa
open Go Go.RowKit
def nsm (f:Nat → Nat):Nat → Nat
 | 0 => 0
 | k + 1 => nsm f k + f k
theorem nsm_congr {f g:Nat → Nat}:∀ N,(∀ i,i < N → f i = g i) → nsm f N = nsm g N
 | 0,_ => rfl
 | N + 1, h => by
   show nsm f N + f N = nsm g N + g N
   rw [nsm_congr N fun i hi => h i (by omega),h N (by omega)]
theorem nsm_add (f g:Nat → Nat):∀ N,nsm (fun i => f i + g i) N = nsm f N + nsm g N
 | 0 => rfl
 | N + 1 => by
   show nsm _ N + (f N + g N) = (nsm f N + f N) + (nsm g N + g N)
   rw [nsm_add f g N]; omega
theorem nsm_zero:∀ N,nsm (fun _ => 0) N = 0
 | 0 => rfl
 | N + 1 => by show nsm _ N + 0 = 0; rw [nsm_zero N]
theorem nsm_out (f:Nat → Nat) {j:Nat}:∀ N,j < N → nsm f N = nsm (fun i => if i = j then 0 else f i) N + f j
 | 0,h => absurd h (by omega)
 | N + 1, h => by
   show nsm f N + f N = nsm _ N + (if N = j then 0 else f N) + f j
   by_cases e:N = j
   ·subst e
    rw [if_pos rfl,nsm_congr (f := fun i => if i = N then 0 else f i) (g := f) N (fun i hi => if_neg (show ¬ i = N by omega))]
    omega
   ·rw [if_neg e,nsm_out f (j := j) N (by omega)]
    omega
theorem nsm_bij (f:Nat → Nat):∀ (N M:Nat) (s:Nat → Nat),(∀ i,i < N → s i < M) → (∀ i j,i < N → j < N → s i = s j → i = j) → (∀ y,y < M → (∃ i,i < N ∧ s i = y) ∨ f y = 0) → nsm (fun i => f (s i)) N = nsm f M
 | 0, M, s, _, _, h3 => by
   rw [nsm_congr (f := f) (g := fun _ => 0) M fun y hy => (h3 y hy).elim (fun ⟨i,hi,_⟩ => absurd hi (by omega)) id,nsm_zero]; rfl
 | N + 1, M, s, h1, h2, h3 => by
   have ih:=nsm_bij (fun y => if y = s N then 0 else f y) N M s (fun i hi => h1 i (by omega)) (fun i j hi hj => h2 i j (by omega) (by omega)) (fun y hy => by
    by_cases e:y = s N
    ·exact .inr (if_pos e)
    ·rcases h3 y hy with ⟨i,hi,hs⟩ | h
     ·exact .inl ⟨i,by have:i ≠ N := fun q => e (by rw [← hs,q]); omega,hs⟩
     ·exact .inr (by show (if y = s N then 0 else f y) = 0; rw [if_neg e,h]))
   have e1:nsm (fun i => (fun y => if y = s N then 0 else f y) (s i)) N = nsm (fun i => f (s i)) N:=nsm_congr N fun i hi => if_neg fun q => by have := h2 i N (by omega) (by omega) q; omega
   show nsm (fun i => f (s i)) N + f (s N) = nsm f M
   rw [nsm_out f (j := s N) M (h1 N (by omega)),← ih,e1]
theorem nsm_swap (F:Nat → Nat → Nat) (M:Nat):∀ N,nsm (fun i => nsm (fun j => F i j) M) N = nsm (fun j => nsm (fun i => F i j) N) M
 | 0 => by show 0 = nsm (fun _ => 0) M; rw [nsm_zero]
 | N + 1 => by
   show nsm _ N + nsm (fun j => F N j) M = nsm (fun j => nsm (fun i => F i j) N + F N j) M
   rw [nsm_add,nsm_swap F M N]
theorem nsm_two (F:Nat → Nat → Nat) (N:Nat) (hs:∀ i j,i < N → j < N → F i j = F j i):nsm (fun i => nsm (fun j => if i = j then 0 else F i j) N) N = 2 * nsm (fun i => nsm (fun j => if i < j then F i j else 0) N) N := by
 have e:nsm (fun i => nsm (fun j => if i = j then 0 else F i j) N) N = nsm (fun i => nsm (fun j => if i < j then F i j else 0) N + nsm (fun j => if j < i then F j i else 0) N) N:=nsm_congr N fun i hi => by
  rw [← nsm_add]
  refine nsm_congr N fun j hj => ?_
  by_cases h1:i = j
  ·subst h1; rw [if_pos rfl,if_neg (by omega)]
  ·rw [if_neg h1]
   by_cases h2:i < j
   ·rw [if_pos h2,if_neg (by omega)]; omega
   ·rw [if_neg h2,if_pos (by omega),hs i j hi hj]; omega
 rw [e,nsm_add,nsm_swap (fun i j => if j < i then F j i else 0) N N]
 omega
theorem sel_len1 (d:Pl.Dg) (m:Mv):(sel d [m]).length = if apC d m = 0 then 1 else 0 := by
 rw [sel_cons,sel_nil,List.append_nil]
 unfold one
 split <;> rfl
theorem cu_len (d:Pl.Dg):∀ k,k ≤ 4 * d.n + 1 → (sel d (cuC k)).length = nsm (fun i => if curlableC d ((i:Int) - 1) = 0 then 4 else 0) k
 | 0,_ => rfl
 | k + 1, h => by
   show (sel d (cuC k ++ cuN ((k:Int) - 1))).length = nsm _ k + _
   rw [sel_app,List.length_append,cu_len d k (by omega)]
   congr 1
   unfold cuN
   rw [show ([⟨1,(k:Int) - 1,0,-1,false⟩,⟨1,(k:Int) - 1,0,-1,true⟩,⟨1,(k:Int) - 1,0,1,false⟩,⟨1,(k:Int) - 1,0,1,true⟩]:List Mv) = [⟨1,(k:Int) - 1,0,-1,false⟩] ++ ([⟨1,(k:Int) - 1,0,-1,true⟩] ++ ([⟨1,(k:Int) - 1,0,1,false⟩] ++ [⟨1,(k:Int) - 1,0,1,true⟩])) from rfl]
   simp only [sel_app,List.length_append,sel_len1]
   rw [cu_code (by omega) (.inr rfl),cu_code (by omega) (.inr rfl),cu_code (by omega) (.inl rfl),cu_code (by omega) (.inl rfl)]
   split <;> rfl
theorem un_len (d:Pl.Dg):∀ k,k ≤ d.n → (sel d (unC k)).length = nsm (fun i => if uncC d i = 0 then 1 else 0) k
 | 0,_ => rfl
 | k + 1, h => by
   show (sel d (unC k ++ [⟨2,k,0,0,false⟩])).length = nsm _ k + _
   rw [sel_app,List.length_append,un_len d k (by omega),sel_len1,un_code (by omega)]
theorem supN_len (d:Pl.Dg) (x:Nat):∀ k,k ≤ d.n → (sel d (upN x k)).length = nsm (fun y => if x < y then (if unpC d x y = 0 then 1 else 0) else 0) k
 | 0,_ => rfl
 | k + 1, h => by
   show (sel d (upN x k ++ (if x < k then [⟨4,x,k,0,false⟩] else []))).length = nsm _ k + _
   rw [sel_app,List.length_append,supN_len d x k (by omega)]
   congr 1
   show _ = if x < k then (if unpC d x k = 0 then 1 else 0) else 0
   by_cases hx:x < k
   ·rw [if_pos hx,if_pos hx,sel_len1,up_code hx (by omega)]
   ·rw [if_neg hx,if_neg hx]; rfl
theorem supNX_len (d:Pl.Dg):∀ k,(sel d (upNX d.n k)).length = nsm (fun x => nsm (fun y => if x < y then (if unpC d x y = 0 then 1 else 0) else 0) d.n) k
 | 0 => rfl
 | k + 1 => by
   show (sel d (upNX d.n k ++ upN k d.n)).length = nsm _ k + _
   rw [sel_app,List.length_append,supNX_len d k,supN_len d k d.n (Nat.le_refl _)]
noncomputable def pk1 (d:Pl.Dg) (x y s:Int) (o:Bool):Nat := if apC d ⟨3,x,y,s,o⟩ = 0 then 1 else 0
noncomputable def pk6 (d:Pl.Dg) (x y:Int):Nat := pk1 d x y (-1) false + pk1 d x y (-1) true + (pk1 d x y 0 false + pk1 d x y 0 true) + (pk1 d x y 1 false + pk1 d x y 1 true)
theorem spkN_len (d:Pl.Dg) (x y:Int):(sel d (pkN x y 3)).length = pk6 d x y := by
 rw [show pkN x y 3 = [⟨3,x,y,-1,false⟩] ++ [⟨3,x,y,-1,true⟩] ++ ([⟨3,x,y,0,false⟩] ++ [⟨3,x,y,0,true⟩]) ++ ([⟨3,x,y,1,false⟩] ++ [⟨3,x,y,1,true⟩]) from rfl]
 simp only [sel_app,List.length_append,sel_len1]
 rfl
theorem spkNY_len (d:Pl.Dg) (x:Int):∀ k,(sel d (pkNY x k)).length = nsm (fun j => pk6 d x ((j:Int) - 2)) k
 | 0 => rfl
 | k + 1 => by
   show (sel d (pkNY x k ++ pkN x ((k:Int) - 2) 3)).length = nsm _ k + _
   rw [sel_app,List.length_append,spkNY_len d x k,spkN_len]
theorem spkNX_len (d:Pl.Dg):∀ k,(sel d (pkNX d.n k)).length = nsm (fun i => nsm (fun j => pk6 d ((i:Int) - 2) ((j:Int) - 2)) (4 * d.n + 2)) k
 | 0 => rfl
 | k + 1 => by
   show (sel d (pkNX d.n k ++ pkNY ((k:Int) - 2) (4 * d.n + 2))).length = nsm _ k + _
   rw [sel_app,List.length_append,spkNX_len d k,spkNY_len]
open Classical in
theorem sl_len (d:Pl.Dg):∀ k,(slL d k).length = nsm (fun h => if slP d h then 1 else 0) k
 | 0 => rfl
 | k + 1 => by
   show (slL d k ++ slOne d k).length = nsm _ k + _
   rw [List.length_append,sl_len d k]
   congr 1
   show _ = if slP d k then 1 else 0
   unfold slOne
   split <;> rfl
section
variable {a b:Pl.Dg} {σ:Nat → Nat}
theorem iso_nsm (I:Pl.Iso a b σ) {f g:Nat → Nat} (h:∀ i,i < a.n → g i = f (σ i)):nsm g a.n = nsm f b.n := by
 rw [nsm_congr a.n h]
 refine nsm_bij f a.n b.n σ (fun i hi => by rw [← I.n]; exact I.lt i hi) (fun i j hi hj e => I.inj i j hi hj e) fun y hy => ?_
 rw [← I.n] at hy
 obtain ⟨h0,h1,h2⟩:=I.onto (g := 4 * y) (by omega)
 refine .inl ⟨h0 / 4,by omega,?_⟩
 have:=Pl.hf_div σ h0
 rw [h2] at this
 omega
theorem iso_nsm4 (I:Pl.Iso a b σ) {f g:Nat → Nat} (h:∀ i,i < 4 * a.n → g i = f (Pl.hf σ i)):nsm g (4 * a.n) = nsm f (4 * b.n) := by
 rw [nsm_congr (4 * a.n) h]
 refine nsm_bij f (4 * a.n) (4 * b.n) (Pl.hf σ) (fun i hi => by rw [← I.n]; exact I.hlt hi) (fun i j hi hj e => I.hinj hi hj e) fun y hy => ?_
 rw [← I.n] at hy
 exact .inl (I.onto hy)
def hfk (σ:Nat → Nat) (k i:Nat):Nat := if i < k then i else Pl.hf σ (i - k) + k
theorem iso_nsmk (I:Pl.Iso a b σ) (k:Nat) {f g:Nat → Nat} (h:∀ i,i < 4 * a.n + k → g i = f (hfk σ k i)):nsm g (4 * a.n + k) = nsm f (4 * b.n + k) := by
 rw [nsm_congr (4 * a.n + k) h]
 have hn:=I.n
 refine nsm_bij f (4 * a.n + k) (4 * b.n + k) (hfk σ k) (fun i hi => ?_) (fun i j hi hj e => ?_) fun y hy => ?_
 ·unfold hfk
  split
  ·omega
  ·have:=I.hlt (h := i - k) (by omega); omega
 ·unfold hfk at e
  split at e <;> split at e
  ·exact e
  ·omega
  ·omega
  ·have:=I.hinj (g := i - k) (h := j - k) (by omega) (by omega) (by omega); omega
 ·by_cases hk:y < k
  ·exact .inl ⟨y,by omega,by unfold hfk; rw [if_pos hk]⟩
  ·obtain ⟨h0,h1,h2⟩:=I.onto (g := y - k) (by omega)
   exact .inl ⟨h0 + k,by omega,by unfold hfk; rw [if_neg (by omega),show h0 + k - k = h0 by omega,h2]; omega⟩
theorem iso_cu (I:Pl.Iso a b σ) {i:Nat} (hi:i < 4 * a.n + 1):curlableC b (((hfk σ 1 i:Nat):Int) - 1) = curlableC a ((i:Int) - 1) := by
 unfold curlableC
 by_cases h:i = 0
 ·subst h
  rw [show hfk σ 1 0 = 0 from rfl,← I.n,← I.lp,if_pos (show ((0:Nat):Int) - 1 < 0 by decide),if_pos (show ((0:Nat):Int) - 1 < 0 by decide)]
 ·have e:hfk σ 1 i = Pl.hf σ (i - 1) + 1:=by unfold hfk; rw [if_neg (by omega)]
  rw [e,if_neg (show ¬ (((Pl.hf σ (i - 1) + 1:Nat):Int) - 1 < 0) by omega),if_neg (show ¬ ((i:Int) - 1 < 0) by omega),show (((Pl.hf σ (i - 1) + 1:Nat):Int) - 1).toNat = Pl.hf σ (i - 1) by omega,show ((i:Int) - 1).toNat = i - 1 by omega,I.out (by omega),← I.n]
theorem iso_cuL (I:Pl.Iso a b σ):(sel a (cuC (4 * a.n + 1))).length = (sel b (cuC (4 * b.n + 1))).length := by
 rw [cu_len a _ (Nat.le_refl _),cu_len b _ (Nat.le_refl _)]
 exact iso_nsmk I 1 fun i hi => by simp only [iso_cu I hi]
theorem iso_unL (I:Pl.Iso a b σ) (ha:Pl.Wf a):(sel a (unC a.n)).length = (sel b (unC b.n)).length := by
 rw [un_len a _ (Nat.le_refl _),un_len b _ (Nat.le_refl _)]
 exact iso_nsm I fun i hi => by simp only [iso_un I ha hi]
theorem up_sym {d:Pl.Dg} (hd:Pl.Wf d) {x y:Nat} (hxy:x ≠ y) (hx:x < d.n) (hy:y < d.n):(unpC d x y = 0) = (unpC d y x = 0) := propext ⟨fun h => up_comm hd hxy hx hy h,fun h => up_comm hd (Ne.symm hxy) hy hx h⟩
theorem iso_up2 (I:Pl.Iso a b σ) (ha:Pl.Wf a) (hb:Pl.Wf b) {x y:Nat} (hxy:x ≠ y) (hx:x < a.n) (hy:y < a.n):(unpC b (σ x) (σ y) = 0) = (unpC a x y = 0) := by
 refine propext ⟨fun h => ?_,fun h => iso_up I ha hb hxy hx hy h⟩
 obtain ⟨τ,J,t1,_⟩:=I.symm ha
 have hn:=I.n
 have h2:=iso_up J hb ha (x := σ x) (y := σ y) (fun e => hxy (I.inj _ _ hx hy e)) (by rw [← hn]; exact I.lt x hx) (by rw [← hn]; exact I.lt y hy) h
 rwa [t1 x hx,t1 y hy] at h2
theorem iso_upL (I:Pl.Iso a b σ) (ha:Pl.Wf a) (hb:Pl.Wf b):(sel a (upNX a.n a.n)).length = (sel b (upNX b.n b.n)).length := by
 rw [supNX_len a,supNX_len b]
 have key:nsm (fun i => nsm (fun j => if i = j then 0 else if unpC a i j = 0 then 1 else 0) a.n) a.n = nsm (fun i => nsm (fun j => if i = j then 0 else if unpC b i j = 0 then 1 else 0) b.n) b.n :=
  iso_nsm I (f := fun i => nsm (fun j => if i = j then 0 else if unpC b i j = 0 then 1 else 0) b.n) fun i hi => iso_nsm I (f := fun j => if σ i = j then 0 else if unpC b (σ i) j = 0 then 1 else 0) fun j hj => by
   by_cases e:i = j
   ·rw [if_pos e,if_pos (by rw [e])]
   ·rw [if_neg e,if_neg (fun q => e (I.inj _ _ hi hj q))]
    simp only [iso_up2 I ha hb e hi hj]
 have ka:=nsm_two (fun i j => if i = j then 0 else if unpC a i j = 0 then 1 else 0) a.n fun i j hi hj => by
  by_cases e:i = j
  ·rw [if_pos e,if_pos e.symm]
  ·rw [if_neg e,if_neg (Ne.symm e)]; simp only [up_sym ha e hi hj]
 have kb:=nsm_two (fun i j => if i = j then 0 else if unpC b i j = 0 then 1 else 0) b.n fun i j hi hj => by
  by_cases e:i = j
  ·rw [if_pos e,if_pos e.symm]
  ·rw [if_neg e,if_neg (Ne.symm e)]; simp only [up_sym hb e hi hj]
 have s1:∀ (d:Pl.Dg),nsm (fun i => nsm (fun j => if i = j then 0 else if i = j then 0 else if unpC d i j = 0 then 1 else 0) d.n) d.n = nsm (fun i => nsm (fun j => if i = j then 0 else if unpC d i j = 0 then 1 else 0) d.n) d.n:=fun d => nsm_congr _ fun i _ => nsm_congr _ fun j _ => by split <;> rfl
 have s2:∀ (d:Pl.Dg),nsm (fun i => nsm (fun j => if i < j then (if i = j then 0 else if unpC d i j = 0 then 1 else 0) else 0) d.n) d.n = nsm (fun i => nsm (fun j => if i < j then (if unpC d i j = 0 then 1 else 0) else 0) d.n) d.n:=fun d => nsm_congr _ fun i _ => nsm_congr _ fun j _ => by
  by_cases e:i < j
  ·rw [if_pos e,if_pos e,if_neg (by omega)]
  ·rw [if_neg e,if_neg e]
 rw [s1,s2] at ka kb
 omega
end
section
variable {a b:Pl.Dg} {σ:Nat → Nat}
theorem hfk_two (I:Pl.Iso a b σ) {i:Nat} (hi:i < 4 * a.n + 2):(i < 2 ∧ hfk σ 2 i = i) ∨ (2 ≤ i ∧ hfk σ 2 i = Pl.hf σ (i - 2) + 2 ∧ Pl.hf σ (i - 2) < 4 * a.n) := by
 unfold hfk
 by_cases h:i < 2
 ·exact .inl ⟨h,if_pos h⟩
 ·exact .inr ⟨by omega,if_neg h,I.hlt (by omega)⟩
theorem iso_nx (I:Pl.Iso a b σ) {h:Nat} (hh:h < 4 * a.n):Pl.nx b (Pl.hf σ h) = Pl.hf σ (Pl.nx a h) := by
 unfold Pl.nx; rw [I.m h hh,Pl.hf_tn]
theorem iso_near (I:Pl.Iso a b σ) (ha:Pl.Wf a) (hb:Pl.Wf b) {x y:Nat} (hx:x < 4 * a.n) (hy:y < 4 * a.n):nearP b (Pl.hf σ x) (Pl.hf σ y) = nearP a x y := by
 unfold nearP
 rw [Pl.hf_div,Pl.hf_div,Ne,Ne,iso_m I ha hx hy]
 have h1:=I.comp ha hb (x := x / 4) (y := y / 4) (by omega) (by omega)
 have h2:=Pl.orb_map (S := fun h => h < 4 * a.n) (t := Pl.hf σ) (f := Pl.nx a) (f' := Pl.nx b) (fun h hh => Pl.tn_lt (ha.lt h hh)) (fun h hh => iso_nx I hh) (fun g h hg hh e => I.hinj hg hh e) hx hy
 exact propext ⟨fun h => ⟨h.1.elim (fun q => .inl (h2.2 q)) (fun q => .inr (fun c => q (h1.2 c))),h.2⟩,fun h => ⟨h.1.elim (fun q => .inl (h2.1 q)) (fun q => .inr (fun c => q (h1.1 c))),h.2⟩⟩
theorem iso_pk (I:Pl.Iso a b σ) (ha:Pl.Wf a) (hb:Pl.Wf b) {i j:Nat} (hi:i < 4 * a.n + 2) (hj:j < 4 * a.n + 2) (s:Int) (o:Bool) :
 apC b ⟨3,((hfk σ 2 i:Nat):Int) - 2,((hfk σ 2 j:Nat):Int) - 2,s,o⟩ = apC a ⟨3,(i:Int) - 2,(j:Int) - 2,s,o⟩:=by
 obtain ⟨x',hx'⟩:∃ x:Int,x = ((hfk σ 2 i:Nat):Int) - 2 := ⟨_,rfl⟩
 obtain ⟨y',hy'⟩:∃ x:Int,x = ((hfk σ 2 j:Nat):Int) - 2 := ⟨_,rfl⟩
 obtain ⟨x,hx⟩:∃ x:Int,x = (i:Int) - 2 := ⟨_,rfl⟩
 obtain ⟨y,hy⟩:∃ x:Int,x = (j:Int) - 2 := ⟨_,rfl⟩
 have hn:=I.n
 have fx:=hfk_two I hi
 have fy:=hfk_two I hj
 have e1:(x' < 0) = (x < 0):=propext (by rcases fx with ⟨_,h⟩ | ⟨_,h,_⟩ <;> omega)
 have e2:(y' < 0) = (y < 0):=propext (by rcases fy with ⟨_,h⟩ | ⟨_,h,_⟩ <;> omega)
 have e3:(x' = y') = (x = y):=propext (by
  rcases fx with ⟨_,h⟩ | ⟨_,h,_⟩ <;> rcases fy with ⟨_,g⟩ | ⟨_,g,_⟩
  ·omega
  ·omega
  ·omega
  ·constructor
   ·intro q
    have:=I.hinj (g := i - 2) (h := j - 2) (by omega) (by omega) (by omega)
    omega
   ·intro q
    have:i = j:=by omega
    subst this
    omega)
 have r1:-2 ≤ x' ∧ x' < 4 * (a.n:Int):=by rcases fx with ⟨_,h⟩ | ⟨_,h,_⟩ <;> omega
 have r2:-2 ≤ y' ∧ y' < 4 * (a.n:Int):=by rcases fy with ⟨_,h⟩ | ⟨_,h,_⟩ <;> omega
 rw [← hx',← hy',← hx,← hy]
 have hin:inR b.n ⟨3,x',y',s,o⟩ = inR a.n ⟨3,x,y,s,o⟩:=by
  unfold inR
  simp only [← hn,e1,e2,e3,ne_eq]
  simp only [show ¬ ((3:Int) = 1) by decide,show ¬ ((3:Int) = 2) by decide,show ¬ ((3:Int) = 4) by decide,show ¬ ((3:Int) = 5) by decide,if_false]
  refine propext ⟨fun h => ⟨by omega,by omega,by omega,by omega,h.2.2.2.2⟩,fun h => ⟨r1.1,r1.2,r2.1,r2.2,h.2.2.2.2⟩⟩
 have hq:pkQ b x' y' s = pkQ a x y s:=by
  unfold pkQ needP
  simp only [e1,e2,← I.lp,← hn]
  have key:(0 ≤ x' ∧ 0 ≤ y' ∧ x' ≠ y' ∧ ¬ nearP b x'.toNat y'.toNat) = (0 ≤ x ∧ 0 ≤ y ∧ x ≠ y ∧ ¬ nearP a x.toNat y.toNat):=by
   by_cases h0:0 ≤ x ∧ 0 ≤ y
   ·have hx2 : x'.toNat = Pl.hf σ x.toNat := by
     rcases fx with ⟨_,h⟩ | ⟨_,h,_⟩
     ·omega
     ·rw [show x.toNat = i - 2 by omega]; omega
    have hy2:y'.toNat = Pl.hf σ y.toNat:=by
     rcases fy with ⟨_,h⟩ | ⟨_,h,_⟩
     ·omega
     ·rw [show y.toNat = j - 2 by omega]; omega
    rw [hx2,hy2,iso_near I ha hb (by omega) (by omega),Ne,Ne,e3]
    exact propext ⟨fun h => ⟨h0.1,h0.2,h.2.2⟩,fun h => ⟨by have := e1; simp only [eq_iff_iff] at this; omega,by have := e2; simp only [eq_iff_iff] at this; omega,h.2.2⟩⟩
   ·refine propext ⟨fun h => absurd ⟨?_,?_⟩ h0,fun h => absurd ⟨h.1,h.2.1⟩ h0⟩
    ·have:=e1; simp only [eq_iff_iff] at this; omega
    ·have:=e2; simp only [eq_iff_iff] at this; omega
  simp only [key]
 by_cases h:inR a.n ⟨3,x,y,s,o⟩
 ·rw [apC_in (by simp) h,apC_in (by simp) (hin ▸ h)]
  simpa using hq
 ·rw [apC_out (by simp) h,apC_out (by simp) (hin ▸ h)]
theorem iso_pkL (I:Pl.Iso a b σ) (ha:Pl.Wf a) (hb:Pl.Wf b):(sel a (pkNX a.n (4 * a.n + 2))).length = (sel b (pkNX b.n (4 * b.n + 2))).length := by
 rw [spkNX_len a,spkNX_len b]
 exact iso_nsmk I 2 (f := fun i => nsm (fun j => pk6 b ((i:Int) - 2) ((j:Int) - 2)) (4 * b.n + 2)) fun i hi => iso_nsmk I 2 (f := fun j => pk6 b (((hfk σ 2 i:Nat):Int) - 2) ((j:Int) - 2)) fun j hj => by
  unfold pk6 pk1
  simp only [iso_pk I ha hb hi hj]
theorem iso_th (I:Pl.Iso a b σ) (ha:Pl.Wf a) {h:Nat} (hh:h < 4 * a.n) (k:Nat):th b (Pl.hf σ h) k = Pl.hf σ (th a h k) := by
 have h1:Pl.nx a h < 4 * a.n:=Pl.tn_lt (ha.lt h hh)
 unfold th
 split
 ·rfl
 ·split
  ·exact iso_nx I hh
  ·rw [iso_nx I hh,iso_nx I h1]
theorem iso_eo (I:Pl.Iso a b σ) {u:Nat} (hu:u < 4 * a.n):eo b (Pl.hf σ u) = Pl.hf σ (eo a u) := by
 unfold eo
 rw [I.out hu,I.m u hu]
 split <;> rfl
theorem hf_two (σ:Nat → Nat) (h:Nat):Pl.hf σ h % 2 = h % 2 := by have := Pl.hf_mod σ h; omega
theorem iso_isO (I:Pl.Iso a b σ) (ha:Pl.Wf a) {u:Nat} (hu:u < 4 * a.n):isO b (Pl.hf σ u) = isO a u ∧ isU b (Pl.hf σ u) = isU a u := by
 have l:=eo_lt ha hu
 have e:ei b (Pl.hf σ u) = Pl.hf σ (ei a u):=by unfold ei; rw [iso_eo I hu,I.m _ l]
 unfold isO isU
 rw [e,iso_eo I hu,hf_two,hf_two]
 exact ⟨rfl,rfl⟩
theorem iso_isT (I:Pl.Iso a b σ) (ha:Pl.Wf a) {h:Nat} (hh:h < 4 * a.n):isT b (Pl.hf σ h) = isT a h := by
 have l1:=th_lt ha hh 1
 have l2:=th_lt ha hh 2
 have l3:Pl.nx a (th a h 2) < 4 * a.n:=Pl.tn_lt (ha.lt _ l2)
 unfold isT is3 cntO cntU
 rw [iso_th I ha hh 1,iso_th I ha hh 2,iso_nx I l2]
 have q1:∀ {u v:Nat},u < 4 * a.n → v < 4 * a.n → (Pl.hf σ u / 4 ≠ Pl.hf σ v / 4) = (u / 4 ≠ v / 4):=fun {u v} hu hv => by
  rw [Ne,Ne,Pl.hf_div,Pl.hf_div]
  exact propext ⟨fun e f => e (by rw [f]),fun e f => e (I.inj _ _ (by omega) (by omega) f)⟩
 rw [iso_hf I l3 hh,q1 hh l1,q1 l1 l2,q1 hh l2]
 have q2:(List.range 3).filter (fun i => isO b (th b (Pl.hf σ h) i)) = (List.range 3).filter (fun i => isO a (th a h i)):=List.filter_congr fun i _ => by rw [iso_th I ha hh i,(iso_isO I ha (th_lt ha hh i)).1]
 have q3:(List.range 3).filter (fun i => isU b (th b (Pl.hf σ h) i)) = (List.range 3).filter (fun i => isU a (th a h i)):=List.filter_congr fun i _ => by rw [iso_th I ha hh i,(iso_isO I ha (th_lt ha hh i)).2]
 rw [q2,q3]
end
theorem isT_nx {d:Pl.Dg} {h:Nat} (H:isT d h):isT d (Pl.nx d h) := by
 obtain ⟨⟨h1,h2,h3,h4⟩,h5,h6⟩:=H
 have e0:th d h 0 = h:=rfl
 have e1:th d h 1 = Pl.nx d h:=rfl
 have e2:th d h 2 = Pl.nx d (Pl.nx d h):=rfl
 rw [e1] at h2 h3
 rw [e2] at h1 h3 h4
 have f0:th d (Pl.nx d h) 0 = Pl.nx d h:=rfl
 have f1:th d (Pl.nx d h) 1 = Pl.nx d (Pl.nx d h):=rfl
 have f2:th d (Pl.nx d h) 2 = h:=h1
 refine ⟨⟨?_,?_,?_,?_⟩,?_,?_⟩
 ·rw [f2]
 ·rw [f1]; exact h3
 ·rw [f1,f2]; exact fun e => h4 e.symm
 ·rw [f2]; exact fun e => h2 e.symm
 ·rw [cntO_s,cntO_s,cntO_s] at h5 ⊢
  rw [f0,f1,f2]
  rw [e0,e1,e2] at h5
  show 0 + _ + _ + _ = 1
  have h5:0 + (if isO d h = true then 1 else 0) + (if isO d (Pl.nx d h) = true then 1 else 0) + (if isO d (Pl.nx d (Pl.nx d h)) = true then 1 else 0) = 1:=h5
  omega
 ·rw [cntU_s,cntU_s,cntU_s] at h6 ⊢
  rw [f0,f1,f2]
  rw [e0,e1,e2] at h6
  show 0 + _ + _ + _ = 1
  have h6:0 + (if isU d h = true then 1 else 0) + (if isU d (Pl.nx d h) = true then 1 else 0) + (if isU d (Pl.nx d (Pl.nx d h)) = true then 1 else 0) = 1:=h6
  omega
theorem nx_inj {d:Pl.Dg} (hd:Pl.Wf d) {g h:Nat} (hg:g < 4 * d.n) (hh:h < 4 * d.n) (e:Pl.nx d g = Pl.nx d h):g = h := by
 have h1:d.m g = d.m h:=Pl.tn_inj e
 rw [← hd.inv g hg,h1,hd.inv h hh]
theorem isT_back {d:Pl.Dg} (hd:Pl.Wf d) {h:Nat} (hh:h < 4 * d.n) (H:isT d (Pl.nx d h)):isT d h := by
 have e:Pl.nx d (Pl.nx d (Pl.nx d (Pl.nx d h))) = Pl.nx d h:=H.1.1
 have l:∀ {z},z < 4 * d.n → Pl.nx d z < 4 * d.n:=fun hz => Pl.tn_lt (hd.lt _ hz)
 have e2:=nx_inj hd (l (l (l hh))) hh e
 have:=isT_nx (isT_nx H)
 rwa [e2] at this
open Classical in
theorem nsm_nx {d:Pl.Dg} (hd:Pl.Wf d) (f:Nat → Nat):nsm (fun h => f (Pl.nx d h)) (4 * d.n) = nsm f (4 * d.n) :=
 nsm_bij f (4 * d.n) (4 * d.n) (Pl.nx d) (fun i hi => Pl.tn_lt (hd.lt i hi)) (fun i j hi hj e => nx_inj hd hi hj e) fun y hy =>
  .inl ⟨d.m (Pl.tn y 1),hd.lt _ (Pl.tn_lt hy),by unfold Pl.nx; rw [hd.inv _ (Pl.tn_lt hy),Pl.tn_tn,Pl.tn_four]⟩
open Classical in
theorem sl_three {d:Pl.Dg} (hd:Pl.Wf d):nsm (fun h => if isT d h then 1 else 0) (4 * d.n) = 3 * (slL d (4 * d.n)).length := by
 have l:∀ {z},z < 4 * d.n → Pl.nx d z < 4 * d.n:=fun hz => Pl.tn_lt (hd.lt _ hz)
 have key:nsm (fun h => if isT d h then 1 else 0) (4 * d.n) = nsm (fun h => (if slP d h then 1 else 0) + ((if slP d (Pl.nx d h) then 1 else 0) + (if slP d (Pl.nx d (Pl.nx d h)) then 1 else 0))) (4 * d.n):=nsm_congr _ fun h hh => by
  by_cases H:isT d h
  ·have H1:=isT_nx H
   have H2:=isT_nx H1
   obtain ⟨u,hu⟩:∃ u,u = Pl.nx d h := ⟨_,rfl⟩
   obtain ⟨v,hv⟩:∃ z,z = Pl.nx d u := ⟨_,rfl⟩
   have e:Pl.nx d v = h:=by rw [hv,hu]; exact H.1.1
   have d1:h / 4 ≠ u / 4:=by rw [hu]; exact H.1.2.1
   have d2:u / 4 ≠ v / 4:=by rw [hv,hu]; exact H.1.2.2.1
   have d3:h / 4 ≠ v / 4:=by rw [hv,hu]; exact H.1.2.2.2
   rw [← hu] at H1 H2
   rw [← hv] at H2
   rw [← hu,← hv]
   have p0:slP d h ↔ h ≤ u ∧ h ≤ v:=by
    unfold slP; rw [show th d h 1 = u from hu.symm,show th d h 2 = v by rw [hv,hu]; rfl]
    exact ⟨fun q => ⟨q.1,q.2.1⟩,fun q => ⟨q.1,q.2,H⟩⟩
   have p1:slP d u ↔ u ≤ v ∧ u ≤ h:=by
    unfold slP; rw [show th d u 1 = v from hv.symm,show th d u 2 = h by rw [← e,hv]; rfl]
    exact ⟨fun q => ⟨q.1,q.2.1⟩,fun q => ⟨q.1,q.2,H1⟩⟩
   have p2:slP d v ↔ v ≤ h ∧ v ≤ u:=by
    unfold slP; rw [show th d v 1 = h from e,show th d v 2 = u by show Pl.nx d (Pl.nx d v) = u; rw [e,← hu]]
    exact ⟨fun q => ⟨q.1,q.2.1⟩,fun q => ⟨q.1,q.2,H2⟩⟩
   rw [if_pos H]
   simp only [p0,p1,p2]
   split <;> split <;> split <;> omega
  ·have n1:¬ slP d (Pl.nx d h):=fun q => H (isT_back hd hh q.2.2)
   have n2:¬ slP d (Pl.nx d (Pl.nx d h)):=fun q => H (isT_back hd hh (isT_back hd (l hh) q.2.2))
   rw [if_neg H,if_neg (fun q => H q.2.2),if_neg n1,if_neg n2]
 have s1:=nsm_nx hd (fun h => if slP d h then 1 else 0)
 have s2:=nsm_nx hd (fun h => if slP d (Pl.nx d h) then 1 else 0)
 rw [key,nsm_add,nsm_add,s1,sl_len d]
 have s2':nsm (fun h => if slP d (Pl.nx d (Pl.nx d h)) then 1 else 0) (4 * d.n) = nsm (fun h => if slP d (Pl.nx d h) then 1 else 0) (4 * d.n):=s2
 omega
open Classical in
theorem iso_slL {a b:Pl.Dg} {σ:Nat → Nat} (I:Pl.Iso a b σ) (ha:Pl.Wf a) (hb:Pl.Wf b):(slL a (4 * a.n)).length = (slL b (4 * b.n)).length := by
 have h1:=sl_three ha
 have h2:=sl_three hb
 have h3:nsm (fun h => if isT a h then 1 else 0) (4 * a.n) = nsm (fun h => if isT b h then 1 else 0) (4 * b.n):=iso_nsm4 I fun i hi => by simp only [iso_isT I ha hi]
 omega
def kc (k:Int) (l:List Mv):Nat := (l.filter (fun m => decide (m.kind = k))).length
theorem kc_app (k:Int) (l r:List Mv):kc k (l ++ r) = kc k l + kc k r := by unfold kc; rw [List.filter_append,List.length_append]
theorem kc_all {k k':Int} {l:List Mv} (h:∀ z ∈ l,z.kind = k'):kc k l = if k' = k then l.length else 0 := by
 unfold kc
 by_cases e:k' = k
 ·rw [if_pos e,List.filter_eq_self.2 fun z hz => by rw [h z hz]; exact decide_eq_true e]
 ·rw [if_neg e,List.filter_eq_nil_iff.2 fun z hz => by rw [h z hz]; simpa using e]; rfl
theorem cuC_kind {z:Mv}:∀ {k:Nat},z ∈ cuC k → z.kind = 1
 | 0,h => by cases h
 | k + 1, h => by
   have h:z ∈ cuC k ++ cuN ((k:Int) - 1):=h
   rw [List.mem_append] at h
   rcases h with h | h
   ·exact cuC_kind h
   ·simp only [cuN,List.mem_cons,List.not_mem_nil,or_false] at h
    rcases h with rfl | rfl | rfl | rfl <;> rfl
theorem kc_allL (d:Pl.Dg) (k:Int):kc k (allL d) = (if (1:Int) = k then (sel d (cuC (4 * d.n + 1))).length else 0) + (if (2:Int) = k then (sel d (unC d.n)).length else 0) + (if (3:Int) = k then (sel d (pkNX d.n (4 * d.n + 2))).length else 0) + (if (4:Int) = k then (sel d (upNX d.n d.n)).length else 0) + (if (5:Int) = k then (slL d (4 * d.n)).length else 0) := by
 unfold allL
 rw [kc_app,kc_app,kc_app,kc_app,kc_all (k' := 1) fun z hz => cuC_kind (mem_sel.1 hz).1,kc_all (k' := 2) fun z hz => by obtain ⟨c,_,rfl⟩:=rm_unC.1 (mem_sel.1 hz).1; rfl,kc_all (k' := 3) fun z hz => pkNX_kind (mem_sel.1 hz).1,kc_all (k' := 4) fun z hz => by obtain ⟨x,y,_,_,_,rfl⟩:=rm_upNX.1 (mem_sel.1 hz).1; rfl,kc_all (k' := 5) fun z hz => by obtain ⟨h,_,_,rfl⟩:=(slL_mem d z _).1 hz; rfl]
theorem iso_kinds {a b:Pl.Dg} {σ:Nat → Nat} (I:Pl.Iso a b σ) (ha:Pl.Wf a) (hb:Pl.Wf b) (k:Int):kc k (allL a) = kc k (allL b) := by
 rw [kc_allL,kc_allL,iso_cuL I,iso_unL I ha,iso_pkL I ha hb,iso_upL I ha hb,iso_slL I ha hb]
theorem allL_kinds {d:Pl.Dg} {z:Mv} (h:z ∈ allL d):1 ≤ z.kind ∧ z.kind ≤ 5 := by
 unfold allL at h
 simp only [List.mem_append] at h
 rcases h with (((h | h) | h) | h) | h
 ·rw [cuC_kind (mem_sel.1 h).1]; decide
 ·obtain ⟨c,_,rfl⟩:=rm_unC.1 (mem_sel.1 h).1; exact ⟨(by decide:(1:Int) ≤ 2),(by decide:(2:Int) ≤ 5)⟩
 ·rw [pkNX_kind (mem_sel.1 h).1]; decide
 ·obtain ⟨x,y,_,_,_,rfl⟩:=rm_upNX.1 (mem_sel.1 h).1; exact ⟨(by decide:(1:Int) ≤ 4),(by decide:(4:Int) ≤ 5)⟩
 ·obtain ⟨u,_,_,rfl⟩:=(slL_mem d z _).1 h; exact ⟨(by decide:(1:Int) ≤ 5),(by decide:(5:Int) ≤ 5)⟩
end Go.Proofs.Ytghdiolnonejaaa
end
section
namespace Go.Proofs.Ytghdiolnonejaaa
open Go Go.RowKit
section
variable {a b:Pl.Dg} {σ:Nat → Nat}
theorem iso_kA (I:Pl.Iso a b σ) (ha:Pl.Wf a) {c:Nat} (hc:c < a.n):kA b (σ c) = Pl.hf σ (kA a c) := by unfold kA; rw [iso_kk I ha hc,Pl.hf_tn]
theorem iso_kB (I:Pl.Iso a b σ) (ha:Pl.Wf a) {c:Nat} (hc:c < a.n):kB b (σ c) = Pl.hf σ (kB a c) := by unfold kB; rw [iso_kk I ha hc,I.m _ (kk_lt hc),Pl.hf_tn]
theorem iso_cl (I:Pl.Iso a b σ) (ha:Pl.Wf a) {c:Nat} (hc:c < a.n):(b.m (kA b (σ c)) = kB b (σ c)) = (a.m (kA a c) = kB a c) := by
 rw [iso_kA I ha hc,iso_kB I ha hc,iso_m I ha (kA_lt hc) (kB_lt ha hc)]
theorem iso_unM (I:Pl.Iso a b σ) (ha:Pl.Wf a) (hb:Pl.Wf b) {c h:Nat} (hc:c < a.n) (hh:h < 4 * a.n):(unM b (σ c)).getD (Pl.hf σ h) 0 = Pl.hf σ ((unM a c).getD h 0) := by
 have hA:=kA_lt hc
 have hB:=kB_lt ha hc
 have lA:=ha.lt _ hA
 have lB:=ha.lt _ hB
 have hn:=I.n
 have hh2:Pl.hf σ h < 4 * b.n:=by rw [← hn]; exact I.hlt hh
 unfold unM
 simp only [iso_cl I ha hc]
 by_cases e:a.m (kA a c) = kB a c
 ·rw [if_pos e,if_pos e,mt_m hb hh2,mt_m ha hh,I.m h hh]
 ·rw [if_neg e,if_neg e,iso_kA I ha hc,iso_kB I ha hc,I.m _ hA,I.m _ hB,jn_get (l := a.mt) (by rw [ha.len]; exact lA) (by rw [ha.len]; exact lB),jn_get (l := b.mt) (by rw [hb.len,← hn]; exact I.hlt lA) (by rw [hb.len,← hn]; exact I.hlt lB),mt_m hb hh2,mt_m ha hh,I.m h hh]
  simp only [iso_hf I hh lB,iso_hf I hh lA]
  split
  ·rfl
  ·split <;> rfl
theorem un_stay {d:Pl.Dg} (hd:Pl.Valid d) {c:Nat} (hc:c < d.n) (h:uncC d c = 0) {z:Nat} (hz:z < 4 * d.n) (hzc:z / 4 ≠ c):(unM d c).getD z 0 < 4 * d.n ∧ (unM d c).getD z 0 / 4 ≠ c := by
 have hw:=hd.wf
 have ho:=kk_lt hc
 have hod:=kk_div d c
 have st:Pl.stay d [kk d c / 4] z:=⟨hz,by rw [hod]; simpa using hzc⟩
 unfold uncC at h
 by_cases hk:d.m (kk d c) / 4 = c
 ·have hk2:d.m (kk d c) / 4 = kk d c / 4:=by rw [hod,hk]
  unfold unM
  by_cases hn:d.m (kA d c) = kB d c
  ·rw [if_pos hn]
   have R:=Pl.kink_rs0 hd ho hk2 hn (Nat.zero_le 64)
   have s:=R.stay st
   rw [R.at_ z st]
   exact ⟨s.1,by have := s.2; rw [hod] at this; simpa using this⟩
  ·rw [if_neg hn]
   have hA:=kA_lt hc
   have hB:=kB_lt hw hc
   have nAB:d.m (kA d c) ≠ d.m (kB d c):=fun e => hw.ne _ ho (Pl.tn_inj (hw.bij.inj _ _ hA hB e).symm)
   have hmt:∀ z,z < 4 * d.n → (jn d.mt (d.m (kA d c)) (d.m (kB d c))).getD z 0 = if z = d.m (kA d c) then d.m (kB d c) else if z = d.m (kB d c) then d.m (kA d c) else d.m z:=fun z hz => by
    rw [jn_jl,Pl.jl_at (by rw [hw.len]; exact hw.lt _ hA) (by rw [hw.len]; exact hw.lt _ hB),Pl.dg_m hw hz]
    by_cases z1:z = d.m (kB d c)
    ·rw [if_pos z1,if_neg (fun e => nAB (e.symm.trans z1)),if_pos z1]
    ·rw [if_neg z1,if_neg z1]
   have R:=Pl.kink_rs hd ho hk2 hn (Nat.zero_le 64) hmt
   have s:=R.stay st
   rw [R.at_ z st]
   exact ⟨s.1,by have := s.2; rw [hod] at this; simpa using this⟩
 ·rw [if_neg hk] at h; exact absurd h (by decide)
theorem no_one {c e:Nat} (h:e ≠ c):e ∉ [c] := by simpa using h
theorem iso_unD (I:Pl.Iso a b σ) (ha:Pl.Valid a) (hb:Pl.Wf b) {c:Nat} (hc:c < a.n) (h:uncC a c = 0):∃ ρ,Pl.Iso (unD a c) (unD b (σ c)) ρ := by
 have hn:=I.n
 have hcb:σ c < b.n:=by rw [← hn]; exact I.lt c hc
 have n1:(unD a c).n = (Pl.left a.n [c]).length:=Pl.rs_n a [c] (unM a c) _
 have n2:(unD b (σ c)).n = (Pl.left b.n [σ c]).length:=Pl.rs_n b [σ c] (unM b (σ c)) _
 have l1:=Pl.left_one hc
 have l2:=Pl.left_one hcb
 have nd:∀ x:Nat,[x].Nodup:=fun x => by simp
 have hx:∀ i,∃ e,i < (unD a c).n → e < a.n ∧ e ≠ c ∧ Pl.idx [c] e = i:=fun i => by
  by_cases hi:i < (unD a c).n
  ·obtain ⟨e,e1,e2,e3⟩:=Pl.idx_onto (nd c) (n := a.n) (i := i) (by rw [← n1]; exact hi)
   exact ⟨e,fun _ => ⟨e1,by simpa using e2,e3⟩⟩
  ·exact ⟨0,fun q => absurd q hi⟩
 let up := fun i => Classical.choose (hx i)
 have u1:∀ i,i < (unD a c).n → up i < a.n ∧ up i ≠ c ∧ Pl.idx [c] (up i) = i:=fun i => Classical.choose_spec (hx i)
 have u2:∀ e,e < a.n → e ≠ c → up (Pl.idx [c] e) = e:=fun e he hec => by
  have hi:Pl.idx [c] e < (unD a c).n:=by rw [n1]; exact Pl.idx_lt (nd c) he (no_one hec)
  obtain ⟨q1,q2,q3⟩:=u1 _ hi
  exact Pl.idx_inj (nd c) (no_one q2) (no_one hec) q3
 have sc:∀ e,e < a.n → e ≠ c → σ e ≠ σ c:=fun e he hec q => hec (I.inj _ _ he hc q)
 have key:∀ z,z < 4 * a.n → z / 4 ≠ c → Pl.hf (fun i => Pl.idx [σ c] (σ (up i))) (Pl.shf [c] z) = Pl.shf [σ c] (Pl.hf σ z):=fun z hz hzc => by
  rw [Pl.shf_idx (Pl.few_one _),Pl.shf_idx (Pl.few_one _),Pl.hf_div,Pl.hf_mod,Pl.hf_at _ _ (Nat.mod_lt _ (by omega))]
  show 4 * Pl.idx [σ c] (σ (up (Pl.idx [c] (z / 4)))) + _ = _
  rw [u2 _ (by omega) hzc]
 refine ⟨fun i => Pl.idx [σ c] (σ (up i)),by rw [n1,n2]; omega,?_,fun i hi => ?_,fun i j hi hj e => ?_,fun i hi => ?_,fun x hx => ?_⟩
 ·show (if a.m (kA a c) = kB a c then a.lp + 1 else a.lp) = (if b.m (kA b (σ c)) = kB b (σ c) then b.lp + 1 else b.lp)
  simp only [iso_cl I ha.wf hc,I.lp]
 ·obtain ⟨q1,q2,q3⟩:=u1 i hi
  have:=Pl.idx_lt (nd (σ c)) (n := b.n) (c := σ (up i)) (by rw [← hn]; exact I.lt _ q1) (no_one (sc _ q1 q2))
  show Pl.idx [σ c] (σ (up i)) < _
  omega
 ·obtain ⟨q1,q2,q3⟩:=u1 i hi
  obtain ⟨r1,r2,r3⟩:=u1 j hj
  have:=I.inj _ _ q1 r1 (Pl.idx_inj (nd (σ c)) (no_one (sc _ q1 q2)) (no_one (sc _ r1 r2)) e)
  rw [← q3,← r3,this]
 ·obtain ⟨q1,q2,q3⟩:=u1 i hi
  have e1:=Pl.rs_s (nd c) a (unM a c) (if a.m (kA a c) = kB a c then a.lp + 1 else a.lp) q1 (no_one q2)
  have e2:=Pl.rs_s (nd (σ c)) b (unM b (σ c)) (if b.m (kA b (σ c)) = kB b (σ c) then b.lp + 1 else b.lp) (c := σ (up i)) (by rw [← hn]; exact I.lt _ q1) (no_one (sc _ q1 q2))
  rw [q3] at e1
  show (unD b (σ c)).s (Pl.idx [σ c] (σ (up i))) = (unD a c).s i
  exact (e2.trans (I.s _ q1)).trans e1.symm
 ·obtain ⟨z,⟨z1,z2⟩,z3⟩:=Pl.shf_onto (nd c) (Pl.few_one c) (d := a) (unM a c) (if a.m (kA a c) = kB a c then a.lp + 1 else a.lp) (y := x) hx
  have z2':z / 4 ≠ c:=by simpa using z2
  have e1:=Pl.rs_m (nd c) (Pl.few_one c) a (unM a c) (if a.m (kA a c) = kB a c then a.lp + 1 else a.lp) z1 z2
  have e2:=Pl.rs_m (nd (σ c)) (Pl.few_one (σ c)) b (unM b (σ c)) (if b.m (kA b (σ c)) = kB b (σ c) then b.lp + 1 else b.lp) (h := Pl.hf σ z) (by rw [← hn]; exact I.hlt z1) (by rw [Pl.hf_div]; exact no_one (sc _ (by omega) z2'))
  have s:=un_stay ha hc h z1 z2'
  have e1':(unD a c).m x = Pl.shf [c] ((unM a c).getD z 0):=by rw [← z3]; exact e1
  rw [e1',key _ s.1 s.2,← z3,key _ z1 z2']
  refine Eq.trans e2 ?_
  rw [iso_unM I ha.wf hb hc z1]
theorem crl_medge {d:Pl.Dg} (hd:Pl.Wf d) {k:Nat} {s:Int} {ov:Bool} (hs:s = 1 ∨ s = -1) (hk:k < 4 * d.n) (z:Nat) :
 (crl d (k:Int) s ov).m z = if z = kI0 d.n s ov then k else if z = k then kI0 d.n s ov else if z = d.m k then kO1 d.n s ov else if z = kO1 d.n s ov then d.m k else if z = kI1 d.n s ov then kO0 d.n s ov else if z = kO0 d.n s ov then kI1 d.n s ov else (d.mt ++ List.replicate 4 0).getD z z := by
 obtain ⟨a1,a2,a3,a4,_⟩:=(kq d.n s ov hs).bd
 have hl:=hd.len
 have hy:=hd.lt k hk
 have e:(crl d (k:Int) s ov).mt = jn (jn (jn (d.mt ++ List.replicate 4 0) (kO0 d.n s ov) (kI1 d.n s ov)) (kO1 d.n s ov) (d.m k)) k (kI0 d.n s ov):=by
  unfold crl; simp only [if_neg (show ¬ ((k:Int) < 0) by omega),Int.toNat_natCast]
 show (crl d (k:Int) s ov).mt.getD z z = _
 rw [e,jn_m _ _ _ _ _ (by rw [jn_len,jn_len]; simp; omega) (by rw [jn_len,jn_len]; simp; omega),jn_m _ _ _ _ _ (by rw [jn_len]; simp; omega) (by rw [jn_len]; simp; omega),jn_m _ _ _ _ _ (by simp; omega) (by simp; omega)]
theorem iso_crl (I:Pl.Iso a b σ) (ha:Pl.Wf a) (hb:Pl.Wf b) {k:Nat} {s:Int} {ov:Bool} (hs:s = 1 ∨ s = -1) (hk:k < 4 * a.n):∃ ρ,Pl.Iso (crl a (k:Int) s ov) (crl b ((Pl.hf σ k:Nat):Int) s ov) ρ := by
 have hn:=I.n
 have hy:=ha.lt k hk
 have hne:=ha.ne k hk
 obtain ⟨a1,a2,a3,a4,n1,n2,n3,n4,n5,n6⟩:=(kq a.n s ov hs).bd
 have hkb:Pl.hf σ k < 4 * b.n:=by rw [← hn]; exact I.hlt hk
 have s1:∀ c,c < a.n → (fun i => if i < a.n then σ i else i) c = σ c:=fun c hc => if_pos hc
 have f1:∀ z,z < 4 * a.n → Pl.hf (fun i => if i < a.n then σ i else i) z = Pl.hf σ z:=fun z hz => by
  unfold Pl.hf; rw [s1 _ (by omega)]
 have f2:∀ z,4 * a.n ≤ z → Pl.hf (fun i => if i < a.n then σ i else i) z = z:=fun z hz => by
  unfold Pl.hf
  show 4 * (if z / 4 < a.n then σ (z / 4) else z / 4) + z % 4 = z
  rw [if_neg (by omega)]; omega
 refine ⟨fun i => if i < a.n then σ i else i,by rw [crl_n,crl_n,hn],?_,fun c hc => ?_,fun c c' hc hc' e => ?_,fun c hc => ?_,fun z hz => ?_⟩
 ·show (if (k:Int) < 0 then a.lp - 1 else a.lp) = (if ((Pl.hf σ k:Nat):Int) < 0 then b.lp - 1 else b.lp)
  rw [if_neg (by omega),if_neg (by omega),I.lp]
 ·rw [crl_n] at hc ⊢
  show (if c < a.n then σ c else c) < _
  by_cases e:c < a.n
  ·rw [if_pos e]; have := I.lt c e; omega
  ·rw [if_neg e]; exact hc
 ·rw [crl_n] at hc hc'
  have e:(if c < a.n then σ c else c) = (if c' < a.n then σ c' else c'):=e
  by_cases q:c < a.n <;> by_cases q':c' < a.n
  ·rw [if_pos q,if_pos q'] at e; exact I.inj _ _ q q' e
  ·rw [if_pos q,if_neg q'] at e; have := I.lt c q; omega
  ·rw [if_neg q,if_pos q'] at e; have := I.lt c' q'; omega
  ·omega
 ·rw [crl_n] at hc
  show (crl b _ s ov).s (if c < a.n then σ c else c) = _
  by_cases e:c < a.n
  ·rw [if_pos e,crl_s e,crl_s (by rw [← hn]; exact I.lt c e),I.s c e]
  ·rw [if_neg e,show c = a.n by omega,crl_s']
   rw [hn,crl_s']
 ·rw [crl_n] at hz
  rw [crl_medge ha hs hk,crl_medge hb hs hkb,I.m k hk,← hn]
  by_cases hz0:z < 4 * a.n
  ·rw [f1 z hz0]
   have l:=I.hlt hz0
   rw [if_neg (by omega),if_neg (show ¬ z = kI0 a.n s ov by omega)]
   simp only [iso_hf I hz0 hk,iso_hf I hz0 hy]
   by_cases e1:z = k
   ·rw [if_pos e1,if_pos e1,f2 _ (by omega)]
   ·rw [if_neg e1,if_neg e1]
    by_cases e2:z = a.m k
    ·rw [if_pos e2,if_pos e2,f2 _ (by omega)]
    ·rw [if_neg e2,if_neg e2,if_neg (by omega),if_neg (by omega),if_neg (by omega),if_neg (by omega),if_neg (by omega),if_neg (by omega),app_m (by rw [hb.len,← hn]; exact l),app_m (by rw [ha.len]; exact hz0)]
     have q:=f1 _ (ha.lt z hz0)
     exact (I.m z hz0).trans q.symm
  ·rw [f2 z (by omega)]
   by_cases e1:z = kI0 a.n s ov
   ·rw [if_pos e1,if_pos e1,f1 k hk]
   ·have l1:=I.hlt hk
    have l2:=I.hlt hy
    rw [if_neg e1,if_neg e1,if_neg (show ¬ z = Pl.hf σ k by omega),if_neg (show ¬ z = Pl.hf σ (a.m k) by omega),if_neg (show ¬ z = k by omega),if_neg (show ¬ z = a.m k by omega)]
    by_cases e2:z = kO1 a.n s ov
    ·rw [if_pos e2,if_pos e2,f1 _ hy]
    ·rw [if_neg e2,if_neg e2]
     by_cases e3:z = kI1 a.n s ov
     ·rw [if_pos e3,if_pos e3,f2 _ (by omega)]
     ·rw [if_neg e3,if_neg e3]
      have e4:z = kO0 a.n s ov:=by omega
      rw [if_pos e4,if_pos e4,f2 _ (by omega)]
end
theorem iso_move {a b:Pl.Dg} {σ:Nat → Nat} (I:Pl.Iso a b σ) (ha:Pl.Valid a) (hb:Pl.Valid b) {k x y s:Int} {o:Bool} (hk:k = 1 ∨ k = 2) (hx:0 ≤ x) (h:apC b ⟨k,x,y,s,o⟩ = 0) :
 ∃ c,c < a.n ∧ apC a ⟨k,if k = 1 then 4 * (c:Int) + x % 4 else c,y,s,o⟩ = 0 ∧ ∃ ρ,Pl.Iso (apD a ⟨k,if k = 1 then 4 * (c:Int) + x % 4 else c,y,s,o⟩) (apD b ⟨k,x,y,s,o⟩) ρ := by
 obtain ⟨h1,h2,h3⟩:=apC_zero h
 have hn:=I.n
 obtain ⟨u,rfl⟩:=Int.eq_ofNat_of_zero_le hx
 rcases hk with rfl | rfl
 ·have h2':-1 ≤ (u:Int) ∧ (u:Int) < 4 * (b.n:Int) ∧ y = 0 ∧ (s = 1 ∨ s = -1):=by unfold inR at h2; simpa using h2
  have h3:curlableC b (u:Int) = 0:=h3
  obtain ⟨g,g1,g2⟩:=I.onto (g := u) (by omega)
  have gm:=Pl.hf_mod σ g
  have e:4 * ((g / 4:Nat):Int) + (u:Int) % 4 = (g:Int):=by omega
  refine ⟨g / 4,by omega,?_,?_⟩
  ·rw [if_pos rfl,e,apC_in (by simp) (by unfold inR; simp; omega)]
   show curlableC a (g:Int) = 0
   rw [← h3,← g2]
   unfold curlableC
   rw [if_neg (show ¬ ((g:Int) < 0) by omega),if_neg (show ¬ (((Pl.hf σ g:Nat):Int) < 0) by omega),Int.toNat_natCast,Int.toNat_natCast,I.out g1,hn]
  ·rw [if_pos rfl,e]
   show ∃ ρ,Pl.Iso (crl a (g:Int) s o) (crl b (u:Int) s o) ρ
   rw [← g2]
   exact iso_crl I ha.wf hb.wf h2'.2.2.2 g1
 ·have h2':0 ≤ (u:Int) ∧ (u:Int) < (b.n:Int) ∧ y = 0 ∧ s = 0 ∧ o = false:=by unfold inR at h2; simpa using h2
  have h3:uncC b (u:Int).toNat = 0:=h3
  obtain ⟨_,hub,rfl,rfl,rfl⟩:=h2'
  rw [Int.toNat_natCast] at h3
  obtain ⟨g,g1,g2⟩:=I.onto (g := 4 * u) (by omega)
  have gd:=Pl.hf_div σ g
  have e:σ (g / 4) = u:=by omega
  have hc:g / 4 < a.n:=by omega
  have z:uncC a (g / 4) = 0:=by rw [← iso_un I ha.wf hc,e]; exact h3
  refine ⟨g / 4,hc,?_,?_⟩
  ·rw [if_neg (by decide),apC_in (by simp) (by unfold inR; simp; omega)]
   show uncC a ((g / 4:Nat):Int).toNat = 0
   rw [Int.toNat_natCast]; exact z
  ·rw [if_neg (by decide)]
   show ∃ ρ,Pl.Iso (unD a ((g / 4:Nat):Int).toNat) (unD b (u:Int).toNat) ρ
   rw [Int.toNat_natCast,Int.toNat_natCast,← e]
   exact iso_unD I ha hb.wf hc z
theorem ap12 {d:Pl.Dg} (hd:Pl.Valid d) {k x y s:Int} {o:Bool} (hk:k = 1 ∨ k = 2) (h:apC d ⟨k,x,y,s,o⟩ = 0):Pl.Valid (apD d ⟨k,x,y,s,o⟩) ∧ (apD d ⟨k,x,y,s,o⟩).n ≤ d.n + 1 := by
 obtain ⟨_,hin,hc⟩:=apC_zero h
 rcases hk with rfl | rfl
 ·have hb:(-1 ≤ x ∧ x < 4 * d.n) ∧ (s = 1 ∨ s = -1):=by unfold inR at hin; simp at hin; exact ⟨⟨hin.1,hin.2.1⟩,hin.2.2.2⟩
  refine ⟨(crl_ok hd hb.1 hb.2 hc).1,?_⟩
  show (crl d x s o).n ≤ _
  rw [crl_n]; exact Nat.le_refl _
 ·obtain ⟨c,rfl⟩:=Int.eq_ofNat_of_zero_le (show 0 ≤ x by unfold inR at hin; simp at hin; omega)
  have hcn:c < d.n:=by unfold inR at hin; simp at hin; omega
  refine ⟨(unD_ok hd hcn hc).1,?_⟩
  show (unD d c).n ≤ _
  have e:(unD d c).n = (Pl.left d.n [c]).length:=Pl.rs_n d [c] (unM d c) _
  have:=Pl.left_le d.n [c]
  omega
end Go.Proofs.Ytghdiolnonejaaa
end
