/-
  The texts Vk.
-/
import Derived.Test.YtdgliimmnnhhjaaGreatDoorU11
import Derived.Test.YtdgliimmnnhhjaaGreatDoorU40
set_option linter.unusedVariables false
set_option linter.unusedSimpArgs false
section
namespace Go.Proofs.YtdgliimmnnhhjaaGreatDoor
open Go Go.RowKit
attribute [local go_sem ↓] Go.wp_at_zero Go.wp_at_succ
structure SI (base:Nat) (w:World) (A:Option Addr) (n c:Nat) (cs:List Value) (ps:List Pl.Pc) (W:World):Prop where
 own:W.ownsRow base 64 3 (.slice A n c) n cs
 pv:PcsV W cs ps
 len:ps.length=n
 bel:Below base w W
 big:base≤W.heap.size
theorem SI.below {base:Nat}{w W W':World}{A:Option Addr}{n c:Nat}{cs:List Value}{ps:List Pl.Pc}(h:SI base w A n c cs ps W)(hb:Below W.heap.size W W'):SI base w A n c cs ps W' :=
 ⟨own_below h.own hb,h.pv.map (fun p=>p.below hb),h.len,h.bel.trans (hb.mono h.big),Nat.le_trans h.big hb.size⟩
theorem own_free {W:World}{base s g n c:Nat}{e:TypeId}{xs:List Value}(h:W.ownsRow base e s (.slice (some ⟨g,0,none⟩) n c) n xs):∀o,W.frozen? ⟨g,o,none⟩=false:=by
 rcases h.2 with ⟨h1,_⟩ | ⟨g',cap,cur,h1,_,h3,_⟩
 ·cases h1
 ·injection h1 with h1
  injection h1 with h1
  injection h1 with h1
  subst h1
  exact Row.free (t:=e) (vs:=cur.toList) (show W.heap[g]? = _ by rw [h3])
theorem own_setIn {W:World}{base s g n c k:Nat}{e:TypeId}{xs:List Value}(h:W.ownsRow base e s (.slice (some ⟨g,0,none⟩) n c) n xs)(v:Value):(W.setCell ⟨g,k,none⟩ v).ownsRow base e s (.slice (some ⟨g,0,none⟩) n c) n (xs.set k v):=by
 refine ⟨by rw [List.length_set];exact h.1,?_⟩
 rcases h.2 with ⟨h1,_⟩ | ⟨g',cap,cur,h1,h2,h3,h4,h5,h6,h7⟩
 ·cases h1
 ·injection h1 with h1 h1b h1c
  injection h1 with h1
  injection h1 with h1
  subst h1
  have hr:Row W g e cur.toList:=by show W.heap[g]? = _;rw [h3]
  have hs:=hr.set k v
  refine .inr ⟨g,cap,(cur.toList.set k v).toArray,by rw [h1c],h2,hs,h4,h5,by simp;exact h6,?_⟩
  simp only [List.toList_toArray]
  rw [List.take_set,h7]
def PcSz (p:Pl.Pc):Prop:=p.order.length≤64∧p.code.length=5 * p.order.length
theorem own_rowE {W:World}{base s g n c:Nat}{e:TypeId}{xs:List Value}(h:W.ownsRow base e s (.slice (some ⟨g,0,none⟩) n c) n xs):base≤g∧∃us,Row W g e us:=by
 rcases h.2 with ⟨h1,_⟩ | ⟨g',cap,cur,h1,h2,h3,_⟩
 ·cases h1
 ·injection h1 with h1
  injection h1 with h1
  injection h1 with h1
  subst h1
  exact ⟨h2,cur.toList,by show W.heap[g]? = _;rw [h3]⟩
theorem PcV.store3 {W:World}{vC vO:Value}{x:Int}{p:Pl.Pc}(h:PcV W vC vO x p){g:Nat}{us:List Value}(hr:Row W g 64 us)(a b c:Nat)(y0 y1 y2:Value) :
 PcV (((W.setCell ⟨g,a,none⟩ y0).setCell ⟨g,b,none⟩ y1).setCell ⟨g,c,none⟩ y2) vC vO x p :=
 ((h.store hr (by decide) y0).store (hr.set a y0) (by decide) y1).store ((hr.set a y0).set b y1) (by decide) y2
theorem SI.set3 {base g n c:Nat}{w W:World}{cs:List Value}{ps:List Pl.Pc}(h:SI base w (some ⟨g,0,none⟩) n c cs ps W){vC vO:Value}{x:Int}{p:Pl.Pc}(hp:PcV W vC vO x p){j:Nat}(hj:j<ps.length) :
 SI base w (some ⟨g,0,none⟩) n c (((cs.set (j * 3) vC).set (j * 3+1) vO).set (j * 3+2) (.int .i64 x)) (ps.set j p) (((W.setCell ⟨g,j * 3,none⟩ vC).setCell ⟨g,j * 3+1,none⟩ vO).setCell ⟨g,j * 3+2,none⟩ (.int .i64 x)):=by
 obtain ⟨hb,us,hr⟩:=own_rowE h.own
 exact ⟨own_setIn (own_setIn (own_setIn h.own _) _) _,PcsV.put (hp.store3 hr _ _ _ _ _ _) (h.pv.map (fun q=>q.store3 hr _ _ _ _ _ _)) j hj,by rw [List.length_set];exact h.len,((h.bel.setCell (by show _≤g;exact hb) _).setCell (by show _≤g;exact hb) _).setCell (by show _≤g;exact hb) _,by simpa using h.big⟩
set_option maxRecDepth 100000 in
set_option maxHeartbeats 8000000 in
theorem isort_any (base:Nat)(A:Option Addr)(n c:Nat)(cs:List Value)(qs:List Pl.Pc)(w:World)(h0:SI base w A n c cs qs w)(hsz:∀p,p ∈ qs→PcSz p)(hn:n≤64) :
 Calls Tryz.prog 109 #[.slice A n c,.int .i64 0,.int .i64 (n:Int),.func (.func 52) #[] #[]] w fun e w'=>(∃v,e = .returned v)∧∃cs' ps',SI base w A n c cs' ps' w'∧ps'.Perm qs∧ps'.Pairwise Pl.leP:=by
 have H0:=hide h0
 have HSZ:=hide hsz
 clear h0 hsz
 obtain ⟨N,hN1,hN2,hN3⟩:∃N,n≤N∧1≤N∧N≤64:=⟨max n 1,by omega,by omega,by omega⟩
 go_enter Tryz.func109,Tryz.ntmps109
 go_wp2
 go_loopg [8,9] (N - 1) (fun g s8 s9 wx=>∃(i:Nat) (cs:List Value) (ps:List Pl.Pc),i+g=N∧s8 = .int .i64 (i:Int)∧SI base w A n c cs ps wx∧ps.Perm qs∧(ps.take i).Pairwise Pl.leP)
 case atStart=>exact ⟨1,cs,qs,by omega,rfl,H0.out,List.Perm.refl _,by
  cases qs with
  | nil=>simp
  | cons a l=>simp⟩
 case round =>
  clear H0
  obtain ⟨i,cs,ps,hig,rfl,hk,hpm,hso⟩:=hrel
  have HIG:=hide hig
  have K0:=hide hk
  have HPM:=hide hpm
  have HSO:=hide hso
  have hin:i≤N:=by omega
  clear hk hpm hso
  obtain ⟨go,rfl⟩:∃go,go=gk:=⟨_,rfl⟩
  by_cases hi:i<n
  ·have hii:(i:Int)<(n:Int):=by omega
   have I0:=hide (Pl.Ins.start HPM.out HSO.out (by rw [K0.out.len];exact hi))
   clear hig
   go_wp2_with fail
   go_loopg [9] i (fun g s9 wx=>∃(j:Nat) (cs:List Value) (ps:List Pl.Pc),j=g∧s9 = .int .i64 (j:Int)∧SI base w A n c cs ps wx∧Pl.Ins qs ps i j)
   case atStart=>exact ⟨i,_,_,rfl,rfl,K0.out,I0.out⟩
   case round =>
    clear I0 K0 HSO HPM
    obtain ⟨j,cs,ps,hjg,rfl,hk,hins⟩:=hrel
    have HJG:=hide hjg
    have K0:=hide hk
    have HI:=hide hins
    clear hk hins hjg
    have hnA:0<n:=by omega
    obtain ⟨g,cap,hA,hcap,hgl⟩:=World.ownsRow.form K0.out.own hnA
    injection hA with hA _ hcc
    subst hA
    subst hcc
    by_cases hj0:j=0
    ·subst hj0
     have HST:=hide (HI.out.stop (.inl rfl))
     have hz:¬((0:Int)<((0:Nat):Int)):=by omega
     go_upto_region 4 with fail
     go_quiet (fail)
     go_wp2
     go_roundg (go - 1)
     case measure=>have:=HIG.out;omega
     case rel=>exact ⟨i+1,cs,ps,by have:=HIG.out;omega,by go_num,K0.out.below (below_drewN (Below.refl _ _) _),HI.out.perm,HST.out⟩
    ·obtain ⟨k,rfl⟩:∃k,j=k+1:=⟨j - 1,by omega⟩
     clear hj0
     obtain ⟨pre,x0,mid,suf,he1,he2,he3,_,_⟩:=HI.out.ex
     have hlen:k+1<ps.length:=by rw [he1];simp;omega
     have hkn:k+1<n:=by rw [←K0.out.len];exact hlen
     clear he1 he2 he3
     obtain ⟨x,hx⟩:∃x,ps[k+1]? = some x:=⟨_,List.getElem?_eq_getElem hlen⟩
     obtain ⟨y,hy⟩:∃y,ps[k]? = some y:=⟨_,List.getElem?_eq_getElem (by omega)⟩
     have hsx:=HSZ.out x (HI.out.perm.mem_iff.1 (List.mem_of_getElem? hx))
     have hsy:=HSZ.out y (HI.out.perm.mem_iff.1 (List.mem_of_getElem? hy))
     obtain ⟨a0,a1,a2,hpx,ca0,ca1,ca2⟩:=K0.out.pv.at_ hx
     obtain ⟨b0,b1,b2,hpy,cb0,cb1,cb2⟩:=K0.out.pv.at_ hy
     have HX:=hide hx
     have HY:=hide hy
     have HPX:=hide hpx
     have HPY:=hide hpy
     have CA:=fun (t:Nat) (u:Value) (ht:(k+1) * 3+t<n * 3) (e:cs[(k+1) * 3+t]? = some u)=>(show wr.cell? ⟨g,(k+1) * 3+t,none⟩=some u by rw [World.ownsRow.cellAt K0.out.own _ ht];exact e)
     have CB:=fun (t:Nat) (u:Value) (ht:k * 3+t<n * 3) (e:cs[k * 3+t]? = some u)=>(show wr.cell? ⟨g,k * 3+t,none⟩=some u by rw [World.ownsRow.cellAt K0.out.own _ ht];exact e)
     have x0:=CA 0 a0 (by omega) ca0
     have x1:=CA 1 a1 (by omega) ca1
     have x2:=CA 2 _ (by omega) ca2
     have y0:=CB 0 b0 (by omega) cb0
     have y1:=CB 1 b1 (by omega) cb1
     have y2:=CB 2 _ (by omega) cb2
     rw [Nat.add_zero] at x0 y0
     clear CA CB ca0 ca1 ca2 cb0 cb1 cb2 hx hy
     obtain ⟨v,hv⟩:∃v,v=cmpP x y:=⟨_,rfl⟩
     have HV:=hide hv
     have HCM:=hide (fun (p:Cls (fun W=>Below wr.heap.size wr W))=>calls_cls (C:=(fun W=>Below wr.heap.size wr W)) (cmp_pieces a0 a1 b0 b1 a2 b2 x y p.w (HPX.out.below p.ok) (HPY.out.below p.ok) hsx.1 hsy.1 (by rw [hsx.2];have:=hsx.1;omega) (by rw [hsy.2];have:=hsy.1;omega)) (fun e w' h=>⟨h.1,p.ok.trans (h.2.mono p.ok.size)⟩))
     have HKL:=hide (cmp_kle hsx.2 hsy.2)
     rw [←hv] at HCM HKL
     clear hpx hpy hsx hsy hv
     go_upto_region 4 with fail
     by_cases hv0:v<0
     ·have hvb:decide (v<0)=true:=decide_eq_true hv0
      have hkp:(0:Int)<(k:Int)+1:=by omega
      have c0:∀p:Cls (fun W=>Below wr.heap.size wr W),p.w.cell? ⟨g,(k+1) * 3,none⟩=some a0:=fun p=>cell_below x0 p.ok
      have c1:∀p:Cls (fun W=>Below wr.heap.size wr W),p.w.cell? ⟨g,(k+1) * 3+1,none⟩=some a1:=fun p=>cell_below x1 p.ok
      have c2:∀p:Cls (fun W=>Below wr.heap.size wr W),p.w.cell? ⟨g,(k+1) * 3+2,none⟩=some (.int .i64 a2):=fun p=>cell_below x2 p.ok
      have c3:∀p:Cls (fun W=>Below wr.heap.size wr W),p.w.cell? ⟨g,k * 3,none⟩=some b0:=fun p=>cell_below y0 p.ok
      have c4:∀p:Cls (fun W=>Below wr.heap.size wr W),p.w.cell? ⟨g,k * 3+1,none⟩=some b1:=fun p=>cell_below y1 p.ok
      have c5:∀p:Cls (fun W=>Below wr.heap.size wr W),p.w.cell? ⟨g,k * 3+2,none⟩=some (.int .i64 b2):=fun p=>cell_below y2 p.ok
      refine wp_region_cls (fun W=>Below wr.heap.size wr W) (by kernel_rfl) (by kernel_rfl) (Below.refl wr.heap.size wr).drew (fun hne=>?_)
      repeat (go_big_quiet_step (((go_at_call 52;exact HCM.out _))))
      refine wpQuiet_nil ?_
      rintro _ ⟨p,rfl⟩
      have K1:=hide (K0.out.below p.ok)
      have HPX1:=hide (HPX.out.below p.ok)
      have HPY1:=hide (HPY.out.below p.ok)
      have q0:=c0 p
      have q1:=c1 p
      have q2:=c2 p
      have q3:=c3 p
      have q4:=c4 p
      have q5:=c5 p
      have fz:∀o,p.w.frozen? ⟨g,o,none⟩=false:=own_free K1.out.own
      clear c0 c1 c2 c3 c4 c5 x0 x1 x2 y0 y1 y2 HCM K0 HPX HPY
      obtain ⟨D0,e0,h0,h0b⟩:=HPX1.out.c
      obtain ⟨D1,e1,h1,h1b⟩:=HPX1.out.o
      obtain ⟨E0,i0,h2,h2b⟩:=HPY1.out.c
      obtain ⟨E1,i1,h3,h3b⟩:=HPY1.out.o
      subst h0
      subst h1
      subst h2
      subst h3
      clear h0b h1b h2b h3b
      obtain ⟨V,hV⟩:∃V,V=p.w:=⟨_,rfl⟩
      rw [←hV] at K1 HPX1 HPY1 q0 q1 q2 q3 q4 q5 fz ⊢
      have INS:=hide (HI.out.step HX.out HY.out (HKL.out.1 hv0))
      clear hV HI hv0 hvb
      go_upto_region 6 with fail
      go_region
      all_goals (go_wp2_with fail)
      go_roundg (gk - 1)
      case measure=>have:=HJG.out;omega
      case rel =>
       obtain ⟨_,us,hr⟩:=own_rowE K1.out.own
       have F1:=K1.out.set3 HPY1.out hlen
       have F2:=F1.set3 (HPX1.out.store3 hr _ _ _ _ _ _) (j:=k) (by rw [List.length_set];omega)
       exact ⟨k,_,_,by have:=HJG.out;omega,rfl,F2.below (Below.refl _ _).drew,INS.out⟩
     ·have hvb:decide (v<0)=false:=decide_eq_false hv0
      have hkp:(0:Int)<(k:Int)+1:=by omega
      have HST:=hide (HI.out.stop (.inr ⟨x,y,HX.out,HY.out,by
       rcases Classical.em (Pl.leP y x) with h | h
       ·exact h
       ·exact absurd (HKL.out.2 h) hv0⟩))
      have c0:∀p:Cls (fun W=>Below wr.heap.size wr W),p.w.cell? ⟨g,(k+1) * 3,none⟩=some a0:=fun p=>cell_below x0 p.ok
      have c1:∀p:Cls (fun W=>Below wr.heap.size wr W),p.w.cell? ⟨g,(k+1) * 3+1,none⟩=some a1:=fun p=>cell_below x1 p.ok
      have c2:∀p:Cls (fun W=>Below wr.heap.size wr W),p.w.cell? ⟨g,(k+1) * 3+2,none⟩=some (.int .i64 a2):=fun p=>cell_below x2 p.ok
      have c3:∀p:Cls (fun W=>Below wr.heap.size wr W),p.w.cell? ⟨g,k * 3,none⟩=some b0:=fun p=>cell_below y0 p.ok
      have c4:∀p:Cls (fun W=>Below wr.heap.size wr W),p.w.cell? ⟨g,k * 3+1,none⟩=some b1:=fun p=>cell_below y1 p.ok
      have c5:∀p:Cls (fun W=>Below wr.heap.size wr W),p.w.cell? ⟨g,k * 3+2,none⟩=some (.int .i64 b2):=fun p=>cell_below y2 p.ok
      refine wp_region_cls (fun W=>Below wr.heap.size wr W) (by kernel_rfl) (by kernel_rfl) (Below.refl wr.heap.size wr).drew (fun hne=>?_)
      repeat (go_big_quiet_step (((go_at_call 52;exact HCM.out _))))
      refine wpQuiet_nil ?_
      rintro _ ⟨p,rfl⟩
      clear c0 c1 c2 c3 c4 c5 x0 x1 x2 y0 y1 y2 HCM
      go_wp2
      go_roundg (go - 1)
      case measure=>have:=HIG.out;omega
      case rel=>exact ⟨i+1,cs,ps,by have:=HIG.out;omega,by go_num,K0.out.below p.ok,HI.out.perm,HST.out⟩
  ·have hii:¬((i:Int)<(n:Int)):=by omega
   have HE:=hide (show ps.Pairwise Pl.leP by
    have h:=HSO.out
    rw [List.take_of_length_le (by rw [K0.out.len];omega)] at h
    exact h)
   clear hig
   go_wp2
   exact bodyPost_end (by simp [results,Tryz.results109,go_sem];rfl) rfl ⟨⟨_,rfl⟩,_,_,K0.out,HPM.out,HE.out⟩
end Go.Proofs.YtdgliimmnnhhjaaGreatDoor
end
