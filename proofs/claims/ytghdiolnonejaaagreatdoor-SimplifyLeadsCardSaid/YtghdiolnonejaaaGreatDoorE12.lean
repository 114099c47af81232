/-
 The texts Ma, He, Mb, Hf, Mc, Hq, Nk.
-/
import Derived.Test.YtghdiolnonejaaaGreatDoorE13
import Derived.WalkMore
set_option linter.unusedVariables false
set_option linter.unusedSimpArgs false
section
namespace Go.Proofs.YtghdiolnonejaaaGreatDoor
open Go Go.RowKit
attribute [local go_sem ↓] Go.wp_at_zero Go.wp_at_succ
structure BB (w W:World):Prop where
 b:Below w.heap.size w W
theorem BB.refl (w:World):BB w w := ⟨Below.refl _ _⟩
theorem sz_alloc (W:World) (o:Obj):W.heap.size + 1 = (W.alloc o).heap.size := by simp
def Ty (W:World) (g:Nat) (t:TypeId):Prop := ∃ vs,Row W g t vs
theorem Row.ty {W:World} {g:Nat} {t:TypeId} {vs:List Value} (h:Row W g t vs):Ty W g t := ⟨_,h⟩
theorem Ty.set {W:World} {g g':Nat} {t:TypeId} (h:Ty W g t) (o:Nat) (v:Value):Ty (W.setCell ⟨g',o,none⟩ v) g t := by
 obtain ⟨vs,h⟩:=h
 by_cases e:g = g'
 ·subst e; exact ⟨_,h.set o v⟩
 ·exact ⟨vs,h.other e v⟩
theorem Ty.alloc {W:World} {g:Nat} {t:TypeId} (h:Ty W g t) (o:Obj):Ty (W.alloc o) g t := let ⟨vs,h⟩:=h; ⟨vs,h.alloc o⟩
theorem row_new3 (W:World) (g:Nat) (a b c:Value) (h:g = W.heap.size):Row (W.alloc (.cells #[a,b,c] 24)) g 24 [a,b,c] := row_at (vs := [a,b,c]) h
theorem DgT.setT {W:World} {A B:Option Addr} {d:Pl.Dg} {g o:Nat} {t:TypeId} {v:Value} (h:DgT W A B d) (ht:Ty W g t) (hne:3 ≠ t):DgT (W.setCell ⟨g,o,none⟩ v) A B d := by
 obtain ⟨vs,hr⟩:=ht
 have hb:=hr
 unfold Row at hb
 have key:∀ {A:Option Addr} {n:Nat} {xs:List Value},RowT W 3 A n xs → RowT (W.setCell ⟨g,o,none⟩ v) 3 A n xs:=fun h =>
  ⟨h.1, fun hn => let ⟨b, o', cs', fr', e, hb', hc⟩ := h.2 hn; ⟨b, o', cs', fr', e, (Below.heap_setCell W ⟨g, o, none⟩ v b (fun he => by
    have he':b = g:=he
    rw [he',hb] at hb'
    injection hb' with hb'
    injection hb' with _ h4
    exact hne h4.symm)).trans hb',hc⟩⟩
 exact ⟨key h.s,key h.m⟩
theorem DgT.al {W:World} {A B:Option Addr} {d:Pl.Dg} (h:DgT W A B d) (o:Obj):DgT (W.alloc o) A B d := h.keep ((Below.refl _ _).alloc (Nat.le_refl _) o)
theorem BB.drew {w W:World} (h:BB w W):BB w W.drew := ⟨h.b.drew⟩
theorem BB.alloc {w W:World} (h:BB w W) (o:Obj):BB w (W.alloc o) := ⟨h.b.alloc h.b.size o⟩
theorem BB.set {w W:World} {g:Nat} (h:BB w W) (hg:w.heap.size ≤ g) (o:Nat) (v:Value):BB w (W.setCell ⟨g,o,none⟩ v) := ⟨h.b.setCell hg v⟩
theorem BB.below {w W W':World} (h:BB w W) (hb:Below W.heap.size W W'):BB w W' := ⟨h.b.trans (hb.mono h.b.size)⟩
structure DL (w:World) (A B:Option Addr) (d r:Pl.Dg) (l:List Mv) (v:Value) (A9 B9:Option Addr) (n c8 m c9 lp:Nat) (W:World):Prop where
 val:Pl.Valid r
 eqD:dnD d = dnD r
 eqM:dnM d = l ++ dnM r
 hn:n = r.n
 hm:m = 4 * r.n
 hl:lp = r.lp
 at_:Row W w.heap.size 24 [.slice A9 n c8,.slice B9 m c9,.int .i64 (lp:Int)]
 res:Row W (w.heap.size + 1) 24 [.slice none 0 0,.slice none 0 0,.int .i64 0]
 t:DgT W A9 B9 r ∨ (A9 = A ∧ B9 = B ∧ r = d)
 own:W.ownsRow (w.heap.size + 1 + 1) 43 5 v l.length (mvs l)
 len:l.length + r.n ≤ d.n
 bel:Below w.heap.size w W
section
variable {w W W':World} {A B:Option Addr} {d r:Pl.Dg} {l:List Mv} {v:Value} {A9 B9:Option Addr} {n c8 m c9 lp:Nat}
theorem DL.below (h:DL w A B d r l v A9 B9 n c8 m c9 lp W) (hb:Below W.heap.size W W'):DL w A B d r l v A9 B9 n c8 m c9 lp W' :=
 ⟨h.val,h.eqD,h.eqM,h.hn,h.hm,h.hl,h.at_.below hb,h.res.below hb,h.t.imp (fun t => t.keep hb) id,own_below h.own hb,h.len,h.bel.trans (hb.mono h.bel.size)⟩
theorem DL.alloc (h:DL w A B d r l v A9 B9 n c8 m c9 lp W) (o:Obj):DL w A B d r l v A9 B9 n c8 m c9 lp (W.alloc o) := h.below ((Below.refl _ _).alloc (Nat.le_refl _) o)
theorem DL.dg (h:DL w A B d r l v A9 B9 n c8 m c9 lp W) (hg:DgAt w A B d):DgAt W A9 B9 r := by
 rcases h.t with t | ⟨h1,h2,h3⟩
 ·exact t.at
 ·rw [h1,h2,h3]; exact hg.keep h.bel
theorem DL.start (hd:Pl.Valid d) (hm:m = 4 * d.n):DL w A B d d [] (.slice none 0 0) A B d.n c8 m c9 d.lp ((w.alloc (.cells #[.slice A d.n c8,.slice B m c9,.int .i64 (d.lp:Int)] 24)).alloc (.cells #[.slice none 0 0,.slice none 0 0,.int .i64 0] 24)) :=
 ⟨hd,rfl,rfl,rfl,hm,rfl,(row_at (vs := [.slice A d.n c8,.slice B m c9,.int .i64 (d.lp:Int)]) rfl).alloc _,row_at (vs := [.slice none 0 0,.slice none 0 0,.int .i64 0]) (by simp),.inr ⟨rfl,rfl,rfl⟩,⟨rfl,.inl ⟨rfl,rfl⟩⟩,by simp,((Below.refl _ _).alloc (Nat.le_refl _) _).alloc (by simp) _⟩
end
def DnPost (A B:Option Addr) (d:Pl.Dg) (w:World) (e:Ending) (w':World):Prop := ∃ (A9 B9:Option Addr) (c8 c9:Nat) (v:Value),e = .returned (.tuple #[.agg #[.slice A9 (dnD d).n c8,.slice B9 (4 * (dnD d).n) c9,.int .i64 (dnD d).lp],v]) ∧ (DgT w' A9 B9 (dnD d) ∨ (A9 = A ∧ B9 = B ∧ dnD d = d)) ∧ MovesIn w.heap.size w' v (dnM d) ∧ Below w.heap.size w w'
theorem DL.post {w W:World} {A B:Option Addr} {d r:Pl.Dg} {l:List Mv} {v:Value} {A9 B9:Option Addr} {n c8 m c9 lp:Nat} (h:DL w A B d r l v A9 B9 n c8 m c9 lp W) (he:remL r = []) :
 DnPost A B d w (.returned (.tuple #[.agg #[.slice A9 n c8,.slice B9 m c9,.int .i64 (lp:Int)],v])) (((W.setCell ⟨w.heap.size + 1,0,none⟩ (.slice A9 n c8)).setCell ⟨w.heap.size + 1,1,none⟩ (.slice B9 m c9)).setCell ⟨w.heap.size + 1,2,none⟩ (.int .i64 (lp:Int))) := by
 have BB:=below3 h.bel (show w.heap.size ≤ w.heap.size + 1 by omega) (.slice A9 n c8) (.slice B9 m c9) (.int .i64 (lp:Int))
 have OO:=ownsRow_setCell_below (ownsRow_setCell_below (ownsRow_setCell_below h.own (a := ⟨w.heap.size + 1,0,none⟩) (by show w.heap.size + 1 < _; omega) (.slice A9 n c8)) (a := ⟨w.heap.size + 1,1,none⟩) (by show w.heap.size + 1 < _; omega) (.slice B9 m c9)) (a := ⟨w.heap.size + 1,2,none⟩) (by show w.heap.size + 1 < _; omega) (.int .i64 (lp:Int))
 have hs:=h.res.lt
 have e1:dnD d = r:=by rw [h.eqD,(dn_stop he).1]
 have e2:dnM d = l:=by rw [h.eqM,(dn_stop he).2,List.append_nil]
 have TT:DgT (((W.setCell ⟨w.heap.size + 1,0,none⟩ (.slice A9 n c8)).setCell ⟨w.heap.size + 1,1,none⟩ (.slice B9 m c9)).setCell ⟨w.heap.size + 1,2,none⟩ (.int .i64 (lp:Int))) A9 B9 (dnD d) ∨ (A9 = A ∧ B9 = B ∧ dnD d = d):=by
  rw [e1]
  exact h.t.imp (fun t => t.set3 h.res _ _ _) id
 unfold DnPost
 rw [e1,e2]
 rw [e1] at TT
 refine ⟨A9,B9,c8,c9,v,by rw [h.hn,h.hm,h.hl],TT,⟨w.heap.size + 1 + 1,by omega,by simp; omega,OO⟩,BB⟩
theorem first_mv {l:List Mv} {z:Mv} (h:l[0]? = some z):∃ t,l = z :: t := by
 cases l with
 | nil => cases h
 | cons a t => exact ⟨t,by rw [show a = z from Option.some.inj h]⟩
theorem DL.next {r d:Pl.Dg} {l:List Mv} {z:Mv} (hr:Pl.Valid r) (eqD:dnD d = dnD r) (eqM:dnM d = l ++ dnM r) (hl:l.length + r.n ≤ d.n) (h:(remL r)[0]? = some z) :
 Pl.Valid (apD r z) ∧ dnD d = dnD (apD r z) ∧ dnM d = (l ++ [z]) ++ dnM (apD r z) ∧ (l ++ [z]).length + (apD r z).n ≤ d.n ∧ (apD r z).n + 1 ≤ r.n := by
 obtain ⟨t,ht⟩:=first_mv h
 obtain ⟨e1,e2⟩:=dn_next hr ht
 have hz:z ∈ remL r:=by rw [ht]; exact List.mem_cons_self
 have hle:=rem_less hr hz
 refine ⟨(ap_ok hr (rem_ok hz).1).1,by rw [eqD,e1],by rw [eqM,e2]; simp,?_,hle⟩
 rw [List.length_append,List.length_singleton]
 omega
set_option maxRecDepth 100000 in
set_option maxHeartbeats 8000000 in
theorem descend_any (d:Pl.Dg) (hd:Pl.Valid d) (A B:Option Addr) (cp cq m:Nat) (w:World) (hm:m = 4 * d.n) (hg:DgAt w A B d) :
 Calls Tryz.prog 22 #[.agg #[.slice A d.n cp,.slice B m cq,.int .i64 d.lp]] w (DnPost A B d w) := by
 have HM:=hide hm
 have HG:=hide hg
 have hdn:=hd.wf.few
 have L0:=hide (DL.start (w := w) (A := A) (B := B) (c8 := cp) (c9 := cq) hd hm)
 clear hm hg
 obtain ⟨V,hV⟩:∃ V,V = (w.alloc (.cells #[.slice A d.n cp,.slice B m cq,.int .i64 (d.lp:Int)] 24)).alloc (.cells #[.slice none 0 0,.slice none 0 0,.int .i64 0] 24) := ⟨_,rfl⟩
 go_enter Tryz.func22,Tryz.ntmps22
 go_wp2
 rw [← hV] at L0 ⊢
 clear hV
 go_loopg [4,5,6,7] d.n (fun g s4 s5 s6 s7 wx => ∃ (r:Pl.Dg) (l:List Mv) (A9 B9:Option Addr) (n c8 m c9 lp:Nat),r.n = g ∧ DL w A B d r l s4 A9 B9 n c8 m c9 lp wx)
 case atStart => exact ⟨_,_,_,_,_,_,_,_,_,rfl,L0.out⟩
 case round =>
  clear L0
  obtain ⟨r,l,A9,B9,n,c8,m,c9,lp,hrg,hl⟩:=hrel
  have HKG:=hide hrg
  have K0:=hide hl
  have hln:=hl.len
  have hlp:=hl.val.wf.lp
  rw [← hl.hl] at hlp
  have hrn:=hl.val.wf.few
  rw [← hl.hn] at hrn
  have hlen:l.length ≤ 64:=by omega
  clear hl hrg
  obtain ⟨d0,d1,d2,d3⟩:=box3 K0.out.at_
  go_wp2_with fail
  refine (Removing_n r K0.out.val A9 B9 n c8 c9 m lp _ K0.out.hn K0.out.hm K0.out.hl (K0.out.dg HG.out)).mono ?_
  rintro e w3 ⟨v,rfl,hv,hb3⟩
  obtain ⟨A5,c5,rfl,hV⟩:=hv.at.mv
  have K3:=hide (K0.out.below hb3)
  have lch:=remL_le K0.out.val.wf.few
  obtain ⟨L,hL⟩:∃ L,L = remL r := ⟨_,rfl⟩
  rw [← hL] at hV lch ⊢
  obtain ⟨N5,hN5⟩:∃ n,n = L.length := ⟨_,rfl⟩
  rw [← hN5] at hV lch ⊢
  have HL:=hide hL
  have HN5:=hide hN5
  have HV:=hide hV
  have hw3:w.heap.size + 1 < w3.heap.size:=K3.out.res.lt
  clear hV hv hL hN5 hb3 d0 d1 d2 d3 K0 hln
  by_cases h0:N5 = 0
  ·have HE:=hide (show remL r = [] by rw [← HL.out]; exact List.eq_nil_of_length_eq_zero (by rw [← HN5.out]; exact h0))
   subst h0
   obtain ⟨e0,e1,e2,e3⟩:=box3 K3.out.at_
   obtain ⟨f0,f1,f2,f3⟩:=box3 K3.out.res
   obtain ⟨A7,c7,hs4⟩:=owns_slice K3.out.own
   subst hs4
   go_wp2
   have RR:=row3 K3.out.res rfl (.slice A9 n c8) (.slice B9 m c9) (.int .i64 (lp:Int))
   refine bodyPost_ret (v := .tuple #[.agg #[.slice A9 n c8,.slice B9 m c9,.int .i64 (lp:Int)],.slice A7 l.length c7]) ?_ rfl ?_
   ·obtain ⟨r0,r1,r2,r3⟩:=box3 RR
    simp [results,Tryz.results22,go_sem,r0,r1,r2]
   ·exact K3.out.post HE.out
  ·have hN0:0 < N5:=by omega
   have t0:((N5:Int) == 0) = false:=by rw [beq_eq_false_iff_ne]; omega
   have hN1:(0:Int) < (N5:Int):=by omega
   obtain ⟨g5,zk,zx,zy,zs,zo,rfl,hgl,hz,c0,c1,c2,c3,c4⟩:=HV.out.at_ hN0
   have HZ:=hide (show (remL r)[0]? = some ⟨zk,zx,zy,zs,zo⟩ by rw [← HL.out]; exact hz)
   have HIN:=hide (List.mem_of_getElem? HZ.out)
   have HOK:=hide (rem_ok HIN.out).1
   have HNX:=hide (DL.next K3.out.val K3.out.eqD K3.out.eqM K3.out.len HZ.out)
   simp only [Nat.zero_mul,Nat.zero_add] at c0 c1 c2 c3 c4
   obtain ⟨e0,e1,e2,e3⟩:=box3 K3.out.at_
   clear hz h0
   obtain ⟨r2,hr2⟩:∃ r2,r2 = apD r ⟨zk,zx,zy,zs,zo⟩:=⟨_,rfl⟩
   rw [← hr2] at HNX
   have HR2:=hide hr2
   obtain ⟨hv2,hd2,hm2,hl2,hlt2⟩:=HNX.out
   have HD2:=hide hd2
   have HMM2:=hide hm2
   have HL2:=hide hl2
   have HLT:=hide hlt2
   have HV2:=hide hv2
   have hr2n:=HV2.out.wf.few
   have hr2l:=HV2.out.wf.lp
   obtain ⟨N8,hN8⟩:∃ n,n = r2.n := ⟨_,rfl⟩
   obtain ⟨M8,hM8⟩:∃ n,n = 4 * r2.n := ⟨_,rfl⟩
   obtain ⟨L8,hL8⟩:∃ n,n = r2.lp := ⟨_,rfl⟩
   rw [← hN8] at hr2n
   rw [← hL8] at hr2l
   have HN8:=hide hN8
   have HM8:=hide hM8
   have HL8:=hide hL8
   have AR:=hide (fun (W:World) (hW:DgAt W A9 B9 r) => (apply_rem r K3.out.val A9 B9 n c8 c9 m lp zk zx zy zs zo W K3.out.hn K3.out.hm K3.out.hl hW HIN.out).mono (R' := fun e w' => ∃ (A8 B8:Option Addr) (b8 b9:Nat) (k9 x9 y9 s9:Int) (o9:Bool),e = .returned (.tuple #[.agg #[.slice A8 N8 b8,.slice B8 M8 b9,.int .i64 (L8:Int)],.agg #[.int .i64 k9,.int .i64 x9,.int .i64 y9,.int .i64 s9,.bool o9],.int .i64 0]) ∧ DgT w' A8 B8 r2 ∧ Below W.heap.size W w') (fun e w' hres => by
    obtain ⟨A8,B8,b8,b9,k9,x9,y9,s9,o9,hmv,he,hT⟩:=(hres.2.1 HOK.out).split
    rw [← HR2.out] at he hT
    rw [← HM8.out,← HN8.out,← HL8.out] at he
    exact ⟨A8,B8,b8,b9,k9,x9,y9,s9,o9,he,hT,hres.2.2⟩))
   have D3:=hide (K3.out.dg HG.out)
   have hrr:w.heap.size < w3.heap.size:=by omega
   clear hr2 hv2 hd2 hm2 hl2 hlt2 hN8 hM8 hL8 HNX
   have HALL:=hide (fun (W:World) (hb:BB w3 W) => (show (W.cell? ⟨w.heap.size,0,none⟩ = some (.slice A9 n c8) ∧ W.cell? ⟨w.heap.size,1,none⟩ = some (.slice B9 m c9) ∧ W.cell? ⟨w.heap.size,2,none⟩ = some (.int .i64 (lp:Int)) ∧ W.cell? ⟨g5,0,none⟩ = some (.int .i64 zk) ∧ W.cell? ⟨g5,1,none⟩ = some (.int .i64 zx) ∧ W.cell? ⟨g5,2,none⟩ = some (.int .i64 zy) ∧ W.cell? ⟨g5,3,none⟩ = some (.int .i64 zs) ∧ W.cell? ⟨g5,4,none⟩ = some (.bool zo)) from
    ⟨cell_below e0 hb.b,cell_below e1 hb.b,cell_below e2 hb.b,cell_below c0 hb.b,cell_below c1 hb.b,cell_below c2 hb.b,cell_below c3 hb.b,cell_below c4 hb.b⟩))
   have HB3:=hide (BB.refl w3)
   go_upto_region 5 with fail
   go_cut [6,7,8] from 16 to 24 (fun s6 s7 s8 wx => s8 = .int .i64 0 ∧ ∃ (g6:Nat) (A8 B8:Option Addr) (b8 b9:Nat),s6 = .pointer (some ⟨g6,0,none⟩) ∧ Row wx g6 24 [.slice A8 N8 b8,.slice B8 M8 b9,.int .i64 (L8:Int)] ∧ w3.heap.size ≤ g6 ∧ DgT wx A8 B8 r2 ∧ BB w3 wx)
   case first =>
    go_region_held3 (fun W => W.cell? ⟨w.heap.size,0,none⟩ = some (.slice A9 n c8) ∧ W.cell? ⟨w.heap.size,1,none⟩ = some (.slice B9 m c9) ∧ W.cell? ⟨w.heap.size,2,none⟩ = some (.int .i64 (lp:Int)) ∧ W.cell? ⟨g5,0,none⟩ = some (.int .i64 zk) ∧ W.cell? ⟨g5,1,none⟩ = some (.int .i64 zx) ∧ W.cell? ⟨g5,2,none⟩ = some (.int .i64 zy) ∧ W.cell? ⟨g5,3,none⟩ = some (.int .i64 zs) ∧ W.cell? ⟨g5,4,none⟩ = some (.bool zo))
     ((refine HALL.out _ ?_; (repeat (first | (with_reducible assumption) | (with_reducible exact HB3.out) | (with_reducible refine BB.drew ?_) | (with_reducible refine BB.alloc ?_ _) | (with_reducible refine BB.set ?_ (by omega) _ _) | (with_reducible refine BB.below ?_ hb5)))))
     (first
       | (go_at_call 26
          refine Calls.mono (AR.out _ ?_) ?_
          ·refine D3.out.keep (BB.b ?_)
           repeat (first | (with_reducible assumption) | (with_reducible exact HB3.out) | (with_reducible refine BB.drew ?_) | (with_reducible refine BB.alloc ?_ _))
          rintro e w5 ⟨A8,B8,b8,b9,k9,x9,y9,s9,o9,rfl,hT,hb5⟩
          have hlt5:w3.heap.size ≤ w5.heap.size:=by have := hb5.size; simp at this; omega
          (try (have r60 := Row.below (g := w3.heap.size) (t := 24) (vs := [.slice none 0 0,.slice none 0 0,.int .i64 0]) (by first | exact row_at rfl | exact row_at (sz_alloc _ _) | exact (row_at rfl).alloc _) hb5; obtain ⟨q0,q1,q2,q3⟩:=box3 r60; have hl60 := r60.lt; have ty60 := r60.ty; have hrow60 := fun a b c => row3 r60 rfl a b c))
          (try (have r61 := Row.below (g := w3.heap.size + 1) (t := 24) (vs := [.slice none 0 0,.slice none 0 0,.int .i64 0]) (by first | exact row_at rfl | exact row_at (sz_alloc _ _) | exact (row_at rfl).alloc _) hb5; obtain ⟨q0,q1,q2,q3⟩:=box3 r61; have hl61 := r61.lt; have ty61 := r61.ty; have hrow61 := fun a b c => row3 r61 rfl a b c))
          (try (have r70 := Row.below (g := w3.heap.size) (t := 43) (vs := [.int .i64 0,.int .i64 0,.int .i64 0,.int .i64 0,.bool false]) (by first | exact row_at rfl | exact row_at (sz_alloc _ _) | exact (row_at rfl).alloc _) hb5; obtain ⟨p0,p1,p2,p3,p4,p5⟩:=box5 r70; have hl70 := r70.lt; have ty70 := r70.ty))
          (try (have r71 := Row.below (g := w3.heap.size + 1) (t := 43) (vs := [.int .i64 0,.int .i64 0,.int .i64 0,.int .i64 0,.bool false]) (by first | exact row_at rfl | exact row_at (sz_alloc _ _) | exact (row_at rfl).alloc _) hb5; obtain ⟨p0,p1,p2,p3,p4,p5⟩:=box5 r71; have hl71 := r71.lt; have ty71 := r71.ty))
          (try (have n60:¬ w3.heap.size = w5.heap.size := (by omega); have n61:¬ w5.heap.size = w3.heap.size := (by omega)))))
    all_goals (go_wp2_with fail; go_meet)
    all_goals (
     refine ⟨rfl,_,A8,B8,b8,b9,rfl,?_,?_,?_,?_⟩
     ·repeat (first
       | (with_reducible exact hrow60 _ _ _)
       | (with_reducible exact hrow61 _ _ _)
       | (with_reducible refine row_new3 _ _ _ _ _ ?_)
       | (with_reducible refine Row.alloc ?_ _)
       | (with_reducible refine Row.other ?_ (by first | exact Nat.ne_of_lt (Nat.lt_succ_self _) | exact Nat.ne_of_gt (Nat.lt_succ_self _) | (simp <;> omega)) _))
      all_goals simp
     ·omega
     ·repeat (first
       | (with_reducible exact hT)
       | (with_reducible refine DgT.al ?_ _)
       | (with_reducible refine DgT.setT (t := 24) ?_ (by (repeat (first | (with_reducible refine Ty.set ?_ _ _) | (with_reducible refine Ty.alloc ?_ _))); with_reducible assumption) (by decide))
       | (with_reducible refine DgT.setT (t := 43) ?_ (by (repeat (first | (with_reducible refine Ty.set ?_ _ _) | (with_reducible refine Ty.alloc ?_ _))); with_reducible assumption) (by decide)))
     ·repeat (first
       | (with_reducible exact HB3.out)
       | (with_reducible refine BB.drew ?_)
       | (with_reducible refine BB.alloc ?_ _)
       | (with_reducible refine BB.set ?_ (by omega) _ _)
       | (with_reducible refine BB.below ?_ hb5)))
   case rest =>
    obtain ⟨rfl,g6,A8,B8,b8,b9,rfl,hr6,hg6,hT,hbb⟩:=hcut
    obtain ⟨w6,hw6⟩:∃ W,W = wc := ⟨_,rfl⟩
    rw [← hw6] at hr6 hT hbb ⊢
    have K6:=hide (K3.out.below hbb.b)
    have D6:=hide hr6
    have T6:=hide hT
    have V6:=hide (HV.out.keep hbb.b)
    have hw60:w.heap.size + 1 < w6.heap.size:=K6.out.res.lt
    have hg60:w.heap.size + 1 < g6:=by omega
    clear hw6 hr6 hT hbb e0 e1 e2 e3 c0 c1 c2 c3 c4 HALL HB3 AR D3 K3 HV
    obtain ⟨n0,hn0,hz0,hz1,hz2⟩:=info_parts moveInfo
    obtain ⟨g5',yk,yx,yy,ys,yo,e5',hgl',hz',c0,c1,c2,c3,c4⟩:=V6.out.at_ hN0
    injection e5' with e5'
    injection e5' with e5' _ _
    subst e5'
    rw [HL.out,HZ.out] at hz'
    obtain ⟨rfl,rfl,rfl,rfl,rfl⟩:zk = yk ∧ zx = yx ∧ zy = yy ∧ zs = ys ∧ zo = yo := by simpa using hz'
    simp only [Nat.zero_mul,Nat.zero_add] at c0 c1 c2 c3 c4
    obtain ⟨A7,c7,hs4⟩:=owns_slice K6.out.own
    subst hs4
    have K7:=hide (K6.out.alloc (.cells (Mv.cells ⟨zk,zx,zy,zs,zo⟩).toArray 43))
    have A1:∀ u ∈ Mv.cells ⟨zk,zx,zy,zs,zo⟩,u.oneCell' = true:=by simp [Mv.cells,Value.oneCell']
    have A2:l.length + 1 ≤ maxLen:=by unfold maxLen; omega
    have A3:(l.length + 1) * 40 ≤ 140737488355328:=by omega
    have A4:w.heap.size + 1 + 1 ≤ (w6.alloc (.cells (Mv.cells ⟨zk,zx,zy,zs,zo⟩).toArray 43)).heap.size:=by simp; omega
    have A6:=hide (five_news w6 w6.heap.size rfl ⟨zk,zx,zy,zs,zo⟩)
    clear hz' V6
    go_wp2_with (at_builtin; refine wpList_append_lies _ (by rfl) _ _ 27 (by rfl) (w.heap.size + 1 + 1) 43 n0 (.agg #[.int .i64 0,.int .i64 0,.int .i64 0,.int .i64 0,.bool false]) 5 40 Tryz.underlying27 hn0 hz0 hz1 hz2 rfl (by omega) _ l.length (mvs l) (by rfl) K7.out.own ⟨w6.heap.size,0,none⟩ 1 1 (Mv.cells ⟨zk,zx,zy,zs,zo⟩) (by rfl) (by rfl) A6.out A1 (by omega) A2 A3 A4 (w6.heap.size + 1) (by simp) ?_; intro g2 c2 w7 own2 grow2 at2 lt2; have OWN2 := hide own2; have AT7 := hide (K7.out.at_.grown grow2 (own_row_neM K7.out.own K7.out.at_ (by decide))); have RS7 := hide (K7.out.res.grown grow2 (own_row_neM K7.out.own K7.out.res (by decide))); have D7 := hide ((D6.out.alloc (.cells (Mv.cells ⟨zk,zx,zy,zs,zo⟩).toArray 43)).grown grow2 (own_row_neM K7.out.own (D6.out.alloc (.cells (Mv.cells ⟨zk,zx,zy,zs,zo⟩).toArray 43)) (by decide))); have T7 := hide ((T6.out.keep ((Below.refl _ _).alloc (Nat.le_refl _) (.cells (Mv.cells ⟨zk,zx,zy,zs,zo⟩).toArray 43))).grownM K7.out.own grow2); have B7 := hide (K7.out.bel.grown grow2 K7.out.bel.size (fun k hk => by have := (K7.out.own.lt k hk).1; omega)); clear own2 grow2 at2; obtain ⟨e0,e1,e2,e3⟩:=box3 AT7.out; obtain ⟨f0,f1,f2,f3⟩:=box3 D7.out)
    go_roundg r2.n
    case measure => have := HLT.out; have := HKG.out; omega
    case rel =>
     refine ⟨r2,l ++ [⟨zk,zx,zy,zs,zo⟩],A8,B8,N8,b8,M8,b9,L8,rfl,HV2.out,HD2.out,HMM2.out,HN8.out,HM8.out,HL8.out,row3 AT7.out rfl _ _ _,?_,.inl (T7.out.set3 AT7.out _ _ _),?_,HL2.out,below3 B7.out (Nat.le_refl _) _ _ _⟩
     ·exact ((RS7.out.other (by show _ ≠ w.heap.size; omega) _).other (by show _ ≠ w.heap.size; omega) _).other (by show _ ≠ w.heap.size; omega) _
     ·rw [mvs_app,List.length_append]
      exact ownsRow_setCell_below (ownsRow_setCell_below (ownsRow_setCell_below OWN2.out (by show w.heap.size < _; omega) _) (by show w.heap.size < _; omega) _) (by show w.heap.size < _; omega) _
end Go.Proofs.YtghdiolnonejaaaGreatDoor
end
section
namespace Go.Proofs.YtghdiolnonejaaaGreatDoor
open Go Go.RowKit
attribute [local go_sem ↓] Go.wp_at_zero Go.wp_at_succ
theorem wpList_insert_own {H:Type} {P:Program} (w:World) {ops:Array Oper} {rest:List Oper} {o:Oper} {a:Act} {Q:Exit → Act → World → Prop}
 (hg:o.guard = none) (m x v:Operand) (t:TypeId) (hop:o.op = Op.insert t m x v)
 (k e:TypeId) (K:Maps.Keyed P k) (ht:P.underlying t = some (.map k e)) (R:Value → Option (DataW H × List MemPlace)) (b n:Nat) (D:DataW H)
 (hm:a.eval m = .map (some b)) (hown:w.ownsMap P k R b n D) (hn:n < maxLen) (key val:Value) (kl:Lit) (hx:a.eval x = key) (hv:a.eval v = val) (hkey:keyOf P k key = some kl)
 (d:DataW H) (ps:List MemPlace) (hval:R val = some (d,ps))
 (hK:∀ w',w'.ownsMap P k R b (n + 1) (D.put kl d) → w.grownBy w' (some b) → wpList P ops Q rest (a.put o.dst undef) w') :
 wpList P ops Q (o :: rest) a w := by
 refine wpList_plain hg fun K' hK' => ?_
 obtain ⟨w',hrun,r1,r2⟩:=hown.update K ht hn hkey hval
 unfold Oper.wp
 simp [execOp,hop,hm,hx,hv,hrun,Result.andThen]
 exact hK' _ _ (hK w' r1 r2)
def SrPost (k:Nat) (d:Pl.Dg) (A B:Option Addr) (w:World) (e:Ending) (w':World):Prop :=
 (srB k d = false → e = .returned (.tuple #[.agg #[.slice none 0 0,.slice none 0 0,.int .i64 0],.slice none 0 0,.bool false])) ∧
 (srB k d = true → ∃ (A9 B9:Option Addr) (c8 c9:Nat) (v:Value),e = .returned (.tuple #[.agg #[.slice A9 (srD k d).n c8,.slice B9 (4 * (srD k d).n) c9,.int .i64 (srD k d).lp],v,.bool true]) ∧ (DgT w' A9 B9 (srD k d) ∨ (A9 = A ∧ B9 = B ∧ srD k d = d)) ∧ MovesIn w.heap.size w' v (srP k d)) ∧
 Below w.heap.size w w'
theorem apply_sl (r:Pl.Dg) (hr:Pl.Valid r) (A B:Option Addr) (n cp cq m lp:Nat) (k x y s:Int) (o:Bool) (w:World) (hn:n = r.n) (hm:m = 4 * r.n) (hl:lp = r.lp) (hg:DgAt w A B r) (h:(⟨k,x,y,s,o⟩:Mv) ∈ slD r) :
 Calls Tryz.prog 26 #[.agg #[.slice A n cp,.slice B m cq,.int .i64 (lp:Int)],.agg #[.int .i64 k,.int .i64 x,.int .i64 y,.int .i64 s,.bool o]] w fun e w' => ∃ (A8 B8:Option Addr) (b8 b9:Nat) (k9 x9 y9 s9:Int) (o9:Bool),e = .returned (.tuple #[.agg #[.slice A8 (apD r ⟨k,x,y,s,o⟩).n b8,.slice B8 (4 * (apD r ⟨k,x,y,s,o⟩).n) b9,.int .i64 ((apD r ⟨k,x,y,s,o⟩).lp:Int)],.agg #[.int .i64 k9,.int .i64 x9,.int .i64 y9,.int .i64 s9,.bool o9],.int .i64 0]) ∧ DgT w' A8 B8 (apD r ⟨k,x,y,s,o⟩) ∧ Below w.heap.size w w' := by
 subst hn
 subst hl
 obtain ⟨q,hq,hp,e,hc,hD⟩:=sl_ok h
 have hin:inR r.n ⟨5,(q:Nat),0,0,false⟩:=by unfold inR; simp; omega
 rw [hD]
 obtain ⟨rfl,rfl,rfl,rfl,rfl⟩:k = 5 ∧ x = (q:Int) ∧ y = 0 ∧ s = 0 ∧ o = false := by simpa using e
 refine (apply_5 r hr A B cp cq m q 0 0 false w hm hg hin).mono ?_
 rintro e w' ⟨_,h2,h3⟩
 obtain ⟨A8,B8,b8,b9,k9,x9,y9,s9,o9,_,he,hT⟩:=(h2 (by unfold sldC; simp [hp.2.2])).split
 exact ⟨A8,B8,b8,b9,k9,x9,y9,s9,o9,he,hT,h3⟩
theorem Slides_n (r:Pl.Dg) (hr:Pl.Valid r) (A B:Option Addr) (n cp cq m lp:Nat) (w:World) (hn:n = r.n) (hm:m = 4 * r.n) (hl:lp = r.lp) (hg:DgAt w A B r) :
 Calls Tryz.prog 43 #[.agg #[.slice A n cp,.slice B m cq,.int .i64 (lp:Int)]] w fun e w' => ∃ v,e = .returned v ∧ MovesAt w' v (slD r) ∧ Below w.heap.size w w' := by
 subst hn
 subst hl
 refine (Slides_any r hr A B cp cq m w hm hg).mono ?_
 rintro e w' ⟨v,h1,h2,h3⟩
 rw [hm] at h2
 exact ⟨v,h1,h2,h3⟩
theorem key_n (d:Pl.Dg) (hd:Pl.Valid d) (h20:d.n ≤ 20) (A B:Option Addr) (n cp cq m lp:Nat) (w:World) (hn:n = d.n) (hm:m = 4 * d.n) (hl:lp = d.lp) (hg:DgAt w A B d) (ht:GT w) :
 Calls Tryz.prog 36 #[.agg #[.slice A n cp,.slice B m cq,.int .i64 (lp:Int)]] w (KeyPost d w) := by
 subst hn
 subst hl
 exact key_any d hd h20 A B cp cq m w hm hg ht
theorem MovesAt.kp {W W':World} {v:Value} {ms:List Mv} (h:MovesAt W v ms) (k:KpT 43 W W'):MovesAt W' v ms := let ⟨b,h⟩:=h; ⟨b,own_kp h k⟩
theorem SrL.no {w W:World} {A0 B0 A B:Option Addr} {d0:Pl.Dg} {k gm:Nat} {dv:List Value} {v:Value} {zs:List Nm} (h:SrL w A0 B0 d0 k dv gm v zs W) (hb:srB k d0 = false) :
 SrPost k d0 A B w (.returned (.tuple #[.agg #[.slice none 0 0,.slice none 0 0,.int .i64 0],.slice none 0 0,.bool false])) (((W.setCell ⟨w.heap.size + 1,0,none⟩ (.slice none 0 0)).setCell ⟨w.heap.size + 1,1,none⟩ (.slice none 0 0)).setCell ⟨w.heap.size + 1,2,none⟩ (.int .i64 0)) :=
 by
 refine ⟨fun _ => rfl,fun h2 => ?_,below3 h.bel (by omega) _ _ _⟩
 rw [hb] at h2
 cases h2
theorem SrL.yes {w w16 W:World} {A0 B0:Option Addr} {d0:Pl.Dg} {k gm F c:Nat} {dv:List Value} {v:Value} {zs:List Nm} {z1:Nm} {l1:List Nd} {a:Option Addr} {P:List Mv} (h:SrL w A0 B0 d0 k dv gm v zs W) (hr:srR k d0 = (l1,2)) (hl:l1 = zs.map Nm.a) (hlen:l1.length = F + 1) (hz:zs[F]? = some z1) (hP:P = pt l1 F)
 (ho:W.ownsRow w16.heap.size 43 5 (.slice a P.length c) P.length (mvs P.reverse)) (h16:w.heap.size + 1 < w16.heap.size) (h17:w16.heap.size ≤ W.heap.size) :
 SrPost k d0 A0 B0 w (.returned (.tuple #[.agg #[.slice z1.A z1.a.d.n z1.c,.slice z1.B (4 * z1.a.d.n) z1.e,.int .i64 z1.a.d.lp],.slice a P.length c,.bool true])) (((W.setCell ⟨w.heap.size + 1,0,none⟩ (.slice z1.A z1.a.d.n z1.c)).setCell ⟨w.heap.size + 1,1,none⟩ (.slice z1.B (4 * z1.a.d.n) z1.e)).setCell ⟨w.heap.size + 1,2,none⟩ (.int .i64 z1.a.d.lp)) := by
 have hb:srB k d0 = true:=by unfold srB; rw [hr]; rfl
 have hlF:l1[F]? = some z1.a:=by rw [hl,List.getElem?_map,hz]; rfl
 have hD:srD k d0 = z1.a.d:=by
  unfold srD
  rw [hr]
  show ((l1.getLast?).getD (nd0 d0)).d = _
  rw [List.getLast?_eq_getElem?,hlen,Nat.add_sub_cancel,hlF]
  rfl
 have hp:srP k d0 = P.reverse:=by
  unfold srP
  rw [hr,hP]
  show (pt l1 (l1.length - 1)).reverse = _
  rw [hlen,Nat.add_sub_cancel]
 refine ⟨fun h2 => ?_,fun _ => ?_,below3 h.bel (by omega) _ _ _⟩
 ·rw [hb] at h2
  cases h2
 ·rw [hD,hp]
  refine ⟨z1.A,z1.B,z1.c,z1.e,_,rfl,?_,w16.heap.size,by omega,by simp; omega,?_⟩
  ·rcases h.nt z1 (List.mem_of_getElem? hz) with t | t
   ·exact .inl (t.set3 h.rs _ _ _)
   ·exact .inr t
  ·rw [List.length_reverse]
   exact ownsRow_setCell_below (ownsRow_setCell_below (ownsRow_setCell_below ho (by show w.heap.size + 1 < _; omega) _) (by show w.heap.size + 1 < _; omega) _) (by show w.heap.size + 1 < _; omega) _
theorem MovesAt.cells {W:World} {A:Option Addr} {n c j:Nat} {ms:List Mv} (h:MovesAt W (.slice A n c) ms) (hj:j < n):∃ g k x y s o,A = some ⟨g,0,none⟩ ∧ g < W.heap.size ∧ ms[j]? = some ⟨k,x,y,s,o⟩ ∧ W.cell? ⟨g,j * 5,none⟩ = some (.int .i64 k) ∧ W.cell? ⟨g,j * 5 + 1,none⟩ = some (.int .i64 x) ∧ W.cell? ⟨g,j * 5 + 2,none⟩ = some (.int .i64 y) ∧ W.cell? ⟨g,j * 5 + 3,none⟩ = some (.int .i64 s) ∧ W.cell? ⟨g,j * 5 + 4,none⟩ = some (.bool o) := by
 obtain ⟨A',c',e,hV⟩:=h.mv
 injection e with e1 e2 e3
 subst e1
 subst e2
 exact hV.at_ hj
structure SrI (w:World) (A0 B0:Option Addr) (d0:Pl.Dg) (k:Nat) (dv:List Value) (gm:Nat) (i:Nat) (z:Nm) (l0:List Nd) (g11:Nat) (vS:Value) (j:Nat) (v:Value) (zs:List Nm) (W:World):Prop where
 s:SrL w A0 B0 d0 k dv gm v zs W
 at_:Row W g11 75 z.v
 ne:v.ownBlock ≠ some g11
 mv:MovesAt W vS (slD z.a.d)
 inl:inn i z.a ((slD z.a.d).drop j) (zs.map Nm.a) = inn i z.a (slD z.a.d) l0
 hz:zs[i]? = some z
theorem SrI.below {w W W':World} {A0 B0:Option Addr} {d0:Pl.Dg} {k gm i g11 j:Nat} {dv:List Value} {z:Nm} {l0:List Nd} {vS v:Value} {zs:List Nm} (h:SrI w A0 B0 d0 k dv gm i z l0 g11 vS j v zs W) (hb:Below W.heap.size W W'):SrI w A0 B0 d0 k dv gm i z l0 g11 vS j v zs W' :=
 ⟨h.s.below hb,h.at_.below hb,h.ne,h.mv.kp (.of_below hb),h.inl,h.hz⟩
theorem box10 {W:World} {g:Nat} {t:TypeId} {a b c d e f x y u v:Value} (h:Row W g t [a,b,c,d,e,f,x,y,u,v]) :
 W.cell? ⟨g,0,none⟩ = some a ∧ W.cell? ⟨g,1,none⟩ = some b ∧ W.cell? ⟨g,2,none⟩ = some c ∧ W.cell? ⟨g,3,none⟩ = some d ∧ W.cell? ⟨g,4,none⟩ = some e ∧ W.cell? ⟨g,5,none⟩ = some f ∧ W.cell? ⟨g,6,none⟩ = some x ∧ W.cell? ⟨g,7,none⟩ = some y ∧ W.cell? ⟨g,8,none⟩ = some u ∧ W.cell? ⟨g,9,none⟩ = some v ∧ ∀ o,W.frozen? ⟨g,o,none⟩ = false := by
 refine ⟨?_,?_,?_,?_,?_,?_,?_,?_,?_,?_,Row.free h⟩ <;> exact cell_of_row _ _ _ _ _ _ h
set_option maxRecDepth 100000 in
set_option maxHeartbeats 1600000 in
theorem search_any (d:Pl.Dg) (hd:Pl.Valid d) (h20:d.n ≤ 20) (k:Nat) (hk:k ≤ 8) (A B:Option Addr) (cp cq m:Nat) (w:World) (hm:m = 4 * d.n) (hg:DgAt w A B d) (ht:GT w) :
 Calls Tryz.prog 24 #[.agg #[.slice A d.n cp,.slice B m cq,.int .i64 d.lp],.int .i64 (k:Int)] w (SrPost k d A B w) := by
 have HM:=hide hm
 have HG:=hide hg
 have HT:=hide ht
 have HD:=hide hd
 have hdn:=hd.wf.few
 have hdl:=hd.wf.lp
 clear hm hg ht
 obtain ⟨V0,hV0⟩:∃ W,W = (w.alloc (.cells #[.slice A d.n cp,.slice B m cq,.int .i64 (d.lp:Int)] 24)).alloc (.cells #[.slice none 0 0,.slice none 0 0,.int .i64 0] 24) := ⟨_,rfl⟩
 have X0:=hide (show Row V0 w.heap.size 24 [.slice A d.n cp,.slice B m cq,.int .i64 (d.lp:Int)] by rw [hV0]; exact (row_at (vs := [.slice A d.n cp,.slice B m cq,.int .i64 (d.lp:Int)]) rfl).alloc _)
 have Y0:=hide (show Row V0 (w.heap.size + 1) 24 [.slice none 0 0,.slice none 0 0,.int .i64 0] by rw [hV0]; exact row_at (vs := [.slice none 0 0,.slice none 0 0,.int .i64 0]) (by simp))
 have B0:=hide (show Below w.heap.size w V0 by rw [hV0]; exact ((Below.refl _ _).alloc (Nat.le_refl _) _).alloc (by simp) _)
 have hs0:V0.heap.size = w.heap.size + 1 + 1:=by rw [hV0]; simp
 go_enter Tryz.func24,Tryz.ntmps24
 go_wp2
 go_step3
 rw [← hV0]
 have HV0:=hide hV0
 clear hV0
 obtain ⟨d0,d1,d2,d3⟩:=box3 X0.out
 go_upto_region 2 with fail
 obtain ⟨z0,hz0⟩:∃ z:Nm,z = ⟨nd0 d,A,B,cp,cq⟩:=⟨_,rfl⟩
 obtain ⟨V1,hV1⟩:∃ W,W = V0.alloc (.cells #[.slice A d.n cp,.slice B m cq,.int .i64 (d.lp:Int),.int .i64 0,.int .i64 0,.int .i64 0,.int .i64 0,.bool false,.int .i64 (-1),.int .i64 0] 75) := ⟨_,rfl⟩
 have hz0v:z0.v = [.slice A d.n cp,.slice B m cq,.int .i64 (d.lp:Int),.int .i64 0,.int .i64 0,.int .i64 0,.int .i64 0,.bool false,.int .i64 (-1),.int .i64 0]:=by rw [hz0,HM.out]; rfl
 have b01:Below V0.heap.size V0 V1:=by rw [hV1]; exact (Below.refl _ _).alloc (Nat.le_refl _) _
 have hs1:V1.heap.size = w.heap.size + 1 + 1 + 1:=by rw [hV1]; simp [hs0]
 have OW1:=hide (show V1.ownsRow (w.heap.size + 1 + 1) 75 10 (.slice (some ⟨w.heap.size + 1 + 1,0,none⟩) 1 1) 1 (nms [z0]) from by
  refine ⟨by rw [nms_len]; rfl,.inr ⟨w.heap.size + 1 + 1,1,z0.v.toArray,rfl,Nat.le_refl _,?_,Nat.le_refl _,by unfold maxLen; omega,rfl,by simp [nms]; rfl⟩⟩
  rw [hz0v]
  exact row_at (W := V0) (vs := [.slice A d.n cp,.slice B m cq,.int .i64 (d.lp:Int),.int .i64 0,.int .i64 0,.int .i64 0,.int .i64 0,.bool false,.int .i64 (-1),.int .i64 0]) hs0.symm |> fun h => by rw [hV1]; exact h)
 have MP2:=hide (MapIs.new V1)
 rw [hs1] at MP2
 have MM:(Instr.makeMap 77 none).run Tryz.prog V1 = .ok (.map (some (w.heap.size + 1 + 1 + 1))) (V1.alloc (.map #[] 0)):=by
  rw [← hs1]
  rfl
 rw [← hV1]
 obtain ⟨V2,hV2⟩:∃ W,W = V1.alloc (.map #[] 0) := ⟨_,rfl⟩
 have b12:Below V1.heap.size V1 V2:=by rw [hV2]; exact (Below.refl _ _).alloc (Nat.le_refl _) _
 have X2:=hide ((X0.out.below b01).below b12)
 have Y2:=hide ((Y0.out.below b01).below b12)
 have B2:=hide ((B0.out.trans (b01.mono B0.out.size)).trans (b12.mono (by rw [hs1]; omega)))
 have OW2:=hide (own_below OW1.out b12)
 have HZ0:=hide hz0
 have HS2:=hide (show V2.heap.size = w.heap.size + 1 + 1 + 1 + 1 by rw [hV2]; simp [hs1])
 rw [← hV2] at MP2 MM
 clear b01 b12 hz0 hz0v hs0 hs1 hV1 hV2 d0 d1 d2 d3 OW1 X0 Y0 B0
 obtain ⟨d0,d1,d2,d3⟩:=box3 X2.out
 go_wp2_with fail
 refine (key_any d HD.out h20 A B cp cq m _ HM.out (HG.out.keep B2.out) (HT.out.below B2.out)).mono ?_
 rintro e w3 ⟨sk,rfl,hsk,hsz,hb3⟩
 have HSK:=hide hsk
 have X3:=hide (X2.out.below hb3)
 have Y3:=hide (Y2.out.below hb3)
 have B3:=hide (B2.out.trans (hb3.mono B2.out.size))
 have OW3:=hide (own_below OW2.out hb3)
 have MP3:=hide (MP2.out.same (hb3.block _ MP2.out.lt))
 have hs3:w.heap.size + 1 + 1 + 1 + 1 ≤ w3.heap.size:=by have := hb3.size; rw [HS2.out] at this; exact this
 clear hsk hb3 d0 d1 d2 d3 X2 Y2 B2 OW2 MP2 HS2 MM
 obtain ⟨n3,D3,om3,hn3,hD3⟩:=MP3.out
 have OM3:=hide om3
 have HN3:=hide hn3
 have HD3:=hide hD3
 have hn3m:n3 < maxLen:=by have:n3 ≤ 0 := hn3; unfold maxLen; omega
 clear om3 hn3 hD3
 go_wp2_with (refine wpList_insert_own _ (by rfl) _ _ _ 77 (by rfl) 9 4 skKey Tryz.underlying77 (plainElem Tryz.prog 4) (w.heap.size + 1 + 1 + 1) n3 D3 (by rfl) OM3.out hn3m (.string sk) (.bool true) (.string sk.data.toList) (by rfl) (by rfl) (WideMaps.keyOf_string_mk Tryz.underlying9 (by unfold maxLen; omega)) _ _ (plainElem_bool Tryz.underlying4 true) ?_; intro w4 om4 gr4; have OM4 := hide om4; have GR4 := hide gr4; clear om4 gr4)
 have L4:=hide (show SrL w A B d k [.slice A d.n cp,.slice B m cq,.int .i64 (d.lp:Int)] (w.heap.size + 1 + 1 + 1) (.slice (some ⟨w.heap.size + 1 + 1,0,none⟩) 1 1) [z0] w4 from by
  have k1:∀ t,KpT t w3 w4:=fun t => .of_map GR4.out MP3.out.obj
  refine ⟨X3.out.kp (k1 _),Y3.out.kp (k1 _),own_kp OW3.out (k1 _),fun z hz => ?_,?_,?_,by omega,B3.out.grown GR4.out B3.out.size (fun k hk => by injection hk with hk; omega)⟩
  ·rw [List.mem_singleton.1 hz,HZ0.out]
   exact .inr ⟨rfl,rfl,rfl⟩
  ·rw [HZ0.out]
   exact LOk.start HD.out k
  ·have:=MapIs.put OM3.out HN3.out HD3.out sk.data.toList OM4.out
   rw [HSK.out] at this
   rw [HZ0.out]
   exact this)
 have HSR:=hide (show outr k 301 0 ([z0].map Nm.a) = srR k d by rw [HZ0.out]; rfl)
 clear X3 Y3 B3 OW3 MP3 HN3 HD3 OM3 OM4 GR4 HZ0 HSK hs3 hn3m hsz
 go_wp2
 go_step3
 go_wp2_with fail
 go_loopg [7,9,10,11,13,14,15,16,17,45] 300 (fun g s7 s9 s10 s11 s13 s14 s15 s16 s17 s45 wx => ∃ (i:Nat) (zs:List Nm),i + g = 300 ∧ i ≤ zs.length ∧ s9 = .int .i64 (-1) ∧ s10 = .int .i64 (i:Int) ∧ outr k (g + 1) i (zs.map Nm.a) = srR k d ∧ SrL w A B d k [.slice A d.n cp,.slice B m cq,.int .i64 (d.lp:Int)] (w.heap.size + 1 + 1 + 1) s7 zs wx)
 case atStart => exact ⟨0,[z0],by omega,by simp,rfl,rfl,HSR.out,L4.out⟩
 case round =>
  clear L4 HSR
  obtain ⟨i,zs,hig,hil,rfl,rfl,hsr,hl⟩:=hrel
  have HIG:=hide hig
  have HSR:=hide hsr
  have K0:=hide hl
  have hz3:zs.length ≤ 300:=by have := hl.ok.few; rw [List.length_map] at this; exact this
  clear hig hsr hl
  obtain ⟨gO,hgO⟩:∃ g,g = gk := ⟨_,rfl⟩
  rw [← hgO] at HIG HSR
  obtain ⟨N,hN⟩:∃ n,n = zs.length := ⟨_,rfl⟩
  have HN:=hide hN
  obtain ⟨aLst,cL,hvL⟩:=owns_slice K0.out.own
  subst hvL
  by_cases hi:i < N
  ·have hii:(i:Int) < (N:Int):=by omega
   have i0:(0:Int) ≤ (i:Int):=by omega
   obtain ⟨z,hz⟩:∃ z,zs[i]? = some z := ⟨_,List.getElem?_eq_getElem (by rw [← hN]; exact hi)⟩
   have HZ:=hide hz
   have HMA:=hide (show (zs.map Nm.a)[i]? = some z.a by rw [List.getElem?_map,hz]; rfl)
   have NOK:=hide (K0.out.ok.at_ i z.a HMA.out)
   have hN0:0 < zs.length:=by omega
   obtain ⟨gl,cap,hA,hcap,hgl⟩:=World.ownsRow.form K0.out.own hN0
   injection hA with hA _ hcc
   subst hA
   subst hcc
   have CA:=fun (t:Nat) (u:Value) (ht:t < 10) (e:z.v[t]? = some u) => (show wr.cell? ⟨gl,i * 10 + t,none⟩ = some u by rw [World.ownsRow.cellAt K0.out.own _ (by omega),nms_get zs i z hz t u e])
   rw [← hN]
   have hN3:N ≤ 300:=by omega
   have HV:=hide (show z.v = z.v from rfl)
   have NTZ:=hide (K0.out.nt z (List.mem_of_getElem? hz))
   obtain ⟨⟨dz,⟨zk,zx,zy,zsg,zo⟩,zf,zsl⟩,zA,zB,zc,ze⟩:=z
   have c0:=CA 0 _ (by omega) rfl
   have c1:=CA 1 _ (by omega) rfl
   have c2:=CA 2 _ (by omega) rfl
   have c3:=CA 3 _ (by omega) rfl
   have c4:=CA 4 _ (by omega) rfl
   have c5:=CA 5 _ (by omega) rfl
   have c6:=CA 6 _ (by omega) rfl
   have c7:=CA 7 _ (by omega) rfl
   have c8:=CA 8 _ (by omega) rfl
   have c9:=CA 9 _ (by omega) rfl
   rw [Nat.add_zero] at c0
   simp only at c0 c1 c2 c3 c4 c5 c6 c7 c8 c9
   obtain ⟨n8,hn8⟩:∃ n,n = dz.n := ⟨_,rfl⟩
   obtain ⟨m8,hm8⟩:∃ n,n = 4 * dz.n := ⟨_,rfl⟩
   obtain ⟨l8,hl8⟩:∃ n,n = dz.lp := ⟨_,rfl⟩
   rw [← hn8] at c0
   rw [← hm8] at c1
   rw [← hl8] at c2
   have HN8:=hide hn8
   have HM8:=hide hm8
   have HL8:=hide hl8
   have hsk:zsl ≤ 8:=by have := NOK.out.s; simp only at this; omega
   clear CA hz HV hn8 hm8 hl8 hN0 hcap
   go_upto_region 8 with fail
   obtain ⟨W7,hW7⟩:∃ W,W = wr.alloc (.cells #[.slice zA n8 zc,.slice zB m8 ze,.int .i64 (l8:Int),.int .i64 zk,.int .i64 zx,.int .i64 zy,.int .i64 zsg,.bool zo,.int .i64 zf,.int .i64 (zsl:Int)] 75) := ⟨_,rfl⟩
   obtain ⟨g11,hg11⟩:∃ g,g = wr.heap.size := ⟨_,rfl⟩
   rw [← hW7,← hg11]
   have b7:Below wr.heap.size wr W7:=by rw [hW7]; exact (Below.refl _ _).alloc (Nat.le_refl _) _
   have R7:=hide (show Row W7 g11 75 [.slice zA n8 zc,.slice zB m8 ze,.int .i64 (l8:Int),.int .i64 zk,.int .i64 zx,.int .i64 zy,.int .i64 zsg,.bool zo,.int .i64 zf,.int .i64 (zsl:Int)] by
    rw [hW7]
    exact row_at (vs := [.slice zA n8 zc,.slice zB m8 ze,.int .i64 (l8:Int),.int .i64 zk,.int .i64 zx,.int .i64 zy,.int .i64 zsg,.bool zo,.int .i64 zf,.int .i64 (zsl:Int)]) hg11)
   have K7:=hide (K0.out.below b7)
   have B07:=hide b7
   have hne7:(Value.slice (some ⟨gl,0,none⟩) N cL).ownBlock ≠ some g11:=fun e => by
    have e:gl = g11:=by injection e
    omega
   have hg2:w.heap.size + 1 < g11:=by have := K0.out.big; omega
   clear hW7 hg11 b7 c0 c1 c2 c3 c4 c5 c6 c7 c8 c9
   obtain ⟨c0,c1,c2,c3,c4,c5,c6,c7,c8,c9,cf⟩:=box10 R7.out
   by_cases hkz:k ≤ zsl
   ·have hkzi:(k:Int) ≤ (zsl:Int):=by omega
    go_wp2_with fail
    go_roundg (gO - 1)
    case measure => have := HIG.out; omega
    case rel => exact ⟨i + 1,zs,by have := HIG.out; omega,by omega,by go_num,by go_num,by
     rw [← HSR.out,out_far HMA.out hkz]
     have:=HIG.out
     rw [show gO - 1 + 1 = gO by omega],K7.out⟩
   ·have hkzi:¬ ((k:Int) ≤ (zsl:Int)):=by omega
    go_wp2_with fail
    refine (Slides_n dz NOK.out.v zA zB n8 zc ze m8 l8 _ HN8.out HM8.out HL8.out (NTZ.out.dg HG.out K0.out.bel |>.keep (by have := K7.out.bel; exact B07.out))).mono ?_
    rintro e w8 ⟨vS,rfl,hmv,hb8⟩
    obtain ⟨A5,c5',rfl,hV⟩:=hmv.mv
    obtain ⟨n5,hn5⟩:∃ n,n = (slD dz).length := ⟨_,rfl⟩
    have HN5:=hide hn5
    rw [← hn5] at hmv hV ⊢
    have hn5b:n5 ≤ 256:=by
     rw [hn5]
     have h1:=slL_len dz (4 * dz.n)
     have h2:=NOK.out.v.wf.few
     simp only at h2
     unfold slD
     omega
    have I8:=hide (show SrI w A B d k [.slice A d.n cp,.slice B m cq,.int .i64 (d.lp:Int)] (w.heap.size + 1 + 1 + 1) i ⟨⟨dz,⟨zk,zx,zy,zsg,zo⟩,zf,zsl⟩,zA,zB,zc,ze⟩ (zs.map Nm.a) g11 (.slice A5 n5 c5') 0 (.slice (some ⟨gl,0,none⟩) zs.length cL) zs w8 from
     ⟨K7.out.below hb8,by have := R7.out.below hb8; rw [HN8.out,HM8.out,HL8.out] at this; exact this,by rw [HN.out] at hne7; exact hne7,hmv,by rw [List.drop_zero],HZ.out⟩)
    clear hmv hV hn5 hb8 c0 c1 c2 c3 c4 c5 c6 c7 c8 c9 cf K7 R7 K0 NTZ B07 HZ
    go_wp2_with fail
    go_loopg [7,9,13,14,15,16,17,45] n5 (fun g s7 s9 s13 s14 s15 s16 s17 s45 wx => ∃ (j:Nat) (zs':List Nm),j + g = n5 ∧ s9 = .int .i64 (-1) ∧ s45 = .int .i64 (j:Int) ∧ SrI w A B d k [.slice A d.n cp,.slice B m cq,.int .i64 (d.lp:Int)] (w.heap.size + 1 + 1 + 1) i ⟨⟨dz,⟨zk,zx,zy,zsg,zo⟩,zf,zsl⟩,zA,zB,zc,ze⟩ (zs.map Nm.a) g11 (.slice A5 n5 c5') j s7 zs' wx)
    case atStart => exact ⟨0,zs,by omega,rfl,rfl,I8.out⟩
    case round =>
     clear I8
     obtain ⟨j,zs',hjg,rfl,rfl,hl⟩:=hrel
     have HJG:=hide hjg
     have J0:=hide hl
     have hjn:j ≤ n5:=by omega
     have hz3':zs'.length ≤ 300:=by have := hl.s.ok.few; rw [List.length_map] at this; exact this
     clear hjg hl
     obtain ⟨gI,hgI⟩:∃ g,g = gk := ⟨_,rfl⟩
     rw [← hgI] at HJG
     obtain ⟨aL2,cL2,hvL2⟩:=owns_slice J0.out.s.own
     subst hvL2
     by_cases hj:j < n5
     ·have hji:(j:Int) < (n5:Int):=by omega
      have j0:(0:Int) ≤ (j:Int):=by omega
      obtain ⟨g5,mk,mx,my,ms,mo,rfl,hg5,hmv,c0,c1,c2,c3,c4⟩:=J0.out.mv.cells hj
      have HMV:=hide hmv
      have HMM:=hide (show (⟨mk,mx,my,ms,mo⟩:Mv) ∈ slD dz from List.mem_of_getElem? hmv)
      clear hmv
      go_upto_region 12 with fail
      obtain ⟨W9,hW9⟩:∃ W,W = wr.alloc (.cells #[.int .i64 mk,.int .i64 mx,.int .i64 my,.int .i64 ms,.bool mo] 43) := ⟨_,rfl⟩
      obtain ⟨gM,hgM⟩:∃ g,g = wr.heap.size := ⟨_,rfl⟩
      rw [← hW9,← hgM]
      have b9w:Below wr.heap.size wr W9:=by rw [hW9]; exact (Below.refl _ _).alloc (Nat.le_refl _) _
      have RM:=hide (show Row W9 gM 43 [.int .i64 mk,.int .i64 mx,.int .i64 my,.int .i64 ms,.bool mo] by
       rw [hW9]
       exact row_at (vs := [.int .i64 mk,.int .i64 mx,.int .i64 my,.int .i64 ms,.bool mo]) hgM)
      have J9:=hide (J0.out.below b9w)
      have hgM0:wr.heap.size ≤ gM:=by omega
      clear hW9 hgM b9w c0 c1 c2 c3 c4 J0
      have RA:=hide (show Row W9 g11 75 [.slice zA n8 zc,.slice zB m8 ze,.int .i64 (l8:Int),.int .i64 zk,.int .i64 zx,.int .i64 zy,.int .i64 zsg,.bool zo,.int .i64 zf,.int .i64 (zsl:Int)] from by
       have:=J9.out.at_
       rw [HN8.out,HM8.out,HL8.out]
       exact this)
      obtain ⟨c0,c1,c2,c3,c4,c5,c6,c7,c8,c9,cf⟩:=box10 RA.out
      obtain ⟨p0,p1,p2,p3,p4,pf⟩:=box5 RM.out
      have D9:=hide (((J9.out.s.nt _ (List.mem_of_getElem? J9.out.hz)).dg HG.out J9.out.s.bel))
      simp only at D9
      go_wp2_with fail
      refine (apply_sl dz NOK.out.v zA zB n8 zc ze m8 l8 mk mx my ms mo _ HN8.out HM8.out HL8.out D9.out HMM.out).mono ?_
      rintro e w10 ⟨A8,B8,b8,b9,k9,x9,y9,s9,o9,rfl,hT,hb10⟩
      have HSL:=hide (sl_n NOK.out.v HMM.out)
      obtain ⟨r2,hr2⟩:∃ r2,r2 = apD dz ⟨mk,mx,my,ms,mo⟩:=⟨_,rfl⟩
      rw [← hr2] at hT HSL ⊢
      have HR2:=hide hr2
      obtain ⟨n9,hn9⟩:∃ n,n = r2.n := ⟨_,rfl⟩
      obtain ⟨m9,hm9⟩:∃ n,n = 4 * r2.n := ⟨_,rfl⟩
      obtain ⟨l9,hl9⟩:∃ n,n = r2.lp := ⟨_,rfl⟩
      rw [← hm9,← hn9,← hl9]
      have HN9:=hide hn9
      have HM9:=hide hm9
      have HL9:=hide hl9
      have HT9:=hide hT
      have J10:=hide (J9.out.below hb10)
      have RM10:=hide (RM.out.below hb10)
      clear hr2 hn9 hm9 hl9 hT hb10 c0 c1 c2 c3 c4 c5 c6 c7 c8 c9 cf p0 p1 p2 p3 p4 pf D9 J9 RM RA
      go_upto_region 13 with fail
      obtain ⟨W11,hW11⟩:∃ W,W = (w10.alloc (.cells #[.slice A8 n9 b8,.slice B8 m9 b9,.int .i64 (l9:Int)] 24)).alloc (.cells #[.int .i64 k9,.int .i64 x9,.int .i64 y9,.int .i64 s9,.bool o9] 43) := ⟨_,rfl⟩
      obtain ⟨gA,hgA⟩:∃ g,g = w10.heap.size := ⟨_,rfl⟩
      rw [← hW11,← hgA]
      have b11:Below w10.heap.size w10 W11:=by rw [hW11]; exact ((Below.refl _ _).alloc (Nat.le_refl _) _).alloc (by simp) _
      have RA11:=hide (show Row W11 gA 24 [.slice A8 n9 b8,.slice B8 m9 b9,.int .i64 (l9:Int)] by
       rw [hW11]
       exact (row_at (vs := [.slice A8 n9 b8,.slice B8 m9 b9,.int .i64 (l9:Int)]) hgA).alloc _)
      have J11:=hide (J10.out.below b11)
      have RM11:=hide (RM10.out.below b11)
      have HT11:=hide (HT9.out.keep b11)
      clear hW11 hgA b11 J10 RM10 HT9
      obtain ⟨q0,q1,q2,qf⟩:=box3 RA11.out
      go_wp2_with fail
      refine (key_n r2 HSL.out.1 (by have h1 := HSL.out.2.1; have h2 := NOK.out.n; simp only at h2; omega) A8 B8 n9 b8 b9 m9 l9 _ HN9.out HM9.out HL9.out HT11.out.at (HT.out.below J11.out.s.bel)).mono ?_
      rintro e w12 ⟨sk2,rfl,hsk,hsz,hb12⟩
      have HSK:=hide hsk
      have RA12:=hide (RA11.out.below hb12)
      have J12:=hide (J11.out.below hb12)
      have RM12:=hide (RM11.out.below hb12)
      have HT12:=hide (HT11.out.keep hb12)
      clear hsk hb12 q0 q1 q2 qf RA11 J11 RM11 HT11
      have hlook:=J12.out.s.mp.look sk2 (by unfold maxLen; omega)
      have HDR:=hide (List.drop_eq_getElem_cons (l := slD dz) (i := j) (by have := HN5.out; omega))
      rw [show (slD dz)[j]'(by have := HN5.out; omega) = ⟨mk,mx,my,ms,mo⟩ from (List.getElem?_eq_some_iff.1 HMV.out).2] at HDR
      have HIL:=hide (show inn i ⟨dz,⟨zk,zx,zy,zsg,zo⟩,zf,zsl⟩ (⟨mk,mx,my,ms,mo⟩ :: (slD dz).drop (j + 1)) (zs'.map Nm.a) = inn i ⟨dz,⟨zk,zx,zy,zsg,zo⟩,zf,zsl⟩ (slD dz) (zs.map Nm.a) by
       rw [← HDR.out]
       exact J12.out.inl)
      by_cases hkn:keyD r2 ∈ keysL (zs'.map Nm.a)
      ·rw [HSK.out,Pl.vb_true hkn] at hlook
       have HI2:=hide (show inn i ⟨dz,⟨zk,zx,zy,zsg,zo⟩,zf,zsl⟩ ((slD dz).drop (j + 1)) (zs'.map Nm.a) = inn i ⟨dz,⟨zk,zx,zy,zsg,zo⟩,zf,zsl⟩ (slD dz) (zs.map Nm.a) by
        rw [← HIL.out,inn_known (a := ⟨dz,⟨zk,zx,zy,zsg,zo⟩,zf,zsl⟩) (z := ⟨mk,mx,my,ms,mo⟩) (i := i) (l := zs'.map Nm.a) (r := (slD dz).drop (j + 1)) (by show keyD (apD dz _) ∈ _; rw [← HR2.out]; exact hkn)])
       clear hkn
       go_wp2_with fail
       go_roundg (gI - 1)
       case measure => have := HJG.out; omega
       case rel => exact ⟨j + 1,zs',by have := HJG.out; omega,by go_num,by go_num,⟨J12.out.s,J12.out.at_,J12.out.ne,J12.out.mv,HI2.out,J12.out.hz⟩⟩
      ·rw [HSK.out,Pl.vb_false hkn] at hlook
       have HKN:=hide (show keyD (apD dz ⟨mk,mx,my,ms,mo⟩) ∉ keysL (zs'.map Nm.a) by rw [← HR2.out]; exact hkn)
       clear hkn
       by_cases h3:zs'.length = 300
       ·have h3i:((zs'.length:Int) == 300) = true:=by rw [beq_iff_eq]; omega
        have H3:=hide h3
        have HB:=hide (show srB k d = false by
         have h1:=HIL.out
         rw [inn_full (a := ⟨dz,⟨zk,zx,zy,zsg,zo⟩,zf,zsl⟩) (z := ⟨mk,mx,my,ms,mo⟩) (i := i) (l := zs'.map Nm.a) (r := (slD dz).drop (j + 1)) HKN.out (by rw [List.length_map]; exact h3)] at h1
         unfold srB
         rw [← HSR.out,out_done (k := k) (f := gO) (i := i) (a := ⟨dz,⟨zk,zx,zy,zsg,zo⟩,zf,zsl⟩) (l := zs.map Nm.a) (r := (zs'.map Nm.a,1)) HMA.out hkz h1.symm (show (1:Nat) ≠ 0 by decide)]
         rfl)
        obtain ⟨e0,e1,e2,e3⟩:=box3 J12.out.s.rs
        clear h3
        go_wp2_with fail
        rw [Exit.noGoto_ret]
        have RR:=row3 J12.out.s.rs rfl (.slice none 0 0) (.slice none 0 0) (.int .i64 0)
        refine bodyPost_ret (v := .tuple #[.agg #[.slice none 0 0,.slice none 0 0,.int .i64 0],.slice none 0 0,.bool false]) ?_ rfl ?_
        ·obtain ⟨r0,r1,r2,r3⟩:=box3 RR
         simp [results,Tryz.results24,go_sem,r0,r1,r2]
        ·exact J12.out.s.no HB.out
       ·have h3i:((zs'.length:Int) == 300) = false:=by rw [beq_eq_false_iff_ne]; omega
        have H3:=hide h3
        clear h3
        go_upto_region 17 with fail
        obtain ⟨n3,D3,om3,hn3,hD3⟩:=J12.out.s.mp
        have OM3:=hide om3
        have HN3:=hide hn3
        have HD3:=hide hD3
        have hn3m:n3 < maxLen:=by
         have:=hn3
         unfold keysL at this
         rw [List.length_map,List.length_map] at this
         unfold maxLen
         omega
        clear om3 hn3 hD3 hlook
        go_upto_region 18 with (refine wpList_mapUpdate_own _ (by rfl) _ _ _ 77 (by rfl) 9 4 skKey Tryz.underlying77 (plainElem Tryz.prog 4) (w.heap.size + 1 + 1 + 1) n3 D3 (by rfl) OM3.out hn3m (.string sk2) (.bool true) (.string sk2.data.toList) (by rfl) (by rfl) (WideMaps.keyOf_string_mk Tryz.underlying9 (by unfold maxLen; omega)) _ _ (plainElem_bool Tryz.underlying4 true) ?_; intro w13 om4 gr4; have OM4 := hide om4; have GR4 := hide gr4; clear om4 gr4)
        have MP13:=hide (show MapIs w13 (w.heap.size + 1 + 1 + 1) (keysL (zs'.map Nm.a) ++ [keyD r2]) by
         have:=MapIs.put OM3.out HN3.out HD3.out sk2.data.toList OM4.out
         rw [HSK.out] at this
         exact this)
        obtain ⟨z1,hz1⟩:∃ z:Nm,z = ⟨nd1 i ⟨dz,⟨zk,zx,zy,zsg,zo⟩,zf,zsl⟩ ⟨mk,mx,my,ms,mo⟩,A8,B8,b8,b9⟩:=⟨_,rfl⟩
        have hz1d:z1.a.d = r2:=by rw [hz1]; exact HR2.out.symm
        have HZV:=hide (show z1.v = [.slice A8 n9 b8,.slice B8 m9 b9,.int .i64 (l9:Int),.int .i64 mk,.int .i64 mx,.int .i64 my,.int .i64 ms,.bool mo,.int .i64 (i:Int),.int .i64 ((zsl:Int) + 1)] by
         rw [HN9.out,HM9.out,HL9.out,HR2.out,hz1]
         rfl)
        have HLK:=hide (show LOk d k (zs'.map Nm.a ++ [z1.a]) by
         rw [hz1]
         exact J12.out.s.ok.push (by rw [List.length_map]; exact H3.out) (by rw [List.getElem?_map,J12.out.hz]; rfl) hkz HMM.out)
        have APP:=hide (fun (W2:World) (g c n:Nat) => J12.out.s.app (z := z1) (W2 := W2) (g := g) (c := c) (n := n) (by rw [hz1d]; exact MP13.out) GR4.out HLK.out)
        obtain ⟨own13,k13,b13,s13,_⟩:=APP.out w13 0 0 0
        have OW13:=hide own13
        have K13:=hide k13
        have RA13:=hide (RA12.out.kp (k13 _))
        have RM13:=hide (RM12.out.kp (k13 _))
        have HT13:=hide (HT12.out.kp (k13 _))
        have AT13:=hide (show Row w13 g11 75 [.slice zA n8 zc,.slice zB m8 ze,.int .i64 (l8:Int),.int .i64 zk,.int .i64 zx,.int .i64 zy,.int .i64 zsg,.bool zo,.int .i64 zf,.int .i64 (zsl:Int)] from by
         have:=J12.out.at_.kp (k13 _)
         rw [HN8.out,HM8.out,HL8.out]
         exact this)
        have HZ1:=hide hz1
        have HZ1D:=hide hz1d
        have B13:=hide b13
        have S13:=hide s13
        clear OM3 HN3 HD3 OM4 hn3m own13 k13 b13 s13 hz1 hz1d RA12 RM12 HT12
        obtain ⟨q0,q1,q2,qf⟩:=box3 RA13.out
        obtain ⟨p0,p1,p2,p3,p4,pf⟩:=box5 RM13.out
        obtain ⟨c0,c1,c2,c3,c4,c5,c6,c7,c8,c9,cf⟩:=box10 AT13.out
        obtain ⟨i0,hi0,hx0,hx1,hx2⟩:=info_parts nodeInfo
        have b14:=hide (show Below w13.heap.size w13 (w13.alloc (.cells z1.v.toArray 75)) from (Below.refl _ _).alloc (Nat.le_refl _) _)
        have OW14:=hide (own_below OW13.out b14.out)
        have A6:=hide (row_news w13 w13.heap.size rfl 75 z1.v)
        have A1:=hide (nm_ones z1)
        rw [HZV.out] at b14 OW14 A6 A1
        have A1':=A1.out
        have A6':=A6.out
        go_upto_region 19 with (at_builtin; refine wpList_append_lies _ (by rfl) _ _ 76 (by rfl) (w.heap.size + 1 + 1) 75 i0 _ 10 112 Tryz.underlying76 hi0 hx0 hx1 hx2 rfl (by omega) _ zs'.length (nms zs') (by rfl) OW14.out ⟨w13.heap.size,0,none⟩ 1 1 [.slice A8 n9 b8,.slice B8 m9 b9,.int .i64 (l9:Int),.int .i64 mk,.int .i64 mx,.int .i64 my,.int .i64 ms,.bool mo,.int .i64 (i:Int),.int .i64 ((zsl:Int) + 1)] (by rfl) (by rfl) A6' A1' (by omega) (by unfold maxLen; omega) (by omega) (by have := S13.out; simp; omega) (w13.heap.size + 1) (by simp) ?_; intro gn cn w15 own2 grow2 at2 lt2; have OWN2 := hide own2; have GR2 := hide grow2; have AT2 := hide at2; clear own2 grow2 at2)
        have SA:=hide ((APP.out w15 gn cn (zs'.length + 1)).2.2.2.2 _ b14.out OW14.out (by
         rw [HZ1D.out,HZ1.out]
         exact HT13.out.keep b14.out) (by rw [HZV.out]; exact OWN2.out) GR2.out rfl)
        obtain ⟨sl15,k15⟩:=SA.out
        have L15:=hide sl15
        have RA15:=hide ((RA13.out.below b14.out).kp (k15 _ (by decide)))
        have HT15:=hide ((HT13.out.keep b14.out).kp (k15 _ (by decide)))
        have MV15:=hide (((J12.out.mv.kp (K13.out _)).kp (.of_below b14.out)).kp (k15 _ (by decide)))
        have AT15:=hide ((AT13.out.below b14.out).grown GR2.out (fun e => J12.out.ne e.symm))
        have NE15:=hide (show (Value.slice (some ⟨gn,0,none⟩) (zs'.length + 1) cn).ownBlock ≠ some g11 from fun e => by
         have e:gn = g11:=by injection e
         rcases AT2.out with h | h
         ·exact J12.out.ne (by rw [h,e])
         ·have:=AT13.out.lt
          omega)
        have HGI:=hide (show (zs' ++ [z1])[i]? = some ⟨⟨dz,⟨zk,zx,zy,zsg,zo⟩,zf,zsl⟩,zA,zB,zc,ze⟩ by
         rw [List.getElem?_append_left (List.getElem?_eq_some_iff.1 J12.out.hz).1]
         exact J12.out.hz)
        have HZP:=hide (show 0 < zs'.length by have := J12.out.s.ok.pos; rw [List.length_map] at this; exact this)
        have HMAP:=hide (show (zs' ++ [z1]).map Nm.a = zs'.map Nm.a ++ [nd1 i ⟨dz,⟨zk,zx,zy,zsg,zo⟩,zf,zsl⟩ ⟨mk,mx,my,ms,mo⟩] by rw [List.map_append,HZ1.out]; rfl)
        clear sl15 k15 SA APP OW13 K13 RA13 RM13 HT13 AT13 B13 S13 b14 OW14 A6 A1 A1' A6' OWN2 GR2 AT2 lt2 q0 q1 q2 qf p0 p1 p2 p3 p4 pf c0 c1 c2 c3 c4 c5 c6 c7 c8 c9 cf J12
        obtain ⟨q0,q1,q2,qf⟩:=box3 RA15.out
        have hl15:zs'.length + 1 ≤ 300:=by have := H3.out; omega
        go_wp2_with fail
        refine (Removing_n r2 HSL.out.1 A8 B8 n9 b8 b9 m9 l9 _ HN9.out HM9.out HL9.out HT15.out.at).mono ?_
        rintro e w16 ⟨v,rfl,hv,hb16⟩
        obtain ⟨A7,c7,rfl,hV7⟩:=hv.at.mv
        have L16:=hide (L15.out.below hb16)
        have MV16:=hide (MV15.out.kp (.of_below hb16))
        have AT16:=hide (AT15.out.below hb16)
        obtain ⟨n7,hn7⟩:∃ n,n = (remL r2).length := ⟨_,rfl⟩
        rw [← hn7]
        have HN7:=hide hn7
        clear hv hV7 hb16 L15 MV15 AT15 RA15 HT15 q0 q1 q2 qf hn7
        by_cases h7:n7 = 0
        ·have h7i:¬ ((0:Int) < (n7:Int)):=by omega
         have HR0:=hide (show remL (apD dz ⟨mk,mx,my,ms,mo⟩) = [] by
          rw [← HR2.out]
          exact List.eq_nil_of_length_eq_zero (by rw [← HN7.out]; exact h7))
         clear h7
         go_wp2_with fail
         go_roundg (gI - 1)
         case measure => have := HJG.out; omega
         case rel => exact ⟨j + 1,zs' ++ [z1],by have := HJG.out; omega,by go_num,by go_num,⟨L16.out,by
          have:=AT16.out
          rw [HN8.out,HM8.out,HL8.out] at this
          exact this,NE15.out,MV16.out,by
          rw [← HIL.out,HMAP.out]
          exact (inn_dull (a := ⟨dz,⟨zk,zx,zy,zsg,zo⟩,zf,zsl⟩) (z := ⟨mk,mx,my,ms,mo⟩) (i := i) (l := zs'.map Nm.a) (r := (slD dz).drop (j + 1)) HKN.out (by rw [List.length_map]; exact H3.out) HR0.out).symm,HGI.out⟩⟩
        ·have h7i:(0:Int) < (n7:Int):=by omega
         have HR0:=hide (show remL (apD dz ⟨mk,mx,my,ms,mo⟩) ≠ [] from fun e => h7 (by rw [HN7.out,HR2.out,e]; rfl))
         have HR:=hide (show srR k d = ((zs' ++ [z1]).map Nm.a,2) by
          have h1:=HIL.out
          rw [inn_hit (a := ⟨dz,⟨zk,zx,zy,zsg,zo⟩,zf,zsl⟩) (z := ⟨mk,mx,my,ms,mo⟩) (i := i) (l := zs'.map Nm.a) (r := (slD dz).drop (j + 1)) HKN.out (by rw [List.length_map]; exact H3.out) HR0.out,← HMAP.out] at h1
          rw [← HSR.out,out_done (k := k) (f := gO) (i := i) (a := ⟨dz,⟨zk,zx,zy,zsg,zo⟩,zf,zsl⟩) (l := zs.map Nm.a) (r := ((zs' ++ [z1]).map Nm.a,2)) HMA.out hkz h1.symm (show (2:Nat) ≠ 0 by decide)])
         clear h7
         go_upto_region 24 with fail
         rw [show decide (0 < n7) = true from decide_eq_true (by omega)]
         clear h7i
         obtain ⟨F,hF⟩:∃ n,n = zs'.length := ⟨_,rfl⟩
         have HF:=hide hF
         obtain ⟨zq,hzq⟩:∃ q,q = zs' ++ [z1] := ⟨_,rfl⟩
         have HQL:=hide (show zq.length = F + 1 by rw [hzq,List.length_append,hF]; rfl)
         have HQ1:=hide (show zq[F]? = some z1 by rw [hzq,hF,List.getElem?_append_right (Nat.le_refl _),Nat.sub_self]; rfl)
         rw [← hzq] at L16 HR
         rw [← hF] at L16 ⊢
         have hF3:F ≤ 299:=by omega
         have HZF:=hide (show 0 < F by rw [hF]; exact HZP.out)
         clear hF hzq MV16 AT16 HGI HMAP NE15 HIL HKN HR0 H3 h3i hl15 hz3'
         obtain ⟨l1,hl1⟩:∃ l,l = zq.map Nm.a := ⟨_,rfl⟩
         have HL1:=hide hl1
         have HOK:=hide (show LOk d k l1 by rw [hl1]; exact L16.out.ok)
         rw [← hl1] at HR
         clear hl1
         have HLN:=hide (show l1.length = F + 1 by rw [HL1.out,List.length_map,HQL.out])
         have HLF:=hide (show l1[F]? = some z1.a by rw [HL1.out,List.getElem?_map,HQ1.out]; rfl)
         go_wp2_with fail
         go_loopg [18,19] (F + 1) (fun g s18 s19 wx => ∃ (q:Nat) (P:List Mv),q + 1 = g ∧ q ≤ F ∧ s19 = .int .i64 (q:Int) ∧ P ++ pt l1 q = pt l1 F ∧ wx.ownsRow w16.heap.size 43 5 s18 P.length (mvs P) ∧ Below w16.heap.size w16 wx)
         case atStart => exact ⟨F,[],rfl,Nat.le_refl _,by go_num,rfl,World.ownsRow_nil _ _ _ _,Below.refl _ _⟩
         case round =>
          obtain ⟨q,P,hqg,hqF,rfl,hpt,hown,hbel⟩:=hrel
          have HQG:=hide hqg
          have HPT:=hide hpt
          have OWP:=hide hown
          have HBL:=hide hbel
          obtain ⟨gP,hgP⟩:∃ g,g = gk := ⟨_,rfl⟩
          rw [← hgP] at HQG
          clear hqg hpt hown hbel
          have L17:=hide (L16.out.below HBL.out)
          obtain ⟨y,hy⟩:∃ y,zq[q]? = some y := ⟨_,List.getElem?_eq_getElem (by rw [HQL.out]; omega)⟩
          have HLQ:=hide (show l1[q]? = some y.a by rw [HL1.out,List.getElem?_map,hy]; rfl)
          have NQ:=hide (HOK.out.at_ q y.a HLQ.out)
          have CB:=fun (t:Nat) (u:Value) (ht:t < 10) (e:y.v[t]? = some u) => (show wr.cell? ⟨gn,q * 10 + t,none⟩ = some u by
           have:=L17.out.own
           rw [HQL.out] at this
           rw [World.ownsRow.cellAt this _ (by omega),nms_get zq q y hy t u e])
          have q0:(0:Int) ≤ (q:Int):=by omega
          have qF:(q:Int) < (F:Int) + 1:=by omega
          have hPl:P.length ≤ 8:=by
           have h1:=(pt_is HOK.out F F z1.a (Nat.le_refl _) HLF.out).1
           have h2:=congrArg List.length HPT.out
           have h3:=(HOK.out.at_ F z1.a HLF.out).s
           rw [List.length_append,h1] at h2
           omega
          obtain ⟨aP,cP,hvP⟩:=owns_slice OWP.out
          subst hvP
          rcases NQ.out.ty with ⟨hq0,hroot⟩ | ⟨p,q',hfr,hqq,hpq,_⟩
          ·have c8:=CB 8 _ (by omega) rfl
           have hfr1:y.a.fr = -1:=by rw [hroot]; rfl
           rw [hfr1] at c8
           have HPE:=hide (show P = pt l1 F by
            rw [← HPT.out,pt_root HLQ.out (by rw [hfr1]; decide),List.append_nil])
           clear hq0 hroot hfr1 CB hy
           go_upto_region 29 with fail
           have FF:=hide (L17.out.cell (t := 0) HQL.out.symm HQ1.out (by omega) rfl)
           have FF1:=hide (L17.out.cell (t := 1) HQL.out.symm HQ1.out (by omega) rfl)
           have FF2:=hide (L17.out.cell (t := 2) HQL.out.symm HQ1.out (by omega) rfl)
           have HP0:=hide (show 0 < P.length by
            rw [HPE.out]
            rcases (HOK.out.at_ F z1.a HLF.out).ty with ⟨h0,_⟩ | ⟨p,q',h1,_⟩
            ·have:=HZF.out
             omega
            ·rw [(pt_some HOK.out HLF.out h1).1,List.length_cons]
             omega)
           have hP0:=HP0.out
           obtain ⟨gp,capP,hA,_,hgp⟩:=World.ownsRow.form OWP.out hP0
           injection hA with hA _ hcc
           subst hA
           subst hcc
           go_wp2_with fail
           refine (rev_any w16.heap.size gp P.length cP P _ OWP.out rfl hP0 (by omega)).mono ?_
           rintro e w20 ⟨⟨v9,rfl⟩,hown,hb20⟩
           have B20:=hide (HBL.out.trans hb20)
           have OW20:=hide hown
           have L20:=hide (L16.out.below B20.out)
           clear hown hb20 OWP HBL L17 c8
           have f0:=L20.out.cell (t := 0) HQL.out.symm HQ1.out (by omega) rfl
           have f1:=L20.out.cell (t := 1) HQL.out.symm HQ1.out (by omega) rfl
           have f2:=L20.out.cell (t := 2) HQL.out.symm HQ1.out (by omega) rfl
           rw [Nat.add_zero] at f0
           obtain ⟨e0,e1,e2,e3⟩:=box3 L20.out.rs
           go_wp2_with fail
           rw [Exit.noGoto_ret]
           have RR:=row3 L20.out.rs rfl (.slice z1.A z1.a.d.n z1.c) (.slice z1.B (4 * z1.a.d.n) z1.e) (.int .i64 (z1.a.d.lp:Int))
           refine bodyPost_ret (v := .tuple #[.agg #[.slice z1.A z1.a.d.n z1.c,.slice z1.B (4 * z1.a.d.n) z1.e,.int .i64 z1.a.d.lp],.slice (some ⟨gp,0,none⟩) P.length cP,.bool true]) ?_ rfl ?_
           ·obtain ⟨r0,r1,r2,r3⟩:=box3 RR
            simp [results,Tryz.results24,go_sem,r0,r1,r2]
           ·exact L20.out.yes HR.out HL1.out HLN.out HQ1.out HPE.out OW20.out (by have := L16.out.big; omega) B20.out.size
          ·have c3:=CB 3 _ (by omega) rfl
           have c4:=CB 4 _ (by omega) rfl
           have c5:=CB 5 _ (by omega) rfl
           have c6:=CB 6 _ (by omega) rfl
           have c7:=CB 7 _ (by omega) rfl
           have c8:=CB 8 _ (by omega) rfl
           rw [hfr] at c8
           have HPS:=hide (pt_some HOK.out HLQ.out hfr).1
           have HQQ:=hide hqq
           have q'0:(0:Int) ≤ (q':Int):=by omega
           obtain ⟨⟨dy,⟨yk,yx,yy,ysg,yo⟩,yf,ysl⟩,yA,yB,yc,ye⟩:=y
           simp only at c3 c4 c5 c6 c7 c8 hfr HPS
           have HY:=hide hy
           have HFR:=hide hfr
           clear hfr hpq CB hy NQ HLQ
           obtain ⟨i0,hi0,hx0,hx1,hx2⟩:=info_parts moveInfo
           obtain ⟨W18,hW18⟩:∃ W,W = wr.alloc (.cells #[.int .i64 yk,.int .i64 yx,.int .i64 yy,.int .i64 ysg,.bool yo] 43) := ⟨_,rfl⟩
           have b18:Below wr.heap.size wr W18:=by rw [hW18]; exact (Below.refl _ _).alloc (Nat.le_refl _) _
           have OW18:=hide (own_below OWP.out b18)
           have A6:=hide (five_news wr wr.heap.size rfl ⟨yk,yx,yy,ysg,yo⟩)
           have A1:∀ u ∈ Mv.cells ⟨yk,yx,yy,ysg,yo⟩,u.oneCell' = true:=by simp [Mv.cells,Value.oneCell']
           have B18:=hide (HBL.out.trans (b18.mono HBL.out.size))
           have hsz18:w16.heap.size ≤ W18.heap.size:=B18.out.size
           have c8':=cell_below c8 b18
           rw [hW18] at OW18 B18 hsz18 c8'
           clear hW18 b18 W18
           go_wp2_with (at_builtin; refine wpList_append_lies _ (by rfl) _ _ 27 (by rfl) w16.heap.size 43 i0 (.agg #[.int .i64 0,.int .i64 0,.int .i64 0,.int .i64 0,.bool false]) 5 40 Tryz.underlying27 hi0 hx0 hx1 hx2 rfl (by omega) _ P.length (mvs P) (by rfl) OW18.out ⟨wr.heap.size,0,none⟩ 1 1 (Mv.cells ⟨yk,yx,yy,ysg,yo⟩) (by rfl) (by rfl) A6.out A1 (by omega) (by unfold maxLen; omega) (by omega) hsz18 (wr.heap.size + 1) (by simp) ?_; intro g9 d9 w19 own9 grow9 at9 lt9; have OWN9 := hide own9; have B19 := hide (B18.out.grown grow9 hsz18 (fun k hk => (OW18.out.lt k hk).1)); have L19 := hide (L16.out.below B19.out); have c8'' := (show w19.cell? ⟨gn,q * 10 + 8,none⟩ = some (.int .i64 (q':Int)) by rw [← HFR.out]; exact L19.out.cell HQL.out.symm HY.out (show 8 < 10 by decide) rfl); clear own9 grow9 at9)
           go_roundg (q' + 1)
           case measure => have := HQG.out; have := HQQ.out; omega
           case rel => exact ⟨q',P ++ [⟨yk,yx,yy,ysg,yo⟩],rfl,by have := HQQ.out; omega,by go_num,by
            rw [List.append_assoc,← HPT.out,HPS.out]; rfl,by
            rw [mvs_app,List.length_append]
            exact OWN9.out,B19.out⟩
     ·have hji:¬ ((j:Int) < (n5:Int)):=by omega
      have HIN:=hide (show inn i ⟨dz,⟨zk,zx,zy,zsg,zo⟩,zf,zsl⟩ (slD dz) (zs.map Nm.a) = (zs'.map Nm.a,0) by
       have h1:=J0.out.inl
       simp only at h1
       rw [← h1,List.drop_eq_nil_of_le (by have := HN5.out; omega)]
       rfl)
      go_wp2_with fail
      go_roundg (gO - 1)
      case measure => have := HIG.out; omega
      case rel => exact ⟨i + 1,zs',by have := HIG.out; omega,by
       have:=(List.getElem?_eq_some_iff.1 J0.out.hz).1
       omega,by go_num,by go_num,by
       rw [← HSR.out,out_on HMA.out hkz HIN.out]
       have:=HIG.out
       rw [show gO - 1 + 1 = gO by omega],J0.out.s⟩
  ·rw [← hN] at hz3 hil
   have hii:¬ ((i:Int) < (N:Int)):=by omega
   have HB:=hide (show srB k d = false by
    unfold srB
    rw [← HSR.out,out_end (List.getElem?_eq_none (by rw [List.length_map]; omega))]
    rfl)
   rw [← hN]
   clear hN
   obtain ⟨e0,e1,e2,e3⟩:=box3 K0.out.rs
   go_wp2_with fail
   have RR:=row3 K0.out.rs rfl (.slice none 0 0) (.slice none 0 0) (.int .i64 0)
   refine bodyPost_ret (v := .tuple #[.agg #[.slice none 0 0,.slice none 0 0,.int .i64 0],.slice none 0 0,.bool false]) ?_ rfl ?_
   ·obtain ⟨r0,r1,r2,r3⟩:=box3 RR
    simp [results,Tryz.results24,go_sem,r0,r1,r2]
   ·exact K0.out.no HB.out
end Go.Proofs.YtghdiolnonejaaaGreatDoor
end
section
namespace Go.Proofs.YtghdiolnonejaaaGreatDoor
open Go Go.RowKit
attribute [local go_sem ↓] Go.wp_at_zero Go.wp_at_succ
theorem dn_valid {d:Pl.Dg} (hd:Pl.Valid d):Pl.Valid (dnD d) := by
 suffices h:∀ n,∀ d:Pl.Dg,Pl.Valid d → d.n ≤ n → Pl.Valid (dnD d) from h d.n d hd (Nat.le_refl _)
 intro n
 induction n with
 | zero =>
   intro d hd h0
   rw [(dn_stop (rem_flat (by omega))).1]; exact hd
 | succ n ih =>
   intro d hd hn
   cases hr:remL d with
   | nil => rw [(dn_stop hr).1]; exact hd
   | cons z l =>
     have hz:z ∈ remL d:=by rw [hr]; exact List.mem_cons_self
     have hl:=rem_less hd hz
     rw [(dn_next hd hr).1]
     exact ih _ (ap_ok hd (rem_ok hz).1).1 (by omega)
def DownPost (r:Pl.Dg) (l:List Mv) (w:World) (e:Ending) (w':World):Prop := ∃ (A9 B9:Option Addr) (c8 c9:Nat) (v:Value),e = .returned (.tuple #[.agg #[.slice A9 r.n c8,.slice B9 (4 * r.n) c9,.int .i64 r.lp],v,.int .i64 0]) ∧ DgAt w' A9 B9 r ∧ MovesIn w.heap.size w' v l ∧ Below w.heap.size w w'
theorem descend_n (d:Pl.Dg) (hd:Pl.Valid d) (A B:Option Addr) (n cp cq m lp:Nat) (w:World) (hn:n = d.n) (hl:lp = d.lp) (hm:m = 4 * d.n) (hg:DgAt w A B d) :
 Calls Tryz.prog 22 #[.agg #[.slice A n cp,.slice B m cq,.int .i64 (lp:Int)]] w (DnPost A B d w) := by
 subst hn
 subst hl
 exact descend_any d hd A B cp cq m w hm hg
set_option maxRecDepth 100000 in
set_option maxHeartbeats 4000000 in
theorem Down_any (d:Pl.Dg) (hd:Pl.Valid d) (A B:Option Addr) (cp cq m:Nat) (w:World) (hm:m = 4 * d.n) (hg:DgAt w A B d) :
 Calls Tryz.prog 9 #[.agg #[.slice A d.n cp,.slice B m cq,.int .i64 d.lp]] w (DownPost (dnD d) (dnM d) w) := by
 have HM:=hide hm
 have HG:=hide hg
 have hdn:=hd.wf.few
 clear hm hg
 have X0:=hide ((row_at (W := w) (g := w.heap.size) (t := 24) (vs := [.slice A d.n cp,.slice B m cq,.int .i64 (d.lp:Int)]) rfl).alloc (.cells #[.slice none 0 0,.slice none 0 0,.int .i64 0] 24))
 have S0:=hide (row_at (W := w.alloc (.cells #[.slice A d.n cp,.slice B m cq,.int .i64 (d.lp:Int)] 24)) (g := w.heap.size + 1) (t := 24) (vs := [.slice none 0 0,.slice none 0 0,.int .i64 0]) (by simp))
 have B0:=hide (show Below w.heap.size w ((w.alloc (.cells #[.slice A d.n cp,.slice B m cq,.int .i64 (d.lp:Int)] 24)).alloc (.cells #[.slice none 0 0,.slice none 0 0,.int .i64 0] 24)) from ((Below.refl _ _).alloc (Nat.le_refl _) _).alloc (by simp) _)
 go_enter Tryz.func9,Tryz.ntmps9
 go_wp2_with fail
 refine (valid_yes d hd A B cp cq m _ HM.out (HG.out.keep B0.out)).mono ?_
 rintro e w1 ⟨rfl,hb1⟩
 have X1:=hide (X0.out.below hb1)
 have S1:=hide (S0.out.below hb1)
 have B1:=hide (B0.out.trans (hb1.mono B0.out.size))
 clear hb1 X0 S0 B0
 obtain ⟨d0,d1,d2,d3⟩:=box3 X1.out
 go_wp2_with fail
 refine (clone_all d A B cp cq m _ HM.out (HG.out.keep B1.out) hdn).mono ?_
 rintro e w2 ⟨A9,B9,c8,c9,rfl,hT,hb2⟩
 have S2:=hide (S1.out.below hb2)
 have B2:=hide (B1.out.trans (hb2.mono B1.out.size))
 have HT:=hide hT
 clear hb2 X1 S1 B1 hT d0 d1 d2 d3
 go_wp2_with fail
 refine (descend_n d hd A9 B9 d.n c8 c9 m d.lp _ rfl rfl HM.out HT.out.at).mono ?_
 rintro e w3 ⟨A8,B8,b8,b9,v,rfl,hg8,hv8,hb3⟩
 have hs2:=S2.out.lt
 have hT8:DgT w3 A8 B8 (dnD d):=by
  rcases hg8 with h | ⟨h1,h2,h3⟩
  ·exact h
  ·rw [h1,h2,h3]; exact HT.out.keep hb3
 have hv:=dn_valid hd
 have hrn:=hv.wf.few
 have hrl:=hv.wf.lp
 obtain ⟨N8,hN8⟩:∃ n,n = (dnD d).n := ⟨_,rfl⟩
 obtain ⟨M8,hM8⟩:∃ n,n = 4 * (dnD d).n := ⟨_,rfl⟩
 obtain ⟨L8,hL8⟩:∃ n,n = (dnD d).lp := ⟨_,rfl⟩
 rw [← hM8,← hN8,← hL8]
 rw [← hN8] at hrn
 rw [← hL8] at hrl
 have HN8:=hide hN8
 have HM8:=hide hM8
 have HL8:=hide hL8
 have b4:=(Below.refl w3.heap.size w3).alloc (Nat.le_refl _) (.cells #[.slice A8 N8 b8,.slice B8 M8 b9,.int .i64 (L8:Int)] 24)
 have S3:=hide ((S2.out.below hb3).below b4)
 have R3:=hide (row_at (W := w3) (g := w3.heap.size) (t := 24) (vs := [.slice A8 N8 b8,.slice B8 M8 b9,.int .i64 (L8:Int)]) rfl)
 have T3:=hide hT8
 have B3:=hide (B2.out.trans (hb3.mono B2.out.size))
 obtain ⟨b,hb1,hb2,own⟩:=hv8
 obtain ⟨A7,c7,hs7⟩:=owns_slice own
 subst hs7
 have OW:=hide own
 have S3':=hide (S2.out.below hb3)
 have hw3:w.heap.size + 1 < w3.heap.size:=(S2.out.below hb3).lt
 have hw2:w.heap.size + 1 < b:=by omega
 clear hb3 own hg8 hT8 hN8 hM8 hL8 b4 HT S2 B2 hv
 obtain ⟨e0,e1,e2,e3⟩:=box3 R3.out
 obtain ⟨f0,f1,f2,f3⟩:=box3 S3'.out
 go_wp2
 have RR:=row3 S3'.out rfl (.slice A8 N8 b8) (.slice B8 M8 b9) (.int .i64 (L8:Int))
 have BB:=below3 B3.out (show w.heap.size ≤ w.heap.size + 1 by omega) (.slice A8 N8 b8) (.slice B8 M8 b9) (.int .i64 (L8:Int))
 have OO:=ownsRow_setCell_below (ownsRow_setCell_below (ownsRow_setCell_below OW.out (a := ⟨w.heap.size + 1,0,none⟩) (by show w.heap.size + 1 < _; omega) (.slice A8 N8 b8)) (a := ⟨w.heap.size + 1,1,none⟩) (by show w.heap.size + 1 < _; omega) (.slice B8 M8 b9)) (a := ⟨w.heap.size + 1,2,none⟩) (by show w.heap.size + 1 < _; omega) (.int .i64 (L8:Int))
 have TT:=T3.out.set3 S3'.out (.slice A8 N8 b8) (.slice B8 M8 b9) (.int .i64 (L8:Int))
 refine bodyPost_ret (v := .tuple #[.agg #[.slice A8 N8 b8,.slice B8 M8 b9,.int .i64 (L8:Int)],.slice A7 (dnM d).length c7,.int .i64 0]) ?_ rfl ?_
 ·obtain ⟨r0,r1,r2,r3⟩:=box3 (RR.alloc (.cells #[.slice A8 N8 b8,.slice B8 M8 b9,.int .i64 (L8:Int)] 24))
  simp [results,Tryz.results9,go_sem,r0,r1,r2]
 ·refine ⟨A8,B8,b8,b9,_,by rw [HN8.out,HM8.out,HL8.out],(TT.al _).at,⟨b,by omega,by simp; omega,OO.alloc _⟩,BB.alloc BB.size _⟩
set_option maxRecDepth 100000 in
set_option maxHeartbeats 4000000 in
theorem Minimal_any (d:Pl.Dg) (hd:Pl.Valid d) (A B:Option Addr) (cp cq m:Nat) (w:World) (hm:m = 4 * d.n) (hg:DgAt w A B d) :
 Calls Tryz.prog 14 #[.agg #[.slice A d.n cp,.slice B m cq,.int .i64 d.lp]] w fun e w' => e = .returned (.bool (Pl.vb (remL d = []))) ∧ Below w.heap.size w w' := by
 have HM:=hide hm
 have HG:=hide hg
 have hdn:=hd.wf.few
 clear hm hg
 have X0:=hide (row_at (W := w) (g := w.heap.size) (t := 24) (vs := [.slice A d.n cp,.slice B m cq,.int .i64 (d.lp:Int)]) rfl)
 have B0:=hide (show Below w.heap.size w (w.alloc (.cells #[.slice A d.n cp,.slice B m cq,.int .i64 (d.lp:Int)] 24)) from (Below.refl _ _).alloc (Nat.le_refl _) _)
 go_enter Tryz.func14,Tryz.ntmps14
 go_wp2_with fail
 refine (valid_yes d hd A B cp cq m _ HM.out (HG.out.keep B0.out)).mono ?_
 rintro e w1 ⟨rfl,hb1⟩
 have X1:=hide (X0.out.below hb1)
 have B1:=hide (B0.out.trans (hb1.mono B0.out.size))
 clear hb1 X0 B0
 obtain ⟨d0,d1,d2,d3⟩:=box3 X1.out
 go_wp2_with fail
 refine (Removing_any d hd A B cp cq m _ HM.out (HG.out.keep B1.out)).mono ?_
 rintro e w2 ⟨v,rfl,hv,hb2⟩
 have B2:=hide (B1.out.trans (hb2.mono B1.out.size))
 obtain ⟨A5,c5,rfl,_⟩:=hv.at.mv
 have lch:=remL_le hd.wf.few
 obtain ⟨N5,hN5⟩:∃ n,n = (remL d).length := ⟨_,rfl⟩
 rw [← hN5] at lch ⊢
 have HN5:=hide hN5
 clear hN5 hb2 hv d0 d1 d2 d3
 by_cases h0:N5 = 0
 ·have E:=hide (show Pl.vb (remL d = []) = true from Pl.vb_true (List.eq_nil_of_length_eq_zero (by rw [← HN5.out]; exact h0)))
  subst h0
  go_wp2
  go_ret
  exact ⟨by rw [E.out]; rfl,B2.out⟩
 ·have E:=hide (show Pl.vb (remL d = []) = false from Pl.vb_false (fun h => h0 (by rw [HN5.out,h]; rfl)))
  have t0:((N5:Int) == 0) = false:=by rw [beq_eq_false_iff_ne]; omega
  clear h0
  go_wp2
  go_ret
  exact ⟨by rw [E.out]; rfl,B2.out⟩
end Go.Proofs.YtghdiolnonejaaaGreatDoor
end
section
namespace Go.Proofs.YtghdiolnonejaaaGreatDoor
open Go Go.RowKit
attribute [local go_sem ↓] Go.wp_at_zero Go.wp_at_succ
theorem MovesAt.lies {W:World} {A:Option Addr} {n c:Nat} {ms:List Mv} (h:MovesAt W (.slice A n c) ms) (hn:0 < n):n = ms.length ∧ ∃ g,A = some ⟨g,0,none⟩ ∧ ∀ (j:Nat) (u:Value),(mvs ms)[j]? = some u → W.cell? ((⟨g,0,none⟩:Addr).add j) = some u := by
 obtain ⟨b,own⟩:=h
 obtain ⟨A',c',e⟩:=owns_slice own
 injection e with e1 e2 e3
 subst e1
 subst e2
 obtain ⟨g,cap,hA,_,_⟩:=World.ownsRow.form own hn
 injection hA with hA _ _
 subst hA
 refine ⟨rfl,g,rfl,fun j u hu => ?_⟩
 have hj:=(List.getElem?_eq_some_iff.1 hu).1
 rw [mvs_len] at hj
 rw [Addr.add_lit,Nat.zero_add,World.ownsRow.cellAt own j hj]
 exact hu
structure RL (w:World) (d:Pl.Dg) (k g7 bL:Nat) (r:Pl.Dg) (l:List Mv) (v:Value) (A9 B9:Option Addr) (c8 c9:Nat) (W:World):Prop where
 val:Pl.Valid r
 mn:remL r = []
 eqD:redD k d = rdD k r
 eqM:redM k d = l ++ rdMs k r
 len:l.length + 9 * r.n ≤ 9 * d.n
 rs:Row W (w.heap.size + 1) 24 [.slice none 0 0,.slice none 0 0,.int .i64 0]
 at_:Row W g7 24 [.slice A9 r.n c8,.slice B9 (4 * r.n) c9,.int .i64 (r.lp:Int)]
 own:W.ownsRow bL 43 5 v l.length (mvs l)
 t:DgT W A9 B9 r
 g7l:w.heap.size + 1 < g7
 bLl:w.heap.size + 1 < bL
 bLs:bL ≤ W.heap.size
 bel:Below w.heap.size w W
def RedPost (k:Nat) (d:Pl.Dg) (w:World) (e:Ending) (w':World):Prop := ∃ (A9 B9:Option Addr) (c8 c9:Nat) (v:Value),e = .returned (.tuple #[.agg #[.slice A9 (redD k d).n c8,.slice B9 (4 * (redD k d).n) c9,.int .i64 (redD k d).lp],v,.int .i64 0]) ∧ DgT w' A9 B9 (redD k d) ∧ MovesAt w' v (redM k d) ∧ Below w.heap.size w w'
section
variable {w W W':World} {d r:Pl.Dg} {k g7 bL:Nat} {l:List Mv} {v:Value} {A9 B9:Option Addr} {c8 c9:Nat}
theorem RL.below (h:RL w d k g7 bL r l v A9 B9 c8 c9 W) (hb:Below W.heap.size W W'):RL w d k g7 bL r l v A9 B9 c8 c9 W' :=
 ⟨h.val,h.mn,h.eqD,h.eqM,h.len,h.rs.below hb,h.at_.below hb,own_below h.own hb,h.t.keep hb,h.g7l,h.bLl,Nat.le_trans h.bLs hb.size,h.bel.trans (hb.mono h.bel.size)⟩
theorem RL.post (h:RL w d k g7 bL r l v A9 B9 c8 c9 W) (hb:srB k r = false) :
 RedPost k d w (.returned (.tuple #[.agg #[.slice A9 r.n c8,.slice B9 (4 * r.n) c9,.int .i64 (r.lp:Int)],v,.int .i64 0])) (((W.setCell ⟨w.heap.size + 1,0,none⟩ (.slice A9 r.n c8)).setCell ⟨w.heap.size + 1,1,none⟩ (.slice B9 (4 * r.n) c9)).setCell ⟨w.heap.size + 1,2,none⟩ (.int .i64 (r.lp:Int))) := by
 have e1:redD k d = r:=by rw [h.eqD,(rd_no hb).1]
 have e2:redM k d = l:=by rw [h.eqM,(rd_no hb).2,List.append_nil]
 have ho:=h.bLl
 unfold RedPost
 rw [e1,e2]
 exact ⟨A9,B9,c8,c9,v,rfl,h.t.set3 h.rs _ _ _,⟨bL,ownsRow_setCell_below (ownsRow_setCell_below (ownsRow_setCell_below h.own (by show w.heap.size + 1 < _; omega) _) (by show w.heap.size + 1 < _; omega) _) (by show w.heap.size + 1 < _; omega) _⟩,below3 h.bel (by omega) _ _ _⟩
end
theorem Lds.nil_is {d e:Pl.Dg} (h:Lds d [] e):d = e := by
 cases h
 rfl
theorem RL.next {r d:Pl.Dg} {k:Nat} {l:List Mv} (hr:Pl.Valid r) (hm:remL r = []) (eqD:redD k d = rdD k r) (eqM:redM k d = l ++ rdMs k r) (hl:l.length + 9 * r.n ≤ 9 * d.n) (hk:k ≤ 8) (hb:srB k r = true) :
 Pl.Valid (srD k r) ∧ (srD k r).n = r.n ∧ Pl.Valid (dnD (srD k r)) ∧ remL (dnD (srD k r)) = [] ∧ redD k d = rdD k (dnD (srD k r)) ∧ redM k d = (l ++ srP k r) ++ dnM (srD k r) ++ rdMs k (dnD (srD k r)) ∧ ((l ++ srP k r) ++ dnM (srD k r)).length + 9 * (dnD (srD k r)).n ≤ 9 * d.n ∧ (dnD (srD k r)).n + 1 ≤ r.n ∧ 0 < (srP k r).length ∧ 0 < (dnM (srD k r)).length ∧ (srP k r).length ≤ 8 ∧ (dnM (srD k r)).length ≤ 64 := by
 obtain ⟨v,n,rr,pl,pk,hL⟩:=sr_is hr hb
 obtain ⟨u1,u2,u3,u4,u5⟩:=dn_all v
 obtain ⟨c1,c2⟩:=dn_cons v rr
 obtain ⟨y1,y2⟩:=rd_yes hr hb
 have h1:0 < (dnM (srD k r)).length:=List.length_pos_iff.2 c1
 have h2:0 < (srP k r).length:=by
  rcases Nat.eq_zero_or_pos (srP k r).length with h | h
  ·rw [List.eq_nil_of_length_eq_zero h] at hL
   rw [← hL.nil_is] at rr
   exact absurd hm rr
  ·exact h
 have hf:=hr.wf.few
 refine ⟨v,n,u1,u3,by rw [eqD,y1],by rw [eqM,y2]; simp,?_,by omega,h2,h1,by omega,by omega⟩
 rw [List.length_append,List.length_append]
 omega
theorem own_set3 {W:World} {base g n s:Nat} {e:TypeId} {v:Value} {xs:List Value} (h:W.ownsRow base e s v n xs) (hne:v.ownBlock ≠ some g) (y0 y1 y2:Value):(((W.setCell ⟨g,0,none⟩ y0).setCell ⟨g,1,none⟩ y1).setCell ⟨g,2,none⟩ y2).ownsRow base e s v n xs :=
 own_setNe (own_setNe (own_setNe h hne 0 y0) hne 1 y1) hne 2 y2
theorem MovesAt.set3 {W:World} {g:Nat} {v:Value} {ms:List Mv} {vs:List Value} (h:MovesAt W v ms) (hr:Row W g 24 vs) (y0 y1 y2:Value):MovesAt (((W.setCell ⟨g,0,none⟩ y0).setCell ⟨g,1,none⟩ y1).setCell ⟨g,2,none⟩ y2) v ms :=
 let ⟨b,own⟩:=h
 ⟨b,own_set3 own (fun e => own_row_neM own hr (by decide) e.symm) y0 y1 y2⟩
theorem search_n (d:Pl.Dg) (hd:Pl.Valid d) (h20:d.n ≤ 20) (k:Nat) (hk:k ≤ 8) (A B:Option Addr) (n cp cq m lp:Nat) (w:World) (hn:n = d.n) (hm:m = 4 * d.n) (hl:lp = d.lp) (hg:DgAt w A B d) (ht:GT w) :
 Calls Tryz.prog 24 #[.agg #[.slice A n cp,.slice B m cq,.int .i64 (lp:Int)],.int .i64 (k:Int)] w (SrPost k d A B w) := by
 subst hn
 subst hl
 exact search_any d hd h20 k hk A B cp cq m w hm hg ht
set_option maxRecDepth 100000 in
set_option maxHeartbeats 1600000 in
theorem sreduce_any (d:Pl.Dg) (hd:Pl.Valid d) (h20:d.n ≤ 20) (k:Nat) (hk:k ≤ 8) (A B:Option Addr) (cp cq m:Nat) (w:World) (hm:m = 4 * d.n) (hg:DgAt w A B d) (ht:GT w) :
 Calls Tryz.prog 10 #[.agg #[.slice A d.n cp,.slice B m cq,.int .i64 d.lp],.int .i64 (k:Int)] w (RedPost k d w) := by
 have HM:=hide hm
 have HG:=hide hg
 have HT:=hide ht
 have hdn:=hd.wf.few
 have k0:(0:Int) ≤ (k:Int):=by omega
 have k8:(k:Int) ≤ 8:=by omega
 clear hm hg ht
 have X0:=hide ((row_at (W := w) (g := w.heap.size) (t := 24) (vs := [.slice A d.n cp,.slice B m cq,.int .i64 (d.lp:Int)]) rfl).alloc (.cells #[.slice none 0 0,.slice none 0 0,.int .i64 0] 24))
 have S0:=hide (row_at (W := w.alloc (.cells #[.slice A d.n cp,.slice B m cq,.int .i64 (d.lp:Int)] 24)) (g := w.heap.size + 1) (t := 24) (vs := [.slice none 0 0,.slice none 0 0,.int .i64 0]) (by simp))
 have B0:=hide (show Below w.heap.size w ((w.alloc (.cells #[.slice A d.n cp,.slice B m cq,.int .i64 (d.lp:Int)] 24)).alloc (.cells #[.slice none 0 0,.slice none 0 0,.int .i64 0] 24)) from ((Below.refl _ _).alloc (Nat.le_refl _) _).alloc (by simp) _)
 go_enter Tryz.func10,Tryz.ntmps10
 go_wp2_with fail
 refine (valid_yes d hd A B cp cq m _ HM.out (HG.out.keep B0.out)).mono ?_
 rintro e w1 ⟨rfl,hb1⟩
 have X1:=hide (X0.out.below hb1)
 have S1:=hide (S0.out.below hb1)
 have B1:=hide (B0.out.trans (hb1.mono B0.out.size))
 clear hb1 X0 S0 B0
 obtain ⟨d0,d1,d2,d3⟩:=box3 X1.out
 go_wp2_with fail
 refine (clone_all d A B cp cq m _ HM.out (HG.out.keep B1.out) hdn).mono ?_
 rintro e w2 ⟨A9,B9,c8,c9,rfl,hT,hb2⟩
 have S2:=hide (S1.out.below hb2)
 have B2:=hide (B1.out.trans (hb2.mono B1.out.size))
 have HTT:=hide hT
 clear hb2 X1 S1 B1 hT d0 d1 d2 d3
 go_wp2_with fail
 refine (descend_n d hd A9 B9 d.n c8 c9 m d.lp _ rfl rfl HM.out HTT.out.at).mono ?_
 rintro e w3 ⟨A8,B8,b8,b9,v,rfl,hg8,⟨bL,hbL,hbL2,own⟩,hb3⟩
 have hs2:=S2.out.lt
 have S3:=hide (S2.out.below hb3)
 have B3:=hide (B2.out.trans (hb3.mono B2.out.size))
 have HT3:=hide (show DgT w3 A8 B8 (dnD d) by
  rcases hg8 with h | ⟨h1,h2,h3⟩
  ·exact h
  ·rw [h1,h2,h3]; exact HTT.out.keep hb3)
 have OW3:=hide own
 have HV:=hide (dn_all hd)
 obtain ⟨r0,hr0⟩:∃ r,r = dnD d := ⟨_,rfl⟩
 rw [← hr0] at HT3 HV ⊢
 have HR0:=hide hr0
 have hbL1:w.heap.size + 1 < bL:=by omega
 clear hg8 own hb3 hbL S2 B2 HTT hr0
 go_upto_region 6 with fail
 obtain ⟨W4,hW4⟩:∃ W,W = w3.alloc (.cells #[.slice A8 r0.n b8,.slice B8 (4 * r0.n) b9,.int .i64 (r0.lp:Int)] 24) := ⟨_,rfl⟩
 have b4:Below w3.heap.size w3 W4:=by rw [hW4]; exact (Below.refl _ _).alloc (Nat.le_refl _) _
 have L4:=hide (show RL w d k w3.heap.size bL r0 (dnM d) v A8 B8 b8 b9 W4 from
  ⟨HV.out.1, HV.out.2.2.1, by rw [HR0.out]; rfl, by rw [HR0.out]; rfl, by have := HV.out.2.1; omega, S3.out.below b4, by
    rw [hW4]
    exact row_at (vs := [.slice A8 r0.n b8,.slice B8 (4 * r0.n) b9,.int .i64 (r0.lp:Int)]) rfl,own_below OW3.out b4,HT3.out.keep b4,by have := S3.out.lt; omega,hbL1,Nat.le_trans hbL2 b4.size,B3.out.trans (b4.mono B3.out.size)⟩)
 obtain ⟨g7,hg7⟩:∃ g,g = w3.heap.size := ⟨_,rfl⟩
 rw [← hW4]
 rw [← hg7] at L4 ⊢
 clear hW4 b4 S3 B3 OW3 HT3 HV hg7 hs2 hbL2 k0 k8
 have hrn0:r0.n ≤ d.n:=by
  have:=L4.out.len
  omega
 go_wp2_with fail
 go_loopg [8,9,10,11,12] r0.n (fun g s8 s9 s10 s11 s12 wx => ∃ (r:Pl.Dg) (l:List Mv) (A9 B9:Option Addr) (c8 c9:Nat),r.n = g ∧ RL w d k g7 bL r l s8 A9 B9 c8 c9 wx)
 case atStart => exact ⟨r0,dnM d,A8,B8,b8,b9,rfl,L4.out⟩
 case round =>
  clear L4
  obtain ⟨r,l,A9,B9,c8,c9,hrg,hl⟩:=hrel
  have HRG:=hide hrg
  have K0:=hide hl
  obtain ⟨gO,hgO⟩:∃ g,g = gk := ⟨_,rfl⟩
  rw [← hgO] at HRG
  obtain ⟨aL,cL,hvL⟩:=owns_slice hl.own
  subst hvL
  have hrv:=hl.val.wf
  have hrn:=hrv.few
  have hrl:=hrv.lp
  have hr20:r.n ≤ 20:=by have := hl.len; omega
  have hll:l.length ≤ 576:=by have := hl.len; omega
  clear hrg hl hrv
  obtain ⟨n9,hn9⟩:∃ n,n = r.n := ⟨_,rfl⟩
  obtain ⟨m9,hm9⟩:∃ n,n = 4 * r.n := ⟨_,rfl⟩
  obtain ⟨l9,hl9⟩:∃ n,n = r.lp := ⟨_,rfl⟩
  have HN9:=hide hn9
  have HM9:=hide hm9
  have HL9:=hide hl9
  have AT0:=hide (show Row wr g7 24 [.slice A9 n9 c8,.slice B9 m9 c9,.int .i64 (l9:Int)] by rw [hn9,hm9,hl9]; exact K0.out.at_)
  clear hn9 hm9 hl9
  obtain ⟨d0,d1,d2,d3⟩:=box3 AT0.out
  go_wp2_with fail
  refine (search_n r K0.out.val hr20 k hk A9 B9 n9 c8 c9 m9 l9 _ HN9.out HM9.out HL9.out K0.out.t.at (HT.out.below K0.out.bel)).mono ?_
  rintro e w5 ⟨hno,hyes,hb5⟩
  have K5:=hide (K0.out.below hb5)
  have AT5:=hide (AT0.out.below hb5)
  clear hb5 AT0 K0 d0 d1 d2 d3
  cases hb:srB k r with
  | false =>
    obtain rfl := hno hb
    have HB:=hide hb
    clear hno hyes hb
    go_upto_region 7 with fail
    obtain ⟨W6,hW6⟩:∃ W,W = w5.alloc (.cells #[.slice none 0 0,.slice none 0 0,.int .i64 0] 24) := ⟨_,rfl⟩
    have b6:Below w5.heap.size w5 W6:=by rw [hW6]; exact (Below.refl _ _).alloc (Nat.le_refl _) _
    rw [← hW6]
    have K6:=hide (K5.out.below b6)
    have AT6:=hide (AT5.out.below b6)
    clear hW6 b6 K5 AT5
    obtain ⟨d0,d1,d2,d3⟩:=box3 AT6.out
    obtain ⟨e0,e1,e2,e3⟩:=box3 K6.out.rs
    go_wp2_with fail
    have RR:=row3 K6.out.rs rfl (.slice A9 n9 c8) (.slice B9 m9 c9) (.int .i64 (l9:Int))
    have HP:=K6.out.post HB.out
    rw [← HM9.out,← HN9.out,← HL9.out] at HP
    refine bodyPost_ret ?_ rfl HP
    obtain ⟨r0,r1,r2,r3⟩:=box3 RR
    simp [results,Tryz.results10,go_sem,r0,r1,r2]
  | true =>
    obtain ⟨A6,B6,c6,c7,vp,rfl,hdt,⟨bp,hbp,hbp2,ownp⟩⟩:=hyes hb
    have HB:=hide hb
    have HX:=hide (RL.next K5.out.val K5.out.mn K5.out.eqD K5.out.eqM K5.out.len hk hb)
    obtain ⟨x,hx⟩:∃ x,x = srD k r := ⟨_,rfl⟩
    obtain ⟨p,hp⟩:∃ p,p = srP k r := ⟨_,rfl⟩
    rw [← hx,← hp] at HX
    rw [← hx] at hdt
    rw [← hp] at ownp
    rw [← hx]
    have TX:=hide (show DgT w5 A6 B6 x from by
     rcases hdt with h | ⟨h1,h2,h3⟩
     ·exact h
     ·rw [h1,h2,h3]; exact K5.out.t)
    have MP:=hide (show MovesAt w5 vp p from ⟨bp,ownp⟩)
    clear hno hyes hb hx hp hdt ownp hbp hbp2
    obtain ⟨hxv,hxn,hyv,hym,eqD2,eqM2,hlen2,hless,hp0,hq0,hp8,hq64⟩:=HX.out
    have HXV:=hide hxv
    have HXN:=hide hxn
    have HYV:=hide hyv
    have HYM:=hide hym
    have HED:=hide eqD2
    have HEM:=hide eqM2
    have HLN:=hide hlen2
    have HLE:=hide hless
    clear HX hxv hxn hyv hym eqD2 eqM2 hlen2 hless
    obtain ⟨Ap,np,cp',rfl⟩:∃ A n c,vp = .slice A n c := by
     obtain ⟨b,h⟩:=MP.out
     obtain ⟨A,c,e⟩:=owns_slice h
     exact ⟨A,_,c,e⟩
    have hnp:np = p.length:=by
     obtain ⟨b,h⟩:=MP.out
     obtain ⟨A,c,e⟩:=owns_slice h
     injection e
    subst hnp
    obtain ⟨_,gp,hAp,hlies⟩:=MP.out.lies hp0
    subst hAp
    obtain ⟨n8,hn8⟩:∃ n,n = x.n := ⟨_,rfl⟩
    obtain ⟨m8,hm8⟩:∃ n,n = 4 * x.n := ⟨_,rfl⟩
    obtain ⟨l8,hl8⟩:∃ n,n = x.lp := ⟨_,rfl⟩
    rw [← hm8,← hn8,← hl8]
    have HN8:=hide hn8
    have HM8:=hide hm8
    have HL8:=hide hl8
    have HLI:=hide hlies
    clear hn8 hm8 hl8 hlies
    go_upto_region 7 with fail
    obtain ⟨W6,hW6⟩:∃ W,W = w5.alloc (.cells #[.slice A6 n8 c6,.slice B6 m8 c7,.int .i64 (l8:Int)] 24) := ⟨_,rfl⟩
    obtain ⟨g9,hg9⟩:∃ g,g = w5.heap.size := ⟨_,rfl⟩
    have b6:Below w5.heap.size w5 W6:=by rw [hW6]; exact (Below.refl _ _).alloc (Nat.le_refl _) _
    have RB6:=hide (show Row W6 g9 24 [.slice A6 n8 c6,.slice B6 m8 c7,.int .i64 (l8:Int)] by
     rw [hW6]
     exact row_at (vs := [.slice A6 n8 c6,.slice B6 m8 c7,.int .i64 (l8:Int)]) hg9)
    rw [← hW6,← hg9]
    have K6:=hide (K5.out.below b6)
    have TX6:=hide (TX.out.keep b6)
    have LI6:=hide (fun (j:Nat) (u:Value) (hu:(mvs p)[j]? = some u) => (show W6.cell? ((⟨gp,0,none⟩:Addr).add j) = some u from cell_below (HLI.out j u hu) b6))
    have hg97:g7 < g9:=by
     have:=K5.out.at_.lt
     omega
    clear hW6 b6 K5 AT5 hg9 TX HLI MP
    obtain ⟨i0,hi0,hx0,hx1,hx2⟩:=info_parts moveInfo
    have A1:=mvs_one p
    have hpl:=mvs_len p
    have LI:=LI6.out
    have hbs6:bL ≤ W6.heap.size:=K6.out.bLs
    go_upto_region 10 with (at_builtin; refine wpList_append_lies _ (by rfl) _ _ 27 (by rfl) bL 43 i0 (.agg #[.int .i64 0,.int .i64 0,.int .i64 0,.int .i64 0,.bool false]) 5 40 Tryz.underlying27 hi0 hx0 hx1 hx2 rfl (by omega) _ l.length (mvs l) (by rfl) K6.out.own ⟨gp,0,none⟩ p.length cp' (mvs p) (by rfl) hpl LI A1 hp0 (by unfold maxLen; omega) (by omega) hbs6 W6.heap.size rfl ?_; intro gn cn w7 own2 grow2 at2 lt2; have OWN2 := hide own2; have GR2 := hide grow2; clear own2 grow2 at2)
    have k7:∀ t,t ≠ 43 → KpT t W6 w7:=fun t ht => .of_grown GR2.out (fun g hg => ownsRow_block K6.out.own g hg) ht
    have RS7:=hide (K6.out.rs.kp (k7 _ (by decide)))
    have AT7:=hide (K6.out.at_.kp (k7 _ (by decide)))
    have RB7:=hide (RB6.out.kp (k7 _ (by decide)))
    have TX7:=hide (TX6.out.kp (k7 _ (by decide)))
    have B7:=hide (K6.out.bel.grown GR2.out K6.out.bel.size (fun k hk => by have := (K6.out.own.lt k hk).1; have := K6.out.bLl; omega))
    have hbs7:bL ≤ w7.heap.size:=Nat.le_trans hbs6 GR2.out.size
    have hg7l:=K6.out.g7l
    have hbLl:=K6.out.bLl
    clear k7 GR2 K6 RB6 TX6 LI6 LI hpl A1 hbs6 lt2
    obtain ⟨q0,q1,q2,qf⟩:=box3 RB7.out
    go_wp2_with fail
    refine (descend_n x HXV.out A6 B6 n8 c6 c7 m8 l8 _ HN8.out HL8.out HM8.out TX7.out.at).mono ?_
    rintro e w8 ⟨A5,B5,b5,b6,v2,rfl,hg8,⟨b2,_,_,own2⟩,hb8⟩
    have RS8:=hide (RS7.out.below hb8)
    have AT8:=hide (AT7.out.below hb8)
    have B8:=hide (B7.out.trans (hb8.mono B7.out.size))
    have OW8:=hide (own_below OWN2.out hb8)
    have hbs8:bL ≤ w8.heap.size:=Nat.le_trans hbs7 hb8.size
    obtain ⟨y,hy⟩:∃ y,y = dnD x := ⟨_,rfl⟩
    obtain ⟨qq,hqq⟩:∃ q,q = dnM x := ⟨_,rfl⟩
    rw [← hqq] at own2 hq0 hq64 HEM HLN
    rw [← hy] at hg8 HYV HYM HED HEM HLN HLE ⊢
    have TY8:=hide (show DgT w8 A5 B5 y from by
     rcases hg8 with h | ⟨h1,h2,h3⟩
     ·exact h
     ·rw [h1,h2,h3]; exact TX7.out.keep hb8)
    have MQ8:=hide (show MovesAt w8 v2 qq from ⟨b2,own2⟩)
    obtain ⟨Aq,nq,cq',rfl⟩:∃ A n c,v2 = .slice A n c := by
     obtain ⟨A,c,e⟩:=owns_slice own2
     exact ⟨A,_,c,e⟩
    have hnq:nq = qq.length:=by
     obtain ⟨A,c,e⟩:=owns_slice own2
     injection e
    subst hnq
    obtain ⟨n5,hn5⟩:∃ n,n = y.n := ⟨_,rfl⟩
    obtain ⟨m5,hm5⟩:∃ n,n = 4 * y.n := ⟨_,rfl⟩
    obtain ⟨l5,hl5⟩:∃ n,n = y.lp := ⟨_,rfl⟩
    rw [← hm5,← hn5,← hl5]
    have HN5:=hide hn5
    have HM5:=hide hm5
    have HL5:=hide hl5
    have hgn7:=hide (show (Value.slice (some ⟨gn,0,none⟩) (l.length + p.length) cn).ownBlock ≠ some g7 from fun e => own_row_neM OW8.out AT8.out (by decide) e.symm)
    clear hg8 own2 hb8 hy hqq hn5 hm5 hl5 RS7 AT7 RB7 TX7 B7 OWN2 hbs7 q0 q1 q2 qf
    obtain ⟨d0,d1,d2,d3⟩:=box3 AT8.out
    go_upto_region 12 with fail
    obtain ⟨W9,hW9⟩:∃ W,W = ((w8.setCell ⟨g7,0,none⟩ (.slice A5 n5 b5)).setCell ⟨g7,1,none⟩ (.slice B5 m5 b6)).setCell ⟨g7,2,none⟩ (.int .i64 (l5:Int)) := ⟨_,rfl⟩
    rw [← hW9]
    have RS9:=hide (show Row W9 (w.heap.size + 1) 24 [.slice none 0 0,.slice none 0 0,.int .i64 0] by
     rw [hW9]
     exact ((RS8.out.other (by show _ ≠ g7; omega) _).other (by show _ ≠ g7; omega) _).other (by show _ ≠ g7; omega) _)
    have AT9:=hide (show Row W9 g7 24 [.slice A5 n5 b5,.slice B5 m5 b6,.int .i64 (l5:Int)] by rw [hW9]; exact row3 AT8.out rfl _ _ _)
    have TY9:=hide (show DgT W9 A5 B5 y by rw [hW9]; exact TY8.out.set3 AT8.out _ _ _)
    have MQ9:=hide (show MovesAt W9 (.slice Aq qq.length cq') qq by rw [hW9]; exact MQ8.out.set3 AT8.out _ _ _)
    have OW9:=hide (show W9.ownsRow bL 43 5 (.slice (some ⟨gn,0,none⟩) (l.length + p.length) cn) (l.length + p.length) (mvs l ++ mvs p) by rw [hW9]; exact own_set3 OW8.out hgn7.out _ _ _)
    have B9':=hide (show Below w.heap.size w W9 by rw [hW9]; exact below3 B8.out (by omega) _ _ _)
    have hbs9:bL ≤ W9.heap.size:=by rw [hW9]; simpa using hbs8
    clear hW9 RS8 AT8 TY8 MQ8 OW8 B8 hgn7 hbs8 d0 d1 d2 d3
    obtain ⟨_,gq,hAq,hlies⟩:=MQ9.out.lies hq0
    subst hAq
    have A1:=mvs_one qq
    have hql:=mvs_len qq
    go_wp2_with (at_builtin; refine wpList_append_lies _ (by rfl) _ _ 27 (by rfl) bL 43 i0 (.agg #[.int .i64 0,.int .i64 0,.int .i64 0,.int .i64 0,.bool false]) 5 40 Tryz.underlying27 hi0 hx0 hx1 hx2 rfl (by omega) _ (l.length + p.length) (mvs l ++ mvs p) (by rfl) OW9.out ⟨gq,0,none⟩ qq.length cq' (mvs qq) (by rfl) hql hlies A1 hq0 (by unfold maxLen; omega) (by omega) hbs9 W9.heap.size rfl ?_; intro g3 c3 w10 own2 grow2 at2 lt2; have OWN2 := hide own2; have GR2 := hide grow2; clear own2 grow2 at2)
    have k10:∀ t,t ≠ 43 → KpT t W9 w10:=fun t ht => .of_grown GR2.out (fun g hg => ownsRow_block OW9.out g hg) ht
    go_roundg y.n
    case measure => have := HLE.out; have := HRG.out; omega
    case rel =>
     refine ⟨y,(l ++ p) ++ qq,A5,B5,b5,b6,rfl,HYV.out,HYM.out,HED.out,HEM.out,HLN.out,RS9.out.kp (k10 _ (by decide)),?_,?_,TY9.out.kp (k10 _ (by decide)),hg7l,hbLl,Nat.le_trans hbs9 GR2.out.size,B9'.out.grown GR2.out B9'.out.size (fun k hk => by have := (OW9.out.lt k hk).1; omega)⟩
     ·have:=AT9.out.kp (k10 _ (by decide))
      rw [HN5.out,HM5.out,HL5.out] at this
      exact this
     ·have:=OWN2.out
      rw [List.length_append,List.length_append]
      unfold mvs at this ⊢
      rw [List.flatMap_append,List.flatMap_append]
      exact this
end Go.Proofs.YtghdiolnonejaaaGreatDoor
end
section
namespace Go.Proofs.YtghdiolnonejaaaGreatDoor
open Go Go.RowKit
attribute [local go_sem ↓] Go.wp_at_zero Go.wp_at_succ
set_option maxHeartbeats 4000000 in
theorem few10_any (A B:Option Addr) (n q cp cq:Nat) (lp:Int) (w:World):Calls Tryz.prog 7 #[.agg #[.slice A n cp,.slice B q cq,.int .i64 lp]] w fun e w' => e = .returned (.bool (decide (n ≤ 9) && decide (q ≤ 45))) ∧ Below w.heap.size w w' := by
 have B0:=hide (show Below w.heap.size w (w.alloc (.cells #[.slice A n cp,.slice B q cq,.int .i64 lp] 24)) from (Below.refl _ _).alloc (Nat.le_refl _) _)
 by_cases h1:(n:Int) ≤ 9
 ·by_cases h2:(q:Int) ≤ 45
  ·have E:=hide (show (decide (n ≤ 9) && decide (q ≤ 45)) = true by rw [decide_eq_true (show n ≤ 9 by omega),decide_eq_true (show q ≤ 45 by omega)]; rfl)
   go_enter Tryz.func7,Tryz.ntmps7
   go_wp2
   go_ret
   exact ⟨by rw [E.out]; rfl,B0.out⟩
  ·have E:=hide (show (decide (n ≤ 9) && decide (q ≤ 45)) = false by rw [decide_eq_true (show n ≤ 9 by omega),decide_eq_false (show ¬ q ≤ 45 by omega)]; rfl)
   go_enter Tryz.func7,Tryz.ntmps7
   go_wp2
   go_ret
   exact ⟨by rw [E.out]; rfl,B0.out⟩
 ·have E:=hide (show (decide (n ≤ 9) && decide (q ≤ 45)) = false by rw [decide_eq_false (show ¬ n ≤ 9 by omega)]; rfl)
  go_enter Tryz.func7,Tryz.ntmps7
  go_wp2
  go_ret
  exact ⟨by rw [E.out]; rfl,B0.out⟩
theorem tref_valid:Pl.Valid Pl.tref := Pl.tref_ok
set_option maxRecDepth 100000 in
set_option maxHeartbeats 4000000 in
theorem awake10 (w:World):Calls Tryz.prog 6 #[] w fun e w' => e = .returned (.bool true) ∧ Below w.heap.size w w' := by
 obtain ⟨W1,hW1⟩:∃ W:World,W = ((w.alloc (.cells #[.int .i64 1,.int .i64 (-1)] 3)).alloc (.cells #[.int .i64 6,.int .i64 5,.int .i64 4,.int .i64 7,.int .i64 2,.int .i64 1,.int .i64 0,.int .i64 3] 3)).alloc (.cells #[.slice (some ⟨w.heap.size,0,none⟩) 2 2,.slice (some ⟨w.heap.size + 1,0,none⟩) 8 8,.int .i64 0] 24) := ⟨_,rfl⟩
 have I1:=hide (show IRow W1 w.heap.size [1,-1] by rw [hW1]; exact ((row_at (vs := [.int .i64 1,.int .i64 (-1)]) rfl).alloc _).alloc _)
 have I2:=hide (show IRow W1 (w.heap.size + 1) [6,5,4,7,2,1,0,3] by rw [hW1]; exact (row_at (vs := [.int .i64 6,.int .i64 5,.int .i64 4,.int .i64 7,.int .i64 2,.int .i64 1,.int .i64 0,.int .i64 3]) (by simp)).alloc _)
 have R1:=hide (show Row W1 (w.heap.size + 1 + 1) 24 [.slice (some ⟨w.heap.size,0,none⟩) 2 2,.slice (some ⟨w.heap.size + 1,0,none⟩) 8 8,.int .i64 0] by rw [hW1]; exact row_at (vs := [_,_,_]) (by simp))
 have B1:=hide (show Below w.heap.size w W1 by rw [hW1]; exact (((Below.refl _ _).alloc (Nat.le_refl _) _).alloc (by simp) _).alloc (by simp; omega) _)
 have D1:=hide (show DgAt W1 (some ⟨w.heap.size,0,none⟩) (some ⟨w.heap.size + 1,0,none⟩) dgT from ⟨I1.out.ints,I2.out.ints⟩)
 have DN:=hide (fun (W:World) (h:DgAt W (some ⟨w.heap.size,0,none⟩) (some ⟨w.heap.size + 1,0,none⟩) dgT) => Down_any dgT dgT_valid _ _ 2 8 8 W rfl h)
 have MT:=hide (fun (W:World) (h:DgAt W (some ⟨w.heap.size,0,none⟩) (some ⟨w.heap.size + 1,0,none⟩) dgT) => Minimal_any dgT dgT_valid _ _ 2 8 8 W rfl h)
 go_enter Tryz.func6,Tryz.ntmps6
 go_wp2_with fail
 rw [← hW1]
 clear hW1
 refine (DN.out _ D1.out).mono ?_
 rintro e w2 ⟨A8,B8,b8,b9,v8,he,hg8,hv8,hb2⟩
 rw [dgT_dn.1] at he
 rw [dgT_dn.2] at hv8
 have he':e = .returned (.tuple #[.agg #[.slice A8 0 b8,.slice B8 0 b9,.int .i64 2],v8,.int .i64 0]):=he
 subst he'
 obtain ⟨M8,m8,rfl,hM8⟩:=hv8.at.mv
 have hM8':MovesV w2 M8 1 [⟨4,0,1,0,false⟩]:=hM8
 obtain ⟨g8,zk,zx,zy,zs,zo,rfl,hgl,hz,c0,c1,c2,c3,c4⟩:=hM8'.at_ (j := 0) (by omega)
 obtain ⟨rfl,rfl,rfl,rfl,rfl⟩:(4:Int) = zk ∧ (0:Int) = zx ∧ (1:Int) = zy ∧ (0:Int) = zs ∧ false = zo := by simpa using hz
 simp only [Nat.zero_mul,Nat.zero_add] at c0
 have C0:=hide c0
 have D2:=hide (D1.out.keep hb2)
 have R2:=hide (R1.out.below hb2)
 have B2:=hide (B1.out.trans (hb2.mono B1.out.size))
 have hgl2:=hgl
 have hl2:=R2.out.lt
 clear he hg8 hv8 hM8 hM8' hz c0 c1 c2 c3 c4 hb2 DN D1 R1 B1 I1 I2
 obtain ⟨n3,hn3⟩:∃ n,n = w2.heap.size := ⟨_,rfl⟩
 obtain ⟨W3,hW3⟩:∃ W:World,W = (((w2.alloc (.cells #[.slice A8 0 b8,.slice B8 0 b9,.int .i64 2] 24)).alloc (.cells #[.int .i64 1,.int .i64 1,.int .i64 1] 3)).alloc (.cells #[.int .i64 9,.int .i64 4,.int .i64 7,.int .i64 10,.int .i64 1,.int .i64 8,.int .i64 11,.int .i64 2,.int .i64 5,.int .i64 0,.int .i64 3,.int .i64 6] 3)).alloc (.cells #[.slice (some ⟨w2.heap.size + 1,0,none⟩) 3 3,.slice (some ⟨w2.heap.size + 1 + 1,0,none⟩) 12 12,.int .i64 0] 24) := ⟨_,rfl⟩
 have b3:=((((Below.refl w2.heap.size w2).alloc (Nat.le_refl _) (.cells #[.slice A8 0 b8,.slice B8 0 b9,.int .i64 2] 24)).alloc (by simp) (.cells #[.int .i64 1,.int .i64 1,.int .i64 1] 3)).alloc (by simp; omega) (.cells #[.int .i64 9,.int .i64 4,.int .i64 7,.int .i64 10,.int .i64 1,.int .i64 8,.int .i64 11,.int .i64 2,.int .i64 5,.int .i64 0,.int .i64 3,.int .i64 6] 3)).alloc (by simp; omega) (.cells #[.slice (some ⟨w2.heap.size + 1,0,none⟩) 3 3,.slice (some ⟨w2.heap.size + 1 + 1,0,none⟩) 12 12,.int .i64 0] 24)
 rw [← hW3] at b3
 have X3:=hide (show Row W3 w2.heap.size 24 [.slice A8 0 b8,.slice B8 0 b9,.int .i64 2] by rw [hW3]; exact (((row_at (vs := [_,_,_]) rfl).alloc _).alloc _).alloc _)
 have I3:=hide (show IRow W3 (w2.heap.size + 1) [1,1,1] by rw [hW3]; exact ((row_at (vs := [.int .i64 1,.int .i64 1,.int .i64 1]) (by simp)).alloc _).alloc _)
 have I4:=hide (show IRow W3 (w2.heap.size + 1 + 1) [9,4,7,10,1,8,11,2,5,0,3,6] by rw [hW3]; exact (row_at (vs := [.int .i64 9,.int .i64 4,.int .i64 7,.int .i64 10,.int .i64 1,.int .i64 8,.int .i64 11,.int .i64 2,.int .i64 5,.int .i64 0,.int .i64 3,.int .i64 6]) (by simp)).alloc _)
 have T3:=hide (show DgAt W3 (some ⟨w2.heap.size + 1,0,none⟩) (some ⟨w2.heap.size + 1 + 1,0,none⟩) Pl.tref from ⟨I3.out.ints,I4.out.ints⟩)
 have D3:=hide (D2.out.keep b3)
 have R3:=hide (R2.out.below b3)
 have C3:=hide (cell_below C0.out b3)
 have B3:=hide (B2.out.trans (b3.mono B2.out.size))
 have Y3:=hide (show Row W3 (w2.heap.size + 1 + 1 + 1) 24 [.slice (some ⟨w2.heap.size + 1,0,none⟩) 3 3,.slice (some ⟨w2.heap.size + 1 + 1,0,none⟩) 12 12,.int .i64 0] by rw [hW3]; exact row_at (vs := [_,_,_]) (by simp))
 have c0:=C3.out
 obtain ⟨d0,d1,d2,d3⟩:=box3 X3.out
 obtain ⟨e0,e1,e2,e3⟩:=box3 Y3.out
 obtain ⟨f0,f1,f2,f3⟩:=box3 R3.out
 have MR:=hide (fun (W:World) (h:DgAt W (some ⟨w2.heap.size + 1,0,none⟩) (some ⟨w2.heap.size + 1 + 1,0,none⟩) Pl.tref) => Minimal_any Pl.tref tref_valid _ _ 3 12 12 W rfl h)
 clear b3 hn3
 go_upto_region 4 with fail
 rw [← hW3]
 clear hW3
 go_wp2_with fail
 refine (MR.out _ T3.out).mono ?_
 rintro e w4 ⟨rfl,hb4⟩
 rw [Pl.vb_true tref_rem]
 have D4:=hide (D3.out.keep hb4)
 have R4:=hide (R3.out.below hb4)
 have B4:=hide (B3.out.trans (hb4.mono B3.out.size))
 clear hb4 c0 d0 d1 d2 d3 e0 e1 e2 e3 f0 f1 f2 f3
 obtain ⟨f0,f1,f2,f3⟩:=box3 R4.out
 go_wp2_with fail
 refine (MT.out _ D4.out).mono ?_
 rintro e w5 ⟨rfl,hb5⟩
 rw [Pl.vb_false (show ¬ remL dgT = [] by rw [dgT_rem]; exact List.cons_ne_nil _ _)]
 have B5:=hide (B4.out.trans (hb5.mono B4.out.size))
 clear hb5
 go_wp2
 go_ret
 exact ⟨rfl,B5.out⟩
end Go.Proofs.YtghdiolnonejaaaGreatDoor
end
section
namespace Go.Proofs.YtghdiolnonejaaaGreatDoor
open Go Go.RowKit
attribute [local go_sem ↓] Go.wp_at_zero Go.wp_at_succ
def ResL (x:Pl.Dg) (n m lp nl:Nat) (ms:List Mv) (w:World) (e:Ending) (w':World):Prop := ∃ (A9 B9 AL:Option Addr) (c8 c9 cL:Nat),e = .returned (.tuple #[.agg #[.slice A9 n c8,.slice B9 m c9,.int .i64 (lp:Int)],.slice AL nl cL,.int .i64 0]) ∧ DgAt w' A9 B9 x ∧ MovesAt w' (.slice AL nl cL) ms ∧ Below w.heap.size w w'
theorem down_e (r:Pl.Dg) (hr:Pl.Valid r) (A B:Option Addr) (n cp cq m lp:Nat) (w:World) (hn:n = r.n) (hm:m = 4 * r.n) (hl:lp = r.lp) (hg:DgAt w A B r) (x:Pl.Dg) (ms:List Mv) (n' m' l' nl:Nat) (hx:dnD r = x) (hms:dnM r = ms) (hn':n' = x.n) (hm':m' = 4 * x.n) (hl':l' = x.lp) (hnl:nl = ms.length) :
 Calls Tryz.prog 9 #[.agg #[.slice A n cp,.slice B m cq,.int .i64 (lp:Int)]] w (ResL x n' m' l' nl ms w) := by
 subst hn hl hx hms hn' hm' hl' hnl
 refine (Down_any r hr A B cp cq m w hm hg).mono ?_
 rintro e w' ⟨A9,B9,c8,c9,v,he,hT,hv,hb⟩
 obtain ⟨b,hb2⟩:=hv.at
 obtain ⟨AL,cL,rfl⟩:=owns_slice hb2
 exact ⟨A9,B9,AL,c8,c9,cL,he,hT,⟨b,hb2⟩,hb⟩
theorem red_e (r:Pl.Dg) (hr:Pl.Valid r) (h20:r.n ≤ 20) (k:Nat) (hk:k ≤ 8) (kv:Int) (hkv:kv = (k:Int)) (A B:Option Addr) (n cp cq m lp:Nat) (w:World) (hn:n = r.n) (hm:m = 4 * r.n) (hl:lp = r.lp) (hg:DgAt w A B r) (ht:GT w) (x:Pl.Dg) (ms:List Mv) (n' m' l' nl:Nat) (hx:redD k r = x) (hms:redM k r = ms) (hn':n' = x.n) (hm':m' = 4 * x.n) (hl':l' = x.lp) (hnl:nl = ms.length) :
 Calls Tryz.prog 10 #[.agg #[.slice A n cp,.slice B m cq,.int .i64 (lp:Int)],.int .i64 kv] w (ResL x n' m' l' nl ms w) := by
 subst hn hl hx hms hn' hm' hl' hnl hkv
 refine (sreduce_any r hr h20 k hk A B cp cq m w hm hg ht).mono ?_
 rintro e w' ⟨A9,B9,c8,c9,v,he,hT,hv,hb⟩
 obtain ⟨b,hb2⟩:=hv
 obtain ⟨AL,cL,rfl⟩:=owns_slice hb2
 exact ⟨A9,B9,AL,c8,c9,cL,he,hT.at,⟨b,hb2⟩,hb⟩
theorem eq_e (r:Pl.Dg) (A B A2 B2:Option Addr) (n q lp cp cq cp2 cq2:Nat) (w:World) (hg:DgAt w A B r) (hg2:DgAt w A2 B2 r) (h1:n = r.n) (h3:q = 4 * r.n) (hn:r.n ≤ 1000) :
 Calls Tryz.prog 11 #[.agg #[.slice A n cp,.slice B q cq,.int .i64 (lp:Int)],.agg #[.slice A2 n cp2,.slice B2 q cq2,.int .i64 (lp:Int)]] w fun e w' => e = .returned (.bool true) ∧ Below w.heap.size w w' := by
 subst h1 h3
 exact equal_yes r.sg (nats r.mt) lp A B A2 B2 _ _ cp cq cp2 cq2 w hg.s hg.m hg2.s hg2.m (by omega) (by omega)
theorem MovesAt.v {W:World} {A:Option Addr} {n c:Nat} {ms:List Mv} (h:MovesAt W (.slice A n c) ms):MovesV W A n ms := by
 obtain ⟨A',c',e,hV⟩:=h.mv
 injection e with e1 e2 e3
 subst e1
 subst e2
 exact hV
end Go.Proofs.YtghdiolnonejaaaGreatDoor
end
section
namespace Go.Proofs.YtghdiolnonejaaaGreatDoor
open Go Go.RowKit
attribute [local go_sem ↓] Go.wp_at_zero Go.wp_at_succ
theorem stepInfo:(Tryz.prog.info? 55).map (fun i => (i.zero,i.size,i.bytes)) = some (some (.agg #[.int .i64 0,.int .i64 0,.int .i64 0,.int .i64 0,.bool false,.int .i64 0,.int .i64 0,.int .i64 0,.int .i64 0,.bool false,.int .i64 0]),11,88) := by kernel_rfl
theorem run_steps0 (n:Nat) (hn:n ≤ 1000000) (w:World):(Instr.makeSlice 51 (.int .i64 0) (.int .i64 (n:Int))).run Tryz.prog w = .ok (.slice (some ⟨w.heap.size,0,none⟩) 0 n) (w.alloc (.cells (madeCells (Value.cells (.agg #[.int .i64 0,.int .i64 0,.int .i64 0,.int .i64 0,.bool false,.int .i64 0,.int .i64 0,.int .i64 0,.int .i64 0,.bool false,.int .i64 0])) (n * 11)) 55)) := by
 obtain ⟨i0,hi,hz0,hz1,hz2⟩:=info_parts stepInfo
 have:=run_make (P := Tryz.prog) w 51 55 i0 _ Tryz.underlying51 hi hz0 .i64 .i64 0 n (Int.le_refl _) (by omega) (by rw [hz2]; omega) (by omega)
 rw [hz1,Int.toNat_natCast] at this
 exact this
def stps (ss:List Stp):List Value := ss.flatMap Stp.cells
theorem stps_snoc (ss:List Stp) (s:Stp):stps (ss ++ [s]) = stps ss ++ s.cells := by unfold stps; simp
theorem stps_len:∀ ss:List Stp,(stps ss).length = ss.length * 11
 | [] => rfl
 | s :: ss => by
   have:=stps_len ss
   unfold stps at this ⊢
   rw [List.flatMap_cons,List.length_append,this,List.length_cons]
   simp [Stp.cells,Mv.cells]
   omega
theorem stps_get:∀ (ss:List Stp) (j:Nat) (z:Stp),ss[j]? = some z → ∀ (i:Nat) (u:Value),z.cells[i]? = some u → (stps ss)[j * 11 + i]? = some u
 | [],j,z,h,_,_,_ => by cases h
 | s :: ss, 0, z, h, i, u, hu => by
   obtain rfl:s = z := by simpa using h
   have hi:=(List.getElem?_eq_some_iff.1 hu).1
   unfold stps
   rw [List.flatMap_cons,Nat.zero_mul,Nat.zero_add,List.getElem?_append_left hi]
   exact hu
 | s :: ss, j + 1, z, h, i, u, hu => by
   have:=stps_get ss j z (by simpa using h) i u hu
   unfold stps at this ⊢
   have hl:s.cells.length = 11:=by simp [Stp.cells,Mv.cells]
   rw [List.flatMap_cons,List.getElem?_append_right (by rw [hl]; omega),hl,show (j + 1) * 11 + i - 11 = j * 11 + i by omega]
   exact this
theorem st_own {w:World} {base n c:Nat} {A:Option Addr} {ss:List Stp} (h:w.ownsRow base 55 11 (.slice A n c) n (stps ss)) (hl:ss.length = n):StV w A n ss := by
 refine ⟨hl.symm,fun hp => ?_⟩
 obtain ⟨g,cap,hA,_,_⟩:=World.ownsRow.form h hp
 injection hA with hA _ _
 subst hA
 refine ⟨g,rfl,fun j z hz i u hu => ?_⟩
 have hg:=stps_get ss j z hz i u hu
 have hi:=(List.getElem?_eq_some_iff.1 hg).1
 rw [stps_len,hl] at hi
 rw [World.ownsRow.cellAt h _ hi]
 exact hg
theorem own_lower {w:World} {base base':Nat} {e:TypeId} {size:Nat} {v:Value} {n:Nat} {xs:List Value} (h:w.ownsRow base e size v n xs) (hb:base' ≤ base):w.ownsRow base' e size v n xs :=
 ⟨h.1,h.2.imp id (fun ⟨g,cap,cur,a,b,r⟩ => ⟨g,cap,cur,a,Nat.le_trans hb b,r⟩)⟩
structure PY (w:World) (ga:Nat) (d:Pl.Dg) (ms:List Mv) (k:Nat) (r:Pl.Dg) (ss:List Stp) (v:Value) (A9 B9:Option Addr) (n c8 m c9 lp:Nat) (W:World):Prop where
 val:Pl.Valid r
 eq:r = apN d ms k
 okk:∀ j z,j < k → ms[j]? = some z → apC (apN d ms j) z = 0
 hn:n = r.n
 hm:m = 4 * r.n
 hl:lp = r.lp
 at_:Row W ga 24 [.slice A9 n c8,.slice B9 m c9,.int .i64 (lp:Int)]
 res:Row W (w.heap.size + 1) 24 [.slice none 0 0,.slice none 0 0,.int .i64 0]
 t:DgT W A9 B9 r
 own:W.ownsRow (ga + 1) 55 11 v k (stps ss)
 sl:ss.length = k
 sok:∀ j s,ss[j]? = some s → StOk (apN d ms j).n (apN d ms (j + 1)).n s
 sz:∀ j,j ≤ k → (apN d ms j).n ≤ 64
 bel:Below w.heap.size w W
 lo:w.heap.size + 1 < ga
section
variable {w W W':World} {ga k:Nat} {d r:Pl.Dg} {ms:List Mv} {ss:List Stp} {v:Value} {A9 B9:Option Addr} {n c8 m c9 lp:Nat}
theorem PY.below (h:PY w ga d ms k r ss v A9 B9 n c8 m c9 lp W) (hb:Below W.heap.size W W'):PY w ga d ms k r ss v A9 B9 n c8 m c9 lp W' :=
 ⟨h.val,h.eq,h.okk,h.hn,h.hm,h.hl,h.at_.below hb,h.res.below hb,h.t.keep hb,own_below h.own hb,h.sl,h.sok,h.sz,h.bel.trans (hb.mono h.bel.size),h.lo⟩
theorem PY.alloc (h:PY w ga d ms k r ss v A9 B9 n c8 m c9 lp W) (o:Obj):PY w ga d ms k r ss v A9 B9 n c8 m c9 lp (W.alloc o) := h.below ((Below.refl _ _).alloc (Nat.le_refl _) o)
end
theorem own_neS {W:World} {base b n:Nat} {t:TypeId} {v:Value} {xs vs:List Value} (h:W.ownsRow base 55 11 v n xs) (hr:Row W b t vs) (ht:55 ≠ t):some b ≠ v.ownBlock := own_neT h hr ht
theorem DgT.grownS {w w':World} {A B:Option Addr} {d:Pl.Dg} {base n:Nat} {v:Value} {xs:List Value} (h:DgT w A B d) (ho:w.ownsRow base 55 11 v n xs) (hg:w.grownBy w' v.ownBlock):DgT w' A B d :=
 ⟨h.s.grown hg (fun g e => ownsRow_block ho g e) (by decide),h.m.grown hg (fun g e => ownsRow_block ho g e) (by decide)⟩
theorem stok_of {r:Pl.Dg} (hr:Pl.Valid r) {z:Mv} (h:apC r z = 0) (f:Int) (hf:z.kind = 4 → f = z.x ∨ f = z.y):StOk r.n (apD r z).n ⟨z,apI r z,f⟩:=by
 have hn:=ap_n hr h
 obtain ⟨_,hin,_⟩:=apC_zero h
 obtain ⟨k,x,y,s,o⟩:=z
 unfold inR at hin
 unfold gro at hn
 simp only at hn hin hf ⊢
 refine ⟨apI_in hr h,fun e => ?_,fun e => ?_,fun e => ?_,fun e => ?_,fun e1 e2 e3 e4 => ?_⟩
 ·have e':k = 1:=e
  subst e'
  simp only [if_pos] at hn
  omega
 ·have e':k = 3:=e
  subst e'
  simp at hn
  omega
 ·have e':k = 2:=e
  subst e'
  simp at hn hin
  exact ⟨by omega,hin.1,hin.2.1⟩
 ·have e':k = 4:=e
  subst e'
  simp at hn hin
  exact ⟨by omega,hin.1,hin.2.1,hin.2.2.1,hf rfl⟩
 ·have a1:k ≠ 1:=e1
  have a2:k ≠ 2:=e2
  have a3:k ≠ 3:=e3
  have a4:k ≠ 4:=e4
  simp [a1,a2,a3,a4] at hn
  omega
def PlayPost (d:Pl.Dg) (ms:List Mv) (w:World) (e:Ending) (w':World):Prop :=
 (∀ k z,ms[k]? = some z → (∀ j y,j < k → ms[j]? = some y → apC (apN d ms j) y = 0) → apC (apN d ms k) z ≠ 0 → e = .returned (.tuple #[.agg #[.slice none 0 0,.slice none 0 0,.int .i64 0],.slice none 0 0,.int .i64 (k:Int),.int .i64 (apC (apN d ms k) z)])) ∧
 ((∀ j y, ms[j]? = some y → apC (apN d ms j) y = 0) → ∃ (A B C : Option Addr) (c1 c2 c3 n m lp : Nat) (bs : List Mv), n = (apN d ms ms.length).n ∧ m = 4 * n ∧ lp = (apN d ms ms.length).lp ∧ Pl.Valid (apN d ms ms.length) ∧
   e = .returned (.tuple #[.agg #[.slice A n c1,.slice B m c2,.int .i64 (lp:Int)],.slice C ms.length c3,.int .i64 (-1),.int .i64 0]) ∧ DgT w' A B (apN d ms ms.length) ∧ w'.ownsRow w.heap.size 43 5 (.slice C ms.length c3) ms.length (mvs bs)) ∧ Below w.heap.size w w'
structure ApG (r:Pl.Dg) (z:Mv):Prop where
 call:∀ (A B:Option Addr) (n cp cq m lp:Nat) (w:World),n = r.n → m = 4 * r.n → lp = r.lp → DgAt w A B r → Calls Tryz.prog 26 #[.agg #[.slice A n cp,.slice B m cq,.int .i64 (lp:Int)],.agg #[.int .i64 z.kind,.int .i64 z.x,.int .i64 z.y,.int .i64 z.sign,.bool z.over]] w (ResC (apC r z) (apD r z) (apI r z) w)
 ok:apC r z = 0 → Pl.Valid (apD r z)
 st:apC r z = 0 → ∀ f,(z.kind = 4 → f = z.x ∨ f = z.y) → StOk r.n (apD r z).n ⟨z,apI r z,f⟩
set_option maxRecDepth 100000 in
set_option maxHeartbeats 8000000 in
theorem play_gen (d:Pl.Dg) (hd:Pl.Valid d) (A B C:Option Addr) (cp cq m nc cc:Nat) (ms:List Mv) (w:World) (hm:m = 4 * d.n) (hg:DgAt w A B d) (hc:MvsA w C nc ms) (hnc:nc ≤ 10000)
 (hap:∀ k z,ms[k]? = some z → Pl.Valid (apN d ms k) → ApG (apN d ms k) z) :
 Calls Tryz.prog 13 #[.agg #[.slice A d.n cp,.slice B m cq,.int .i64 d.lp],.slice C nc cc] w (PlayPost d ms w) := by
 have HAP:=hide hap
 clear hap
 have HM:=hide hm
 have HG:=hide hg
 have HCS:=hide hc
 have HCL:=hide hc.1
 have hn:=hd.wf.few
 have HD:=hide hd
 clear hm hg hc
 have R0:=hide ((row_at (W := w) (g := w.heap.size) (t := 24) (vs := [.slice A d.n cp,.slice B m cq,.int .i64 (d.lp:Int)]) rfl).alloc (.cells #[.slice none 0 0,.slice none 0 0,.int .i64 0] 24))
 have S0:=hide (row_at (W := w.alloc (.cells #[.slice A d.n cp,.slice B m cq,.int .i64 (d.lp:Int)] 24)) (g := w.heap.size + 1) (t := 24) (vs := [.slice none 0 0,.slice none 0 0,.int .i64 0]) (by simp))
 have B0:=hide (show Below w.heap.size w ((w.alloc (.cells #[.slice A d.n cp,.slice B m cq,.int .i64 (d.lp:Int)] 24)).alloc (.cells #[.slice none 0 0,.slice none 0 0,.int .i64 0] 24)) from ((Below.refl _ _).alloc (Nat.le_refl _) _).alloc (by simp) _)
 have hmk:=fun W:World => run_steps0 nc (by omega) W
 go_enter Tryz.func13,Tryz.ntmps13
 go_wp2_with fail
 refine (valid_yes d hd A B cp cq m _ HM.out (HG.out.keep B0.out)).mono ?_
 rintro e w1 ⟨rfl,hb1⟩
 have R1:=hide (R0.out.below hb1)
 have S1:=hide (S0.out.below hb1)
 have B1:=hide (B0.out.trans (hb1.mono B0.out.size))
 clear hb1 R0 S0 B0
 obtain ⟨d0,d1,d2,d3⟩:=box3 R1.out
 have hnc1:¬ ((10000:Int) < (nc:Int)):=by omega
 go_wp2_with fail
 refine (clone_all d A B cp cq m _ HM.out (HG.out.keep B1.out) hn).mono ?_
 rintro e w2 ⟨A9,B9,c8,c9,rfl,hT,hb2⟩
 have hw2:w.heap.size + 1 < w2.heap.size:=(S1.out.below hb2).lt
 obtain ⟨V,hV⟩:∃ V,V = (w2.alloc (.cells #[.slice A9 d.n c8,.slice B9 m c9,.int .i64 (d.lp:Int)] 24)).alloc (.cells (madeCells (Value.cells (.agg #[.int .i64 0,.int .i64 0,.int .i64 0,.int .i64 0,.bool false,.int .i64 0,.int .i64 0,.int .i64 0,.int .i64 0,.bool false,.int .i64 0])) (nc * 11)) 55) := ⟨_,rfl⟩
 have ap0:apN d ms 0 = d:=by cases ms <;> rfl
 have L0:=hide (show PY w w2.heap.size d ms 0 d [] (.slice (some ⟨w2.heap.size + 1,0,none⟩) 0 nc) A9 B9 d.n c8 m c9 d.lp V from by
  rw [hV]
  refine ⟨HD.out,ap0.symm,fun j z hj => by omega,rfl,HM.out,rfl,(row_at (vs := [.slice A9 d.n c8,.slice B9 m c9,.int .i64 (d.lp:Int)]) rfl).alloc _,((S1.out.below hb2).alloc _).alloc _,hT.keep (((Below.refl w2.heap.size w2).alloc (Nat.le_refl _) _).alloc (by simp) _),?_,rfl,(fun j s hs => by cases hs),fun j hj => ?_,((B1.out.trans (hb2.mono B1.out.size)).alloc (B1.out.trans (hb2.mono B1.out.size)).size _).alloc (by simp; omega) _,hw2⟩
  ·have:=World.ownsRow_made (base := w2.heap.size + 1) (e := 55) (size := 11) (w2.alloc (.cells #[.slice A9 d.n c8,.slice B9 m c9,.int .i64 (d.lp:Int)] 24)) (madeCells (Value.cells (.agg #[.int .i64 0,.int .i64 0,.int .i64 0,.int .i64 0,.bool false,.int .i64 0,.int .i64 0,.int .i64 0,.int .i64 0,.bool false,.int .i64 0])) (nc * 11)) nc (by simp) (by unfold maxLen; omega) (size_madeCells _ _)
   simpa [stps] using this
  ·obtain rfl:j = 0 := by omega
   rw [ap0]; exact hn)
 clear hb2 hT d0 d1 d2 d3 R1 S1 B1 ap0
 rw [hV] at L0
 clear hV
 go_wp2_with fail
 obtain ⟨ga,hga⟩:∃ g,g = w2.heap.size := ⟨_,rfl⟩
 rw [← hga] at L0 hw2 ⊢
 have HGA:=hide hga
 clear hga
 go_loopg [9,10,11,12,13,14,15,31] nc (fun g s9 s10 s11 s12 s13 s14 s15 s31 wx => ∃ (k:Nat) (r:Pl.Dg) (ss:List Stp) (A9 B9:Option Addr) (n c8 m c9 lp:Nat),k + g = nc ∧ s31 = .int .i64 (k:Int) ∧ PY w ga d ms k r ss s9 A9 B9 n c8 m c9 lp wx)
 case atStart => exact ⟨0,_,_,_,_,_,_,_,_,_,by omega,rfl,L0.out⟩
 case round =>
  clear L0
  obtain ⟨k,r,ss,A9,B9,n,c8,m,c9,lp,hkg,rfl,hl⟩:=hrel
  have HKG:=hide hkg
  have K0:=hide hl
  have hknc:k ≤ nc:=by omega
  have hlp:=hl.val.wf.lp
  rw [← hl.hl] at hlp
  have hrn:=hl.val.wf.few
  rw [← hl.hn] at hrn
  have hga1:=hl.at_.lt
  obtain ⟨S7,c7,rfl⟩:=owns_slice hl.own
  clear hl
  obtain ⟨d0,d1,d2,d3⟩:=box3 K0.out.at_
  by_cases hk:k < nc
  ·have hki:(k:Int) < (nc:Int):=by omega
   have k0:(0:Int) ≤ (k:Int):=by omega
   obtain ⟨bb,oo,zk,zx,zy,zs,zo,rfl,hz,x0,x1,x2,x3,x4⟩:=(HCS.out.keep K0.out.bel).at_ hk
   have HZ:=hide hz
   have M4:=hide (row_at (W := wr) (g := wr.heap.size) (t := 43) (vs := [.int .i64 zk,.int .i64 zx,.int .i64 zy,.int .i64 zs,.bool zo]) rfl)
   have K4:=hide (K0.out.alloc (.cells #[.int .i64 zk,.int .i64 zx,.int .i64 zy,.int .i64 zs,.bool zo] 43))
   clear hz hkg
   go_wp2_with fail
   have HAG:=hide (show ApG r ⟨zk,zx,zy,zs,zo⟩ from by rw [K4.out.eq]; exact HAP.out k _ HZ.out (by rw [← K4.out.eq]; exact K4.out.val))
   refine (HAG.out.call A9 B9 n c8 c9 m lp _ K4.out.hn K4.out.hm K4.out.hl K4.out.t.at).mono ?_
   intro e w5 hres
   have K5:=hide (K4.out.below hres.2.2)
   have M5:=hide (M4.out.below hres.2.2)
   have hw5:wr.heap.size < w5.heap.size:=M5.out.lt
   obtain ⟨gM,hgM⟩:∃ g,g = wr.heap.size := ⟨_,rfl⟩
   rw [← hgM] at M5 hw5 ⊢
   obtain ⟨ce,hce⟩:∃ ce,ce = apC r ⟨zk,zx,zy,zs,zo⟩:=⟨_,rfl⟩
   by_cases h0:ce = 0
   ·have HOK:=hide (show apC r ⟨zk,zx,zy,zs,zo⟩ = 0 by rw [← hce]; exact h0)
    obtain ⟨A8,B8,b8,b9,k9,x9,y9,s9,o9,hmv,rfl,hT⟩:=(hres.2.1 HOK.out).split
    have hVr:=K4.out.val
    have HV2:=hide (HAG.out.ok HOK.out)
    have hso:=fun f hf => HAG.out.st HOK.out f hf
    rw [hmv] at hso
    have hap:=apN_succ ms d k _ HZ.out
    rw [← K4.out.eq] at hap
    have hinr:=(apC_zero HOK.out).2.1
    obtain ⟨r2,hr2⟩:∃ r2,r2 = apD r ⟨zk,zx,zy,zs,zo⟩:=⟨_,rfl⟩
    rw [← hr2] at hT HV2 hso hap ⊢
    have HR2:=hide hap.symm
    have HSO:=hide hso
    have HT:=hide hT
    have HIR:=hide hinr
    have hr2n:=HV2.out.wf.few
    have hr2l:=HV2.out.wf.lp
    obtain ⟨N8,hN8⟩:∃ n,n = r2.n := ⟨_,rfl⟩
    obtain ⟨M8,hM8⟩:∃ n,n = 4 * r2.n := ⟨_,rfl⟩
    obtain ⟨L8,hL8⟩:∃ n,n = r2.lp := ⟨_,rfl⟩
    rw [← hM8,← hN8,← hL8]
    rw [← hN8] at hr2n
    rw [← hL8] at hr2l
    have HN8:=hide hN8
    have HM8:=hide hM8
    have HL8:=hide hL8
    have h50:ga < w5.heap.size:=K5.out.at_.lt
    clear hmv hT hres hr2 hN8 hM8 hL8 hso hap hinr d0 d1 d2 d3 x0 x1 x2 x3 x4 K4 M4 K0 hce h0 hgM
    obtain ⟨d0,d1,d2,d3⟩:=box3 K5.out.at_
    obtain ⟨m0,m1,m2,m3,m4,m5⟩:=box5 M5.out
    go_upto_region 14 with fail
    obtain ⟨V6,hV6⟩:∃ V,V = ((w5.alloc (.cells #[.slice A8 N8 b8,.slice B8 M8 b9,.int .i64 (L8:Int)] 24)).alloc (.cells #[.int .i64 k9,.int .i64 x9,.int .i64 y9,.int .i64 s9,.bool o9] 43)).alloc (.cells #[.int .i64 zk,.int .i64 zx,.int .i64 zy,.int .i64 zs,.bool zo,.int .i64 k9,.int .i64 x9,.int .i64 y9,.int .i64 s9,.bool o9,.int .i64 0] 55) := ⟨_,rfl⟩
    obtain ⟨g12,hg12⟩:∃ g,g = w5.heap.size := ⟨_,rfl⟩
    obtain ⟨g15,hg15⟩:∃ g,g = w5.heap.size + 1 + 1 := ⟨_,rfl⟩
    have K6:=hide (show PY w ga d ms k r ss (.slice S7 k c7) A9 B9 n c8 m c9 lp V6 by rw [hV6]; exact ((K5.out.alloc _).alloc _).alloc _)
    have M6:=hide (show Row V6 gM 43 [.int .i64 zk,.int .i64 zx,.int .i64 zy,.int .i64 zs,.bool zo] by rw [hV6]; exact ((M5.out.alloc _).alloc _).alloc _)
    have D6:=hide (show Row V6 g12 24 [.slice A8 N8 b8,.slice B8 M8 b9,.int .i64 (L8:Int)] by rw [hV6,hg12]; exact ((row_at (vs := [.slice A8 N8 b8,.slice B8 M8 b9,.int .i64 (L8:Int)]) rfl).alloc _).alloc _)
    have S6:=hide (show Row V6 g15 55 [.int .i64 zk,.int .i64 zx,.int .i64 zy,.int .i64 zs,.bool zo,.int .i64 k9,.int .i64 x9,.int .i64 y9,.int .i64 s9,.bool o9,.int .i64 0] by rw [hV6,hg15]; exact row_at (vs := [.int .i64 zk,.int .i64 zx,.int .i64 zy,.int .i64 zs,.bool zo,.int .i64 k9,.int .i64 x9,.int .i64 y9,.int .i64 s9,.bool o9,.int .i64 0]) (by simp))
    have T6:=hide (show DgT V6 A8 B8 r2 by rw [hV6]; exact HT.out.keep ((((Below.refl w5.heap.size w5).alloc (Nat.le_refl _) _).alloc (by simp) _).alloc (by simp; omega) _))
    have hg1215:ga < g12 ∧ g12 < g15:=by omega
    obtain ⟨hga12,hg1215⟩:=hg1215
    have hS7:∀ q,(Value.slice S7 k c7).ownBlock = some q → q < g12:=fun q hq => by rw [hg12]; exact (K5.out.own.lt q hq).2
    rw [← hV6,← hg15,← hg12]
    clear hV6 hg12 hg15 K5 M5 HT d0 d1 d2 d3 m0 m1 m2 m3 m4 m5 h50 hw5
    obtain ⟨m0,m1,m2,m3,m4,m5⟩:=box5 M6.out
    by_cases z4:zk = 4
    ·subst z4
     have hin4:=HIR.out
     unfold inR at hin4
     simp at hin4
     obtain ⟨hx0,hxy,hyn,hrest⟩:=hin4
     clear hrest
     obtain ⟨a,rfl⟩:=Int.eq_ofNat_of_zero_le hx0
     obtain ⟨b,rfl⟩:=Int.eq_ofNat_of_zero_le (show (0:Int) ≤ zy by omega)
     have han:a < r.n:=by omega
     obtain ⟨d0,d1,d2,d3⟩:=box3 K6.out.at_
     clear hx0 hxy hyn
     go_wp2_with fail
     refine (leading_any r K6.out.val.wf A9 B9 c8 c9 m n (lp:Int) a b _ K6.out.hm K6.out.t.at han).mono ?_
     rintro e w7 ⟨hx7,hb7⟩
     obtain ⟨f,hf,rfl⟩:∃ f:Int,(f = (a:Int) ∨ f = (b:Int)) ∧ e = .returned (.int .i64 f) := by
      rcases hx7 with h | h
      ·exact ⟨_,.inl rfl,h⟩
      ·exact ⟨_,.inr rfl,h⟩
     have HFF:=hide (show (4:Int) = 4 → f = (a:Int) ∨ f = (b:Int) from fun _ => hf)
     have K7:=hide (K6.out.below hb7)
     have D7:=hide (D6.out.below hb7)
     have S7':=hide (S6.out.below hb7)
     have T7:=hide (T6.out.keep hb7)
     clear hx7 hb7 hf d0 d1 d2 d3 m0 m1 m2 m3 m4 m5 K6 D6 S6 T6 M6
     have s10:=S7'.out.cell (i := 10) (by simp)
     have sfz:∀ o,w7.frozen? ⟨g15,o,none⟩ = false:=fun o => Row.free S7'.out o
     simp only [List.getElem_cons_succ,List.getElem_cons_zero] at s10
     go_upto_region 16 with fail
     obtain ⟨VV,hVV⟩:∃ V,V = w7.setCell ⟨g15,10,none⟩ (.int .i64 f) := ⟨_,rfl⟩
     have hlo7:=K7.out.lo
     have KV:=hide (show PY w ga d ms k r ss (.slice S7 k c7) A9 B9 n c8 m c9 lp VV by
      rw [hVV]
      have h:=K7.out
      exact ⟨h.val,h.eq,h.okk,h.hn,h.hm,h.hl,h.at_.other (a := ⟨g15,10,none⟩) (show ga ≠ g15 by omega) _,h.res.other (a := ⟨g15,10,none⟩) (show w.heap.size + 1 ≠ g15 by omega) _,⟨h.t.s.store S7'.out (by decide) _,h.t.m.store S7'.out (by decide) _⟩,own_setNe h.own (fun e => by have := hS7 _ e; omega) 10 _,h.sl,h.sok,h.sz,h.bel.setCell (by show _ ≤ g15; omega) _,h.lo⟩)
     have SV:=hide (show Row VV g15 55 [.int .i64 4,.int .i64 (a:Int),.int .i64 (b:Int),.int .i64 zs,.bool zo,.int .i64 k9,.int .i64 x9,.int .i64 y9,.int .i64 s9,.bool o9,.int .i64 f] by rw [hVV]; exact S7'.out.set 10 _)
     have DV:=hide (show Row VV g12 24 [.slice A8 N8 b8,.slice B8 M8 b9,.int .i64 (L8:Int)] by rw [hVV]; exact D7.out.other (a := ⟨g15,10,none⟩) (show g12 ≠ g15 by omega) _)
     have TV:=hide (show DgT VV A8 B8 r2 by rw [hVV]; exact ⟨T7.out.s.store S7'.out (by decide) _,T7.out.m.store S7'.out (by decide) _⟩)
     rw [← hVV]
     clear hVV K7 D7 S7' T7 s10 sfz
     obtain ⟨n0,hn0,hz0,hz1,hz2⟩:=info_parts stepInfo
     have A0:=hide (KV.out.alloc (.cells #[.int .i64 4,.int .i64 (a:Int),.int .i64 (b:Int),.int .i64 zs,.bool zo,.int .i64 k9,.int .i64 x9,.int .i64 y9,.int .i64 s9,.bool o9,.int .i64 f] 55)).own
     have A2:k + 1 ≤ maxLen:=by unfold maxLen; omega
     have A3:(k + 1) * 88 ≤ 140737488355328:=by omega
     have hgaV:ga < VV.heap.size:=KV.out.at_.lt
     have hbs:ga + 1 ≤ (VV.alloc (.cells #[.int .i64 4,.int .i64 (a:Int),.int .i64 (b:Int),.int .i64 zs,.bool zo,.int .i64 k9,.int .i64 x9,.int .i64 y9,.int .i64 s9,.bool o9,.int .i64 f] 55)).heap.size:=by simp; omega
     have HBS:=hide hbs
     clear hbs
     obtain ⟨v0,v1,v2,v3,v4,v5,v6,v7,v8,v9,v10⟩:VV.cell? ⟨g15,0,none⟩ = some (.int .i64 4) ∧ VV.cell? ⟨g15,1,none⟩ = some (.int .i64 (a:Int)) ∧ VV.cell? ⟨g15,2,none⟩ = some (.int .i64 (b:Int)) ∧ VV.cell? ⟨g15,3,none⟩ = some (.int .i64 zs) ∧ VV.cell? ⟨g15,4,none⟩ = some (.bool zo) ∧ VV.cell? ⟨g15,5,none⟩ = some (.int .i64 k9) ∧ VV.cell? ⟨g15,6,none⟩ = some (.int .i64 x9) ∧ VV.cell? ⟨g15,7,none⟩ = some (.int .i64 y9) ∧ VV.cell? ⟨g15,8,none⟩ = some (.int .i64 s9) ∧ VV.cell? ⟨g15,9,none⟩ = some (.bool o9) ∧ VV.cell? ⟨g15,10,none⟩ = some (.int .i64 f) := ⟨SV.out.cell (i := 0) (by simp),SV.out.cell (i := 1) (by simp),SV.out.cell (i := 2) (by simp),SV.out.cell (i := 3) (by simp),SV.out.cell (i := 4) (by simp),SV.out.cell (i := 5) (by simp),SV.out.cell (i := 6) (by simp),SV.out.cell (i := 7) (by simp),SV.out.cell (i := 8) (by simp),SV.out.cell (i := 9) (by simp),SV.out.cell (i := 10) (by simp)⟩
     go_upto_region 17 with (at_builtin; refine wpList_append_lies _ (by rfl) _ _ 51 (by rfl) (ga + 1) 55 n0 (.agg #[.int .i64 0,.int .i64 0,.int .i64 0,.int .i64 0,.bool false,.int .i64 0,.int .i64 0,.int .i64 0,.int .i64 0,.bool false,.int .i64 0]) 11 88 Tryz.underlying51 hn0 hz0 hz1 hz2 rfl (by omega) _ k (stps ss) (by rfl) A0.out ⟨VV.heap.size,0,none⟩ 1 1 [.int .i64 4,.int .i64 (a:Int),.int .i64 (b:Int),.int .i64 zs,.bool zo,.int .i64 k9,.int .i64 x9,.int .i64 y9,.int .i64 s9,.bool o9,.int .i64 f] (by rfl) (by rfl) (news_at _ _) (by simp [Value.oneCell']) (by omega) A2 A3 HBS.out (VV.heap.size + 1) (by simp) ?_; intro g16 c16 w8 own8 grow8 at8 lt8; have OWN8 := hide own8; have GR8 := hide grow8; clear own8 grow8 at8 lt8)
     have KA:=hide (KV.out.alloc (.cells #[.int .i64 4,.int .i64 (a:Int),.int .i64 (b:Int),.int .i64 zs,.bool zo,.int .i64 k9,.int .i64 x9,.int .i64 y9,.int .i64 s9,.bool o9,.int .i64 f] 55))
     have at8:=hide (KA.out.at_.grown GR8.out (own_neS A0.out KA.out.at_ (by decide)))
     have rs8:=hide (KA.out.res.grown GR8.out (own_neS A0.out KA.out.res (by decide)))
     have dv8:=hide ((DV.out.alloc (.cells #[.int .i64 4,.int .i64 (a:Int),.int .i64 (b:Int),.int .i64 zs,.bool zo,.int .i64 k9,.int .i64 x9,.int .i64 y9,.int .i64 s9,.bool o9,.int .i64 f] 55)).grown GR8.out (own_neS A0.out (DV.out.alloc _) (by decide)))
     have tt8:=hide ((TV.out.keep ((Below.refl VV.heap.size VV).alloc (Nat.le_refl _) (.cells #[.int .i64 4,.int .i64 (a:Int),.int .i64 (b:Int),.int .i64 zs,.bool zo,.int .i64 k9,.int .i64 x9,.int .i64 y9,.int .i64 s9,.bool o9,.int .i64 f] 55))).grownS A0.out GR8.out)
     have bl8:=hide (KA.out.bel.grown GR8.out KA.out.bel.size (fun k hk => by have := (A0.out.lt k hk).1; have := KA.out.lo; omega))
     have okk:=hide KV.out.okk
     have sls:=hide KV.out.sl
     have sok:=hide KV.out.sok
     have szz:=hide KV.out.sz
     have eqq:=hide KV.out.eq
     have loo:=KV.out.lo
     clear KV KA A0 A2 A3 v0 v1 v2 v3 v4 v5 v6 v7 v8 v9 v10 hgaV
     obtain ⟨e0,e1,e2,e3⟩:=box3 at8.out
     obtain ⟨f0,f1,f2,f3⟩:=box3 dv8.out
     have hgd:g12 ≠ ga:=by omega
     go_wp2_with fail
     go_roundg (gk - 1)
     case measure => have := HKG.out; omega
     case rel =>
      refine ⟨k + 1,r2,ss ++ [⟨⟨4,(a:Int),(b:Int),zs,zo⟩,⟨k9,x9,y9,s9,o9⟩,f⟩],A8,B8,N8,b8,M8,b9,L8,by have := HKG.out; omega,by go_num,?_⟩
      refine ⟨HV2.out,HR2.out,fun j z hj hz => ?_,HN8.out,HM8.out,HL8.out,row3 at8.out rfl _ _ _,((rs8.out.other (a := ⟨ga,0,none⟩) (show w.heap.size + 1 ≠ ga by omega) _).other (a := ⟨ga,1,none⟩) (show w.heap.size + 1 ≠ ga by omega) _).other (a := ⟨ga,2,none⟩) (show w.heap.size + 1 ≠ ga by omega) _,tt8.out.set3 at8.out _ _ _,?_,?_,fun j s hs => ?_,fun j hj => ?_,below3 bl8.out (by omega) _ _ _,loo⟩
      ·rcases Nat.lt_or_ge j k with h | h
       ·exact okk.out j z h hz
       ·obtain rfl:j = k := by omega
        rw [HZ.out] at hz
        injection hz with hz
        rw [← hz,← eqq.out]
        exact HOK.out
      ·rw [stps_snoc]
       exact ownsRow_setCell_below (ownsRow_setCell_below (ownsRow_setCell_below OWN8.out (a := ⟨ga,0,none⟩) (by show ga < ga + 1; omega) _) (a := ⟨ga,1,none⟩) (by show ga < ga + 1; omega) _) (a := ⟨ga,2,none⟩) (by show ga < ga + 1; omega) _
      ·rw [List.length_append,List.length_singleton,sls.out]
      ·rcases Nat.lt_or_ge j k with h | h
       ·rw [List.getElem?_append_left (by rw [sls.out]; exact h)] at hs
        exact sok.out j s hs
       ·have hjk : j = k := by
         have:=(List.getElem?_eq_some_iff.1 hs).1
         rw [List.length_append,List.length_singleton,sls.out] at this
         omega
        subst hjk
        rw [List.getElem?_append_right (by rw [sls.out]; exact Nat.le_refl _),sls.out,Nat.sub_self] at hs
        simp only [List.getElem?_cons_zero,Option.some.injEq] at hs
        subst hs
        rw [← eqq.out,← HR2.out]
        exact HSO.out _ HFF.out
      ·rcases Nat.lt_or_ge j (k + 1) with h | h
       ·exact szz.out j (by omega)
       ·obtain rfl:j = k + 1 := by omega
        rw [← HR2.out,← HN8.out]; omega
    ·have z4b:(zk == 4) = false:=by rw [beq_eq_false_iff_ne]; exact z4
     have HFF:=hide (show zk = 4 → (0:Int) = zx ∨ (0:Int) = zy from fun e => absurd e z4)
     go_upto_region 16 with fail
     obtain ⟨VV,hVV⟩:∃ V,V = V6 := ⟨_,rfl⟩
     have KV:=hide (show PY w ga d ms k r ss (.slice S7 k c7) A9 B9 n c8 m c9 lp VV by rw [hVV]; exact K6.out)
     have SV:=hide (show Row VV g15 55 [.int .i64 zk,.int .i64 zx,.int .i64 zy,.int .i64 zs,.bool zo,.int .i64 k9,.int .i64 x9,.int .i64 y9,.int .i64 s9,.bool o9,.int .i64 0] by rw [hVV]; exact S6.out)
     have DV:=hide (show Row VV g12 24 [.slice A8 N8 b8,.slice B8 M8 b9,.int .i64 (L8:Int)] by rw [hVV]; exact D6.out)
     have TV:=hide (show DgT VV A8 B8 r2 by rw [hVV]; exact T6.out)
     rw [← hVV]
     clear hVV K6 D6 S6 T6 M6 m0 m1 m2 m3 m4 m5
     obtain ⟨n0,hn0,hz0,hz1,hz2⟩:=info_parts stepInfo
     have A0:=hide (KV.out.alloc (.cells #[.int .i64 zk,.int .i64 zx,.int .i64 zy,.int .i64 zs,.bool zo,.int .i64 k9,.int .i64 x9,.int .i64 y9,.int .i64 s9,.bool o9,.int .i64 0] 55)).own
     have A2:k + 1 ≤ maxLen:=by unfold maxLen; omega
     have A3:(k + 1) * 88 ≤ 140737488355328:=by omega
     have hgaV:ga < VV.heap.size:=KV.out.at_.lt
     have hbs:ga + 1 ≤ (VV.alloc (.cells #[.int .i64 zk,.int .i64 zx,.int .i64 zy,.int .i64 zs,.bool zo,.int .i64 k9,.int .i64 x9,.int .i64 y9,.int .i64 s9,.bool o9,.int .i64 0] 55)).heap.size:=by simp; omega
     have HBS:=hide hbs
     clear hbs
     obtain ⟨v0,v1,v2,v3,v4,v5,v6,v7,v8,v9,v10⟩:VV.cell? ⟨g15,0,none⟩ = some (.int .i64 zk) ∧ VV.cell? ⟨g15,1,none⟩ = some (.int .i64 zx) ∧ VV.cell? ⟨g15,2,none⟩ = some (.int .i64 zy) ∧ VV.cell? ⟨g15,3,none⟩ = some (.int .i64 zs) ∧ VV.cell? ⟨g15,4,none⟩ = some (.bool zo) ∧ VV.cell? ⟨g15,5,none⟩ = some (.int .i64 k9) ∧ VV.cell? ⟨g15,6,none⟩ = some (.int .i64 x9) ∧ VV.cell? ⟨g15,7,none⟩ = some (.int .i64 y9) ∧ VV.cell? ⟨g15,8,none⟩ = some (.int .i64 s9) ∧ VV.cell? ⟨g15,9,none⟩ = some (.bool o9) ∧ VV.cell? ⟨g15,10,none⟩ = some (.int .i64 0) := ⟨SV.out.cell (i := 0) (by simp),SV.out.cell (i := 1) (by simp),SV.out.cell (i := 2) (by simp),SV.out.cell (i := 3) (by simp),SV.out.cell (i := 4) (by simp),SV.out.cell (i := 5) (by simp),SV.out.cell (i := 6) (by simp),SV.out.cell (i := 7) (by simp),SV.out.cell (i := 8) (by simp),SV.out.cell (i := 9) (by simp),SV.out.cell (i := 10) (by simp)⟩
     go_upto_region 17 with (at_builtin; refine wpList_append_lies _ (by rfl) _ _ 51 (by rfl) (ga + 1) 55 n0 (.agg #[.int .i64 0,.int .i64 0,.int .i64 0,.int .i64 0,.bool false,.int .i64 0,.int .i64 0,.int .i64 0,.int .i64 0,.bool false,.int .i64 0]) 11 88 Tryz.underlying51 hn0 hz0 hz1 hz2 rfl (by omega) _ k (stps ss) (by rfl) A0.out ⟨VV.heap.size,0,none⟩ 1 1 [.int .i64 zk,.int .i64 zx,.int .i64 zy,.int .i64 zs,.bool zo,.int .i64 k9,.int .i64 x9,.int .i64 y9,.int .i64 s9,.bool o9,.int .i64 0] (by rfl) (by rfl) (news_at _ _) (by simp [Value.oneCell']) (by omega) A2 A3 HBS.out (VV.heap.size + 1) (by simp) ?_; intro g16 c16 w8 own8 grow8 at8 lt8; have OWN8 := hide own8; have GR8 := hide grow8; clear own8 grow8 at8 lt8)
     have KA:=hide (KV.out.alloc (.cells #[.int .i64 zk,.int .i64 zx,.int .i64 zy,.int .i64 zs,.bool zo,.int .i64 k9,.int .i64 x9,.int .i64 y9,.int .i64 s9,.bool o9,.int .i64 0] 55))
     have at8:=hide (KA.out.at_.grown GR8.out (own_neS A0.out KA.out.at_ (by decide)))
     have rs8:=hide (KA.out.res.grown GR8.out (own_neS A0.out KA.out.res (by decide)))
     have dv8:=hide ((DV.out.alloc (.cells #[.int .i64 zk,.int .i64 zx,.int .i64 zy,.int .i64 zs,.bool zo,.int .i64 k9,.int .i64 x9,.int .i64 y9,.int .i64 s9,.bool o9,.int .i64 0] 55)).grown GR8.out (own_neS A0.out (DV.out.alloc _) (by decide)))
     have tt8:=hide ((TV.out.keep ((Below.refl VV.heap.size VV).alloc (Nat.le_refl _) (.cells #[.int .i64 zk,.int .i64 zx,.int .i64 zy,.int .i64 zs,.bool zo,.int .i64 k9,.int .i64 x9,.int .i64 y9,.int .i64 s9,.bool o9,.int .i64 0] 55))).grownS A0.out GR8.out)
     have bl8:=hide (KA.out.bel.grown GR8.out KA.out.bel.size (fun k hk => by have := (A0.out.lt k hk).1; have := KA.out.lo; omega))
     have okk:=hide KV.out.okk
     have sls:=hide KV.out.sl
     have sok:=hide KV.out.sok
     have szz:=hide KV.out.sz
     have eqq:=hide KV.out.eq
     have loo:=KV.out.lo
     clear KV KA A0 A2 A3 v0 v1 v2 v3 v4 v5 v6 v7 v8 v9 v10 hgaV
     obtain ⟨e0,e1,e2,e3⟩:=box3 at8.out
     obtain ⟨f0,f1,f2,f3⟩:=box3 dv8.out
     have hgd:g12 ≠ ga:=by omega
     go_wp2_with fail
     go_roundg (gk - 1)
     case measure => have := HKG.out; omega
     case rel =>
      refine ⟨k + 1,r2,ss ++ [⟨⟨zk,zx,zy,zs,zo⟩,⟨k9,x9,y9,s9,o9⟩,0⟩],A8,B8,N8,b8,M8,b9,L8,by have := HKG.out; omega,by go_num,?_⟩
      refine ⟨HV2.out,HR2.out,fun j z hj hz => ?_,HN8.out,HM8.out,HL8.out,row3 at8.out rfl _ _ _,((rs8.out.other (a := ⟨ga,0,none⟩) (show w.heap.size + 1 ≠ ga by omega) _).other (a := ⟨ga,1,none⟩) (show w.heap.size + 1 ≠ ga by omega) _).other (a := ⟨ga,2,none⟩) (show w.heap.size + 1 ≠ ga by omega) _,tt8.out.set3 at8.out _ _ _,?_,?_,fun j s hs => ?_,fun j hj => ?_,below3 bl8.out (by omega) _ _ _,loo⟩
      ·rcases Nat.lt_or_ge j k with h | h
       ·exact okk.out j z h hz
       ·obtain rfl:j = k := by omega
        rw [HZ.out] at hz
        injection hz with hz
        rw [← hz,← eqq.out]
        exact HOK.out
      ·rw [stps_snoc]
       exact ownsRow_setCell_below (ownsRow_setCell_below (ownsRow_setCell_below OWN8.out (a := ⟨ga,0,none⟩) (by show ga < ga + 1; omega) _) (a := ⟨ga,1,none⟩) (by show ga < ga + 1; omega) _) (a := ⟨ga,2,none⟩) (by show ga < ga + 1; omega) _
      ·rw [List.length_append,List.length_singleton,sls.out]
      ·rcases Nat.lt_or_ge j k with h | h
       ·rw [List.getElem?_append_left (by rw [sls.out]; exact h)] at hs
        exact sok.out j s hs
       ·have hjk : j = k := by
         have:=(List.getElem?_eq_some_iff.1 hs).1
         rw [List.length_append,List.length_singleton,sls.out] at this
         omega
        subst hjk
        rw [List.getElem?_append_right (by rw [sls.out]; exact Nat.le_refl _),sls.out,Nat.sub_self] at hs
        simp only [List.getElem?_cons_zero,Option.some.injEq] at hs
        subst hs
        rw [← eqq.out,← HR2.out]
        exact HSO.out _ HFF.out
      ·rcases Nat.lt_or_ge j (k + 1) with h | h
       ·exact szz.out j (by omega)
       ·obtain rfl:j = k + 1 := by omega
        rw [← HR2.out,← HN8.out]; omega
   ·have hE:=hres.1 (by rw [← hce]; exact h0)
    rw [← hce] at hE
    obtain rfl := hE.split
    have hceb:(ce == 0) = false:=by rw [beq_eq_false_iff_ne]; exact h0
    have hcen:(ce != 0) = true:=by rw [bne_iff_ne]; exact h0
    have HCE:=hide hce
    clear hres hE hgM hce x0 x1 x2 x3 x4 d0 d1 d2 d3 K4 M4 K0
    have res6:=(K5.out.res.alloc (.cells #[.slice none 0 0,.slice none 0 0,.int .i64 0] 24)).alloc (.cells #[.int .i64 0,.int .i64 0,.int .i64 0,.int .i64 0,.bool false] 43)
    obtain ⟨f0,f1,f2,f3⟩:=box3 res6
    have h50:w.heap.size + 1 < w5.heap.size:=by have h1 := K5.out.at_.lt; have h2 := K5.out.lo; omega
    obtain ⟨q0,q1,q2,q3⟩:=box3 (row3 res6 rfl (.slice none 0 0) (.slice none 0 0) (.int .i64 0))
    have BF:=hide (below3 (show Below w.heap.size w ((w5.alloc (.cells #[.slice none 0 0,.slice none 0 0,.int .i64 0] 24)).alloc (.cells #[.int .i64 0,.int .i64 0,.int .i64 0,.int .i64 0,.bool false] 43)) from (K5.out.bel.alloc K5.out.bel.size _).alloc (by simp; have := K5.out.bel.size; omega) _) (show w.heap.size ≤ w.heap.size + 1 by omega) (.slice none 0 0) (.slice none 0 0) (.int .i64 0))
    have HPO:=hide (show PlayPost d ms w (.returned (.tuple #[.agg #[.slice none 0 0,.slice none 0 0,.int .i64 0],.slice none 0 0,.int .i64 (k:Int),.int .i64 ce])) _ from ⟨fun k2 z2 hz2 hok2 hne2 => by
     have hkk:k2 = k:=by
      rcases Nat.lt_trichotomy k2 k with h | h | h
      ·exact absurd (K5.out.okk k2 z2 h hz2) hne2
      ·exact h
      ·have:=hok2 k _ h HZ.out
       rw [← K5.out.eq,← HCE.out] at this
       exact absurd this h0
     subst hkk
     rw [HZ.out] at hz2
     injection hz2 with hz2
     rw [← hz2,← K5.out.eq,← HCE.out],fun hall => by
     have:=hall k _ HZ.out
     rw [← K5.out.eq,← HCE.out] at this
     exact absurd this h0,BF.out⟩)
    go_wp2_with fail
    refine bodyPost_ret (v := .tuple #[.agg #[.slice none 0 0,.slice none 0 0,.int .i64 0],.slice none 0 0,.int .i64 (k:Int),.int .i64 ce]) (by simp [results,Tryz.results13,go_sem,q0,q1,q2]) rfl ?_
    exact HPO.out
  ·have hki:¬ ((k:Int) < (nc:Int)):=by omega
   obtain rfl:k = nc := by omega
   have K1:=hide (K0.out.below (Below.refl wr.heap.size wr).drew)
   have hgw:w.heap.size + 1 ≠ ga:=by omega
   have HBN:=hide (show n = (fun j => (apN d ms j).n) k from by show n = (apN d ms k).n; rw [← K0.out.eq]; exact K0.out.hn)
   have HBS:=hide (show ∀ j,j ≤ k → (fun j => (apN d ms j).n) j ≤ 100 from fun j hj => by have := K0.out.sz j hj; show (apN d ms j).n ≤ 100; omega)
   have HST:=hide (st_own K1.out.own K1.out.sl)
   have hwr1:w.heap.size + 1 < wr.heap.size:=by omega
   clear hkg
   go_upto_region 19 with fail
   go_region_held3 (fun w' => w'.cell? ⟨ga,0,none⟩ = some (.slice A9 n c8) ∧ w'.cell? ⟨ga,1,none⟩ = some (.slice B9 m c9) ∧ w'.cell? ⟨ga,2,none⟩ = some (.int .i64 (lp:Int)))
    (first | go_keep | assumption | (exact ⟨k0,k1,k2⟩))
    (first
    | (go_at_call 28
       refine Calls.mono (back_any ss (fun j => (apN d ms j).n) S7 k c7 n _ HST.out hnc HBN.out HBS.out K1.out.sok) ?_
       rintro e w3 ⟨⟨BC,cb,bs,rfl,hown3⟩,hb3⟩
       have K3:=hide (K1.out.below hb3)
       have O3:=hide hown3
       obtain ⟨k0,k1,k2,k3⟩:=box3 (K1.out.at_.below hb3)
       obtain ⟨f0,f1,f2,f3⟩:=box3 (K1.out.res.below hb3)))
   all_goals (go_wp2_with fail)
   have RR:=row3 K3.out.res rfl (.slice A9 n c8) (.slice B9 m c9) (.int .i64 (lp:Int))
   obtain ⟨q0,q1,q2,q3⟩:=box3 RR
   have TT:=K3.out.t.set3 K3.out.res (.slice A9 n c8) (.slice B9 m c9) (.int .i64 (lp:Int))
   have BB:=below3 K3.out.bel (show w.heap.size ≤ w.heap.size + 1 by omega) (.slice A9 n c8) (.slice B9 m c9) (.int .i64 (lp:Int))
   have hbse:w.heap.size + 1 < wr.drew.heap.size:=hwr1
   have OO:=own_lower (base' := w.heap.size) (ownsRow_setCell_below (ownsRow_setCell_below (ownsRow_setCell_below O3.out (a := ⟨w.heap.size + 1,0,none⟩) hbse (.slice A9 n c8)) (a := ⟨w.heap.size + 1,1,none⟩) hbse (.slice B9 m c9)) (a := ⟨w.heap.size + 1,2,none⟩) hbse (.int .i64 (lp:Int))) (by omega)
   refine bodyPost_ret (v := .tuple #[.agg #[.slice A9 n c8,.slice B9 m c9,.int .i64 (lp:Int)],.slice BC k cb,.int .i64 (-1),.int .i64 0]) (by simp [results,Tryz.results13,go_sem,q0,q1,q2]) rfl ?_
   have hcl:k = ms.length:=HCL.out
   refine ⟨fun k2 z2 hz2 hok2 hne2 => ?_,fun _ => ?_,BB⟩
   ·exfalso
    have h:=(List.getElem?_eq_some_iff.1 hz2).1
    exact hne2 (K0.out.okk k2 z2 (by omega) hz2)
   ·rw [← hcl]
    refine ⟨A9,B9,BC,c8,c9,cb,n,m,lp,bs,?_,?_,?_,?_,rfl,?_,OO⟩
    ·rw [← K0.out.eq]; exact K0.out.hn
    ·rw [K0.out.hn]; exact K0.out.hm
    ·rw [← K0.out.eq]; exact K0.out.hl
    ·rw [← K0.out.eq]; exact K0.out.val
    ·rw [← K0.out.eq]; exact TT
end Go.Proofs.YtghdiolnonejaaaGreatDoor
end
