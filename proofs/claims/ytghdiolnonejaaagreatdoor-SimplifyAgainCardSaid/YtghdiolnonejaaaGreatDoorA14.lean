/-
 The texts Lm, Ma, Mb, Mc, Open.
-/
import Derived.Test.YtghdiolnonejaaaGreatDoorA07
import Derived.ChangeSame
import Derived.Deep.Fields
import Derived.Deep.Slices
import Derived.OpenShut
import Derived.ProofKit
set_option linter.unusedVariables false
set_option linter.unusedSimpArgs false
section
namespace Go.Proofs.YtghdiolnonejaaaGreatDoor
open Go Go.RowKit
attribute [local go_sem ↓] Go.wp_at_zero Go.wp_at_succ
theorem rem_kinds {d:Pl.Dg} {k x y s:Int} {o:Bool} (h:(⟨k,x,y,s,o⟩:Mv) ∈ remL d):apC d ⟨k,x,y,s,o⟩ = 0 ∧ inR d.n ⟨k,x,y,s,o⟩ ∧ 0 ≤ x ∧ 0 ≤ y ∧ (k = 2 ∨ k = 4) := by
 obtain ⟨h1,h2⟩:=rem_ok h
 have hin:=(apC_zero h1).2.1
 refine ⟨h1,hin,?_,?_,h2⟩
 ·rcases h2 with h2 | h2
  ·have hk:k = 2:=h2
   subst hk
   have h3:0 ≤ x ∧ x < d.n ∧ y = 0 ∧ s = 0 ∧ o = false:=hin
   exact h3.1
  ·have hk:k = 4:=h2
   subst hk
   have h3:0 ≤ x ∧ x < y ∧ y < d.n ∧ s = 0 ∧ o = false:=hin
   exact h3.1
 ·rcases h2 with h2 | h2
  ·have hk:k = 2:=h2
   subst hk
   have h3:0 ≤ x ∧ x < d.n ∧ y = 0 ∧ s = 0 ∧ o = false:=hin
   omega
  ·have hk:k = 4:=h2
   subst hk
   have h3:0 ≤ x ∧ x < y ∧ y < d.n ∧ s = 0 ∧ o = false:=hin
   omega
theorem apply_rem (r:Pl.Dg) (hr:Pl.Valid r) (A B:Option Addr) (n cp cq m lp:Nat) (k x y s:Int) (o:Bool) (w:World) (hn:n = r.n) (hm:m = 4 * r.n) (hl:lp = r.lp) (hg:DgAt w A B r) (h:(⟨k,x,y,s,o⟩:Mv) ∈ remL r) :
 Calls Tryz.prog 26 #[.agg #[.slice A n cp,.slice B m cq,.int .i64 (lp:Int)],.agg #[.int .i64 k,.int .i64 x,.int .i64 y,.int .i64 s,.bool o]] w (ResC (apC r ⟨k,x,y,s,o⟩) (apD r ⟨k,x,y,s,o⟩) (apI r ⟨k,x,y,s,o⟩) w) := by
 subst hn
 subst hl
 obtain ⟨h1,hin,hx,hy,hk⟩:=rem_kinds h
 obtain ⟨a,rfl⟩:=Int.eq_ofNat_of_zero_le hx
 obtain ⟨b,rfl⟩:=Int.eq_ofNat_of_zero_le hy
 rcases hk with rfl | rfl
 ·have e:apC r ⟨2,(a:Int),(b:Int),s,o⟩ = uncC r a:=by rw [apC_in (show (1:Int) ≤ 2 ∧ (2:Int) ≤ 5 by decide) hin]; rfl
  rw [e]
  exact apply_2 r hr A B cp cq m a b s o w hm hg hin
 ·have e:apC r ⟨4,(a:Int),(b:Int),s,o⟩ = unpC r a b:=by rw [apC_in (show (1:Int) ≤ 4 ∧ (4:Int) ≤ 5 by decide) hin]; rfl
  rw [e]
  exact apply_4 r hr A B cp cq m a b s o w hm hg hin
theorem Removing_n (r:Pl.Dg) (hr:Pl.Valid r) (A B:Option Addr) (n cp cq m lp:Nat) (w:World) (hn:n = r.n) (hm:m = 4 * r.n) (hl:lp = r.lp) (hg:DgAt w A B r) :
 Calls Tryz.prog 29 #[.agg #[.slice A n cp,.slice B m cq,.int .i64 (lp:Int)]] w fun e w' => ∃ v,e = .returned v ∧ MovesIn w.heap.size w' v (remL r) ∧ Below w.heap.size w w' := by
 subst hn
 subst hl
 exact Removing_any r hr A B cp cq m w hm hg
end Go.Proofs.YtghdiolnonejaaaGreatDoor
end
section
namespace Go.Proofs.YtghdiolnonejaaaGreatDoor
open Go Go.RowKit
attribute [local go_sem ↓] Go.wp_at_zero Go.wp_at_succ
structure BB (w W:World):Prop where
 b:Below w.heap.size w W
theorem BB.refl (w:World):BB w w := ⟨Below.refl _ _⟩
theorem sz_alloc (W:World) (o:Obj):W.heap.size + 1 = (W.alloc o).heap.size := by simp
def Ty (W:World) (g:Nat) (t:TypeId):Prop := ∃ vs,Row W g t vs
theorem Row.ty {W:World} {g:Nat} {t:TypeId} {vs:List Value} (h:Row W g t vs):Ty W g t := ⟨_,h⟩
theorem Ty.set {W:World} {g g':Nat} {t:TypeId} (h:Ty W g t) (o:Nat) (v:Value):Ty (W.setCell ⟨g',o,none⟩ v) g t := by
 obtain ⟨vs,h⟩:=h
 by_cases e:g = g'
 ·subst e; exact ⟨_,h.set o v⟩
 ·exact ⟨vs,h.other e v⟩
theorem Ty.alloc {W:World} {g:Nat} {t:TypeId} (h:Ty W g t) (o:Obj):Ty (W.alloc o) g t := let ⟨vs,h⟩:=h; ⟨vs,h.alloc o⟩
theorem row_new3 (W:World) (g:Nat) (a b c:Value) (h:g = W.heap.size):Row (W.alloc (.cells #[a,b,c] 24)) g 24 [a,b,c] := row_at (vs := [a,b,c]) h
theorem DgT.setT {W:World} {A B:Option Addr} {d:Pl.Dg} {g o:Nat} {t:TypeId} {v:Value} (h:DgT W A B d) (ht:Ty W g t) (hne:3 ≠ t):DgT (W.setCell ⟨g,o,none⟩ v) A B d := by
 obtain ⟨vs,hr⟩:=ht
 have hb:=hr
 unfold Row at hb
 have key:∀ {A:Option Addr} {n:Nat} {xs:List Value},RowT W 3 A n xs → RowT (W.setCell ⟨g,o,none⟩ v) 3 A n xs:=fun h =>
  ⟨h.1, fun hn => let ⟨b, o', cs', fr', e, hb', hc⟩ := h.2 hn; ⟨b, o', cs', fr', e, (Below.heap_setCell W ⟨g, o, none⟩ v b (fun he => by
    have he':b = g:=he
    rw [he',hb] at hb'
    injection hb' with hb'
    injection hb' with _ h4
    exact hne h4.symm)).trans hb',hc⟩⟩
 exact ⟨key h.s,key h.m⟩
theorem DgT.al {W:World} {A B:Option Addr} {d:Pl.Dg} (h:DgT W A B d) (o:Obj):DgT (W.alloc o) A B d := h.keep ((Below.refl _ _).alloc (Nat.le_refl _) o)
theorem BB.drew {w W:World} (h:BB w W):BB w W.drew := ⟨h.b.drew⟩
theorem BB.alloc {w W:World} (h:BB w W) (o:Obj):BB w (W.alloc o) := ⟨h.b.alloc h.b.size o⟩
theorem BB.set {w W:World} {g:Nat} (h:BB w W) (hg:w.heap.size ≤ g) (o:Nat) (v:Value):BB w (W.setCell ⟨g,o,none⟩ v) := ⟨h.b.setCell hg v⟩
theorem BB.below {w W W':World} (h:BB w W) (hb:Below W.heap.size W W'):BB w W' := ⟨h.b.trans (hb.mono h.b.size)⟩
structure DL (w:World) (A B:Option Addr) (d r:Pl.Dg) (l:List Mv) (v:Value) (A9 B9:Option Addr) (n c8 m c9 lp:Nat) (W:World):Prop where
 val:Pl.Valid r
 eqD:dnD d = dnD r
 eqM:dnM d = l ++ dnM r
 hn:n = r.n
 hm:m = 4 * r.n
 hl:lp = r.lp
 at_:Row W w.heap.size 24 [.slice A9 n c8,.slice B9 m c9,.int .i64 (lp:Int)]
 res:Row W (w.heap.size + 1) 24 [.slice none 0 0,.slice none 0 0,.int .i64 0]
 t:DgT W A9 B9 r ∨ (A9 = A ∧ B9 = B ∧ r = d)
 own:W.ownsRow (w.heap.size + 1 + 1) 43 5 v l.length (mvs l)
 len:l.length + r.n ≤ d.n
 bel:Below w.heap.size w W
section
variable {w W W':World} {A B:Option Addr} {d r:Pl.Dg} {l:List Mv} {v:Value} {A9 B9:Option Addr} {n c8 m c9 lp:Nat}
theorem DL.below (h:DL w A B d r l v A9 B9 n c8 m c9 lp W) (hb:Below W.heap.size W W'):DL w A B d r l v A9 B9 n c8 m c9 lp W' :=
 ⟨h.val,h.eqD,h.eqM,h.hn,h.hm,h.hl,h.at_.below hb,h.res.below hb,h.t.imp (fun t => t.keep hb) id,own_below h.own hb,h.len,h.bel.trans (hb.mono h.bel.size)⟩
theorem DL.alloc (h:DL w A B d r l v A9 B9 n c8 m c9 lp W) (o:Obj):DL w A B d r l v A9 B9 n c8 m c9 lp (W.alloc o) := h.below ((Below.refl _ _).alloc (Nat.le_refl _) o)
theorem DL.dg (h:DL w A B d r l v A9 B9 n c8 m c9 lp W) (hg:DgAt w A B d):DgAt W A9 B9 r := by
 rcases h.t with t | ⟨h1,h2,h3⟩
 ·exact t.at
 ·rw [h1,h2,h3]; exact hg.keep h.bel
theorem DL.start (hd:Pl.Valid d) (hm:m = 4 * d.n):DL w A B d d [] (.slice none 0 0) A B d.n c8 m c9 d.lp ((w.alloc (.cells #[.slice A d.n c8,.slice B m c9,.int .i64 (d.lp:Int)] 24)).alloc (.cells #[.slice none 0 0,.slice none 0 0,.int .i64 0] 24)) :=
 ⟨hd,rfl,rfl,rfl,hm,rfl,(row_at (vs := [.slice A d.n c8,.slice B m c9,.int .i64 (d.lp:Int)]) rfl).alloc _,row_at (vs := [.slice none 0 0,.slice none 0 0,.int .i64 0]) (by simp),.inr ⟨rfl,rfl,rfl⟩,⟨rfl,.inl ⟨rfl,rfl⟩⟩,by simp,((Below.refl _ _).alloc (Nat.le_refl _) _).alloc (by simp) _⟩
end
def DnPost (A B:Option Addr) (d:Pl.Dg) (w:World) (e:Ending) (w':World):Prop := ∃ (A9 B9:Option Addr) (c8 c9:Nat) (v:Value),e = .returned (.tuple #[.agg #[.slice A9 (dnD d).n c8,.slice B9 (4 * (dnD d).n) c9,.int .i64 (dnD d).lp],v]) ∧ (DgT w' A9 B9 (dnD d) ∨ (A9 = A ∧ B9 = B ∧ dnD d = d)) ∧ MovesIn w.heap.size w' v (dnM d) ∧ Below w.heap.size w w'
theorem DL.post {w W:World} {A B:Option Addr} {d r:Pl.Dg} {l:List Mv} {v:Value} {A9 B9:Option Addr} {n c8 m c9 lp:Nat} (h:DL w A B d r l v A9 B9 n c8 m c9 lp W) (he:remL r = []) :
 DnPost A B d w (.returned (.tuple #[.agg #[.slice A9 n c8,.slice B9 m c9,.int .i64 (lp:Int)],v])) (((W.setCell ⟨w.heap.size + 1,0,none⟩ (.slice A9 n c8)).setCell ⟨w.heap.size + 1,1,none⟩ (.slice B9 m c9)).setCell ⟨w.heap.size + 1,2,none⟩ (.int .i64 (lp:Int))) := by
 have BB:=below3 h.bel (show w.heap.size ≤ w.heap.size + 1 by omega) (.slice A9 n c8) (.slice B9 m c9) (.int .i64 (lp:Int))
 have OO:=ownsRow_setCell_below (ownsRow_setCell_below (ownsRow_setCell_below h.own (a := ⟨w.heap.size + 1,0,none⟩) (by show w.heap.size + 1 < _; omega) (.slice A9 n c8)) (a := ⟨w.heap.size + 1,1,none⟩) (by show w.heap.size + 1 < _; omega) (.slice B9 m c9)) (a := ⟨w.heap.size + 1,2,none⟩) (by show w.heap.size + 1 < _; omega) (.int .i64 (lp:Int))
 have hs:=h.res.lt
 have e1:dnD d = r:=by rw [h.eqD,(dn_stop he).1]
 have e2:dnM d = l:=by rw [h.eqM,(dn_stop he).2,List.append_nil]
 have TT:DgT (((W.setCell ⟨w.heap.size + 1,0,none⟩ (.slice A9 n c8)).setCell ⟨w.heap.size + 1,1,none⟩ (.slice B9 m c9)).setCell ⟨w.heap.size + 1,2,none⟩ (.int .i64 (lp:Int))) A9 B9 (dnD d) ∨ (A9 = A ∧ B9 = B ∧ dnD d = d):=by
  rw [e1]
  exact h.t.imp (fun t => t.set3 h.res _ _ _) id
 unfold DnPost
 rw [e1,e2]
 rw [e1] at TT
 refine ⟨A9,B9,c8,c9,v,by rw [h.hn,h.hm,h.hl],TT,⟨w.heap.size + 1 + 1,by omega,by simp; omega,OO⟩,BB⟩
theorem first_mv {l:List Mv} {z:Mv} (h:l[0]? = some z):∃ t,l = z :: t := by
 cases l with
 | nil => cases h
 | cons a t => exact ⟨t,by rw [show a = z from Option.some.inj h]⟩
theorem DL.next {r d:Pl.Dg} {l:List Mv} {z:Mv} (hr:Pl.Valid r) (eqD:dnD d = dnD r) (eqM:dnM d = l ++ dnM r) (hl:l.length + r.n ≤ d.n) (h:(remL r)[0]? = some z) :
 Pl.Valid (apD r z) ∧ dnD d = dnD (apD r z) ∧ dnM d = (l ++ [z]) ++ dnM (apD r z) ∧ (l ++ [z]).length + (apD r z).n ≤ d.n ∧ (apD r z).n + 1 ≤ r.n := by
 obtain ⟨t,ht⟩:=first_mv h
 obtain ⟨e1,e2⟩:=dn_next hr ht
 have hz:z ∈ remL r:=by rw [ht]; exact List.mem_cons_self
 have hle:=rem_less hr hz
 refine ⟨(ap_ok hr (rem_ok hz).1).1,by rw [eqD,e1],by rw [eqM,e2]; simp,?_,hle⟩
 rw [List.length_append,List.length_singleton]
 omega
set_option maxRecDepth 100000 in
set_option maxHeartbeats 8000000 in
theorem descend_any (d:Pl.Dg) (hd:Pl.Valid d) (A B:Option Addr) (cp cq m:Nat) (w:World) (hm:m = 4 * d.n) (hg:DgAt w A B d) :
 Calls Tryz.prog 22 #[.agg #[.slice A d.n cp,.slice B m cq,.int .i64 d.lp]] w (DnPost A B d w) := by
 have HM:=hide hm
 have HG:=hide hg
 have hdn:=hd.wf.few
 have L0:=hide (DL.start (w := w) (A := A) (B := B) (c8 := cp) (c9 := cq) hd hm)
 clear hm hg
 obtain ⟨V,hV⟩:∃ V,V = (w.alloc (.cells #[.slice A d.n cp,.slice B m cq,.int .i64 (d.lp:Int)] 24)).alloc (.cells #[.slice none 0 0,.slice none 0 0,.int .i64 0] 24) := ⟨_,rfl⟩
 go_enter Tryz.func22,Tryz.ntmps22
 go_wp2
 rw [← hV] at L0 ⊢
 clear hV
 go_loopg [4,5,6,7] d.n (fun g s4 s5 s6 s7 wx => ∃ (r:Pl.Dg) (l:List Mv) (A9 B9:Option Addr) (n c8 m c9 lp:Nat),r.n = g ∧ DL w A B d r l s4 A9 B9 n c8 m c9 lp wx)
 case atStart => exact ⟨_,_,_,_,_,_,_,_,_,rfl,L0.out⟩
 case round =>
  clear L0
  obtain ⟨r,l,A9,B9,n,c8,m,c9,lp,hrg,hl⟩:=hrel
  have HKG:=hide hrg
  have K0:=hide hl
  have hln:=hl.len
  have hlp:=hl.val.wf.lp
  rw [← hl.hl] at hlp
  have hrn:=hl.val.wf.few
  rw [← hl.hn] at hrn
  have hlen:l.length ≤ 64:=by omega
  clear hl hrg
  obtain ⟨d0,d1,d2,d3⟩:=box3 K0.out.at_
  go_wp2_with fail
  refine (Removing_n r K0.out.val A9 B9 n c8 c9 m lp _ K0.out.hn K0.out.hm K0.out.hl (K0.out.dg HG.out)).mono ?_
  rintro e w3 ⟨v,rfl,hv,hb3⟩
  obtain ⟨A5,c5,rfl,hV⟩:=hv.at.mv
  have K3:=hide (K0.out.below hb3)
  have lch:=remL_le K0.out.val.wf.few
  obtain ⟨L,hL⟩:∃ L,L = remL r := ⟨_,rfl⟩
  rw [← hL] at hV lch ⊢
  obtain ⟨N5,hN5⟩:∃ n,n = L.length := ⟨_,rfl⟩
  rw [← hN5] at hV lch ⊢
  have HL:=hide hL
  have HN5:=hide hN5
  have HV:=hide hV
  have hw3:w.heap.size + 1 < w3.heap.size:=K3.out.res.lt
  clear hV hv hL hN5 hb3 d0 d1 d2 d3 K0 hln
  by_cases h0:N5 = 0
  ·have HE:=hide (show remL r = [] by rw [← HL.out]; exact List.eq_nil_of_length_eq_zero (by rw [← HN5.out]; exact h0))
   subst h0
   obtain ⟨e0,e1,e2,e3⟩:=box3 K3.out.at_
   obtain ⟨f0,f1,f2,f3⟩:=box3 K3.out.res
   obtain ⟨A7,c7,hs4⟩:=owns_slice K3.out.own
   subst hs4
   go_wp2
   have RR:=row3 K3.out.res rfl (.slice A9 n c8) (.slice B9 m c9) (.int .i64 (lp:Int))
   refine bodyPost_ret (v := .tuple #[.agg #[.slice A9 n c8,.slice B9 m c9,.int .i64 (lp:Int)],.slice A7 l.length c7]) ?_ rfl ?_
   ·obtain ⟨r0,r1,r2,r3⟩:=box3 RR
    simp [results,Tryz.results22,go_sem,r0,r1,r2]
   ·exact K3.out.post HE.out
  ·have hN0:0 < N5:=by omega
   have t0:((N5:Int) == 0) = false:=by rw [beq_eq_false_iff_ne]; omega
   have hN1:(0:Int) < (N5:Int):=by omega
   obtain ⟨g5,zk,zx,zy,zs,zo,rfl,hgl,hz,c0,c1,c2,c3,c4⟩:=HV.out.at_ hN0
   have HZ:=hide (show (remL r)[0]? = some ⟨zk,zx,zy,zs,zo⟩ by rw [← HL.out]; exact hz)
   have HIN:=hide (List.mem_of_getElem? HZ.out)
   have HOK:=hide (rem_ok HIN.out).1
   have HNX:=hide (DL.next K3.out.val K3.out.eqD K3.out.eqM K3.out.len HZ.out)
   simp only [Nat.zero_mul,Nat.zero_add] at c0 c1 c2 c3 c4
   obtain ⟨e0,e1,e2,e3⟩:=box3 K3.out.at_
   clear hz h0
   obtain ⟨r2,hr2⟩:∃ r2,r2 = apD r ⟨zk,zx,zy,zs,zo⟩:=⟨_,rfl⟩
   rw [← hr2] at HNX
   have HR2:=hide hr2
   obtain ⟨hv2,hd2,hm2,hl2,hlt2⟩:=HNX.out
   have HD2:=hide hd2
   have HMM2:=hide hm2
   have HL2:=hide hl2
   have HLT:=hide hlt2
   have HV2:=hide hv2
   have hr2n:=HV2.out.wf.few
   have hr2l:=HV2.out.wf.lp
   obtain ⟨N8,hN8⟩:∃ n,n = r2.n := ⟨_,rfl⟩
   obtain ⟨M8,hM8⟩:∃ n,n = 4 * r2.n := ⟨_,rfl⟩
   obtain ⟨L8,hL8⟩:∃ n,n = r2.lp := ⟨_,rfl⟩
   rw [← hN8] at hr2n
   rw [← hL8] at hr2l
   have HN8:=hide hN8
   have HM8:=hide hM8
   have HL8:=hide hL8
   have AR:=hide (fun (W:World) (hW:DgAt W A9 B9 r) => (apply_rem r K3.out.val A9 B9 n c8 c9 m lp zk zx zy zs zo W K3.out.hn K3.out.hm K3.out.hl hW HIN.out).mono (R' := fun e w' => ∃ (A8 B8:Option Addr) (b8 b9:Nat) (k9 x9 y9 s9:Int) (o9:Bool),e = .returned (.tuple #[.agg #[.slice A8 N8 b8,.slice B8 M8 b9,.int .i64 (L8:Int)],.agg #[.int .i64 k9,.int .i64 x9,.int .i64 y9,.int .i64 s9,.bool o9],.int .i64 0]) ∧ DgT w' A8 B8 r2 ∧ Below W.heap.size W w') (fun e w' hres => by
    obtain ⟨A8,B8,b8,b9,k9,x9,y9,s9,o9,hmv,he,hT⟩:=(hres.2.1 HOK.out).split
    rw [← HR2.out] at he hT
    rw [← HM8.out,← HN8.out,← HL8.out] at he
    exact ⟨A8,B8,b8,b9,k9,x9,y9,s9,o9,he,hT,hres.2.2⟩))
   have D3:=hide (K3.out.dg HG.out)
   have hrr:w.heap.size < w3.heap.size:=by omega
   clear hr2 hv2 hd2 hm2 hl2 hlt2 hN8 hM8 hL8 HNX
   have HALL:=hide (fun (W:World) (hb:BB w3 W) => (show (W.cell? ⟨w.heap.size,0,none⟩ = some (.slice A9 n c8) ∧ W.cell? ⟨w.heap.size,1,none⟩ = some (.slice B9 m c9) ∧ W.cell? ⟨w.heap.size,2,none⟩ = some (.int .i64 (lp:Int)) ∧ W.cell? ⟨g5,0,none⟩ = some (.int .i64 zk) ∧ W.cell? ⟨g5,1,none⟩ = some (.int .i64 zx) ∧ W.cell? ⟨g5,2,none⟩ = some (.int .i64 zy) ∧ W.cell? ⟨g5,3,none⟩ = some (.int .i64 zs) ∧ W.cell? ⟨g5,4,none⟩ = some (.bool zo)) from
    ⟨cell_below e0 hb.b,cell_below e1 hb.b,cell_below e2 hb.b,cell_below c0 hb.b,cell_below c1 hb.b,cell_below c2 hb.b,cell_below c3 hb.b,cell_below c4 hb.b⟩))
   have HB3:=hide (BB.refl w3)
   go_upto_region 5 with fail
   go_cut [6,7,8] from 16 to 24 (fun s6 s7 s8 wx => s8 = .int .i64 0 ∧ ∃ (g6:Nat) (A8 B8:Option Addr) (b8 b9:Nat),s6 = .pointer (some ⟨g6,0,none⟩) ∧ Row wx g6 24 [.slice A8 N8 b8,.slice B8 M8 b9,.int .i64 (L8:Int)] ∧ w3.heap.size ≤ g6 ∧ DgT wx A8 B8 r2 ∧ BB w3 wx)
   case first =>
    go_region_held3 (fun W => W.cell? ⟨w.heap.size,0,none⟩ = some (.slice A9 n c8) ∧ W.cell? ⟨w.heap.size,1,none⟩ = some (.slice B9 m c9) ∧ W.cell? ⟨w.heap.size,2,none⟩ = some (.int .i64 (lp:Int)) ∧ W.cell? ⟨g5,0,none⟩ = some (.int .i64 zk) ∧ W.cell? ⟨g5,1,none⟩ = some (.int .i64 zx) ∧ W.cell? ⟨g5,2,none⟩ = some (.int .i64 zy) ∧ W.cell? ⟨g5,3,none⟩ = some (.int .i64 zs) ∧ W.cell? ⟨g5,4,none⟩ = some (.bool zo))
     ((refine HALL.out _ ?_; (repeat (first | (with_reducible assumption) | (with_reducible exact HB3.out) | (with_reducible refine BB.drew ?_) | (with_reducible refine BB.alloc ?_ _) | (with_reducible refine BB.set ?_ (by omega) _ _) | (with_reducible refine BB.below ?_ hb5)))))
     (first
       | (go_at_call 26
          refine Calls.mono (AR.out _ ?_) ?_
          ·refine D3.out.keep (BB.b ?_)
           repeat (first | (with_reducible assumption) | (with_reducible exact HB3.out) | (with_reducible refine BB.drew ?_) | (with_reducible refine BB.alloc ?_ _))
          rintro e w5 ⟨A8,B8,b8,b9,k9,x9,y9,s9,o9,rfl,hT,hb5⟩
          have hlt5:w3.heap.size ≤ w5.heap.size:=by have := hb5.size; simp at this; omega
          (try (have r60 := Row.below (g := w3.heap.size) (t := 24) (vs := [.slice none 0 0,.slice none 0 0,.int .i64 0]) (by first | exact row_at rfl | exact row_at (sz_alloc _ _) | exact (row_at rfl).alloc _) hb5; obtain ⟨q0,q1,q2,q3⟩:=box3 r60; have hl60 := r60.lt; have ty60 := r60.ty; have hrow60 := fun a b c => row3 r60 rfl a b c))
          (try (have r61 := Row.below (g := w3.heap.size + 1) (t := 24) (vs := [.slice none 0 0,.slice none 0 0,.int .i64 0]) (by first | exact row_at rfl | exact row_at (sz_alloc _ _) | exact (row_at rfl).alloc _) hb5; obtain ⟨q0,q1,q2,q3⟩:=box3 r61; have hl61 := r61.lt; have ty61 := r61.ty; have hrow61 := fun a b c => row3 r61 rfl a b c))
          (try (have r70 := Row.below (g := w3.heap.size) (t := 43) (vs := [.int .i64 0,.int .i64 0,.int .i64 0,.int .i64 0,.bool false]) (by first | exact row_at rfl | exact row_at (sz_alloc _ _) | exact (row_at rfl).alloc _) hb5; obtain ⟨p0,p1,p2,p3,p4,p5⟩:=box5 r70; have hl70 := r70.lt; have ty70 := r70.ty))
          (try (have r71 := Row.below (g := w3.heap.size + 1) (t := 43) (vs := [.int .i64 0,.int .i64 0,.int .i64 0,.int .i64 0,.bool false]) (by first | exact row_at rfl | exact row_at (sz_alloc _ _) | exact (row_at rfl).alloc _) hb5; obtain ⟨p0,p1,p2,p3,p4,p5⟩:=box5 r71; have hl71 := r71.lt; have ty71 := r71.ty))
          (try (have n60:¬ w3.heap.size = w5.heap.size := (by omega); have n61:¬ w5.heap.size = w3.heap.size := (by omega)))))
    all_goals (go_wp2_with fail; go_meet)
    all_goals (
     refine ⟨rfl,_,A8,B8,b8,b9,rfl,?_,?_,?_,?_⟩
     ·repeat (first
       | (with_reducible exact hrow60 _ _ _)
       | (with_reducible exact hrow61 _ _ _)
       | (with_reducible refine row_new3 _ _ _ _ _ ?_)
       | (with_reducible refine Row.alloc ?_ _)
       | (with_reducible refine Row.other ?_ (by first | exact Nat.ne_of_lt (Nat.lt_succ_self _) | exact Nat.ne_of_gt (Nat.lt_succ_self _) | (simp <;> omega)) _))
      all_goals simp
     ·omega
     ·repeat (first
       | (with_reducible exact hT)
       | (with_reducible refine DgT.al ?_ _)
       | (with_reducible refine DgT.setT (t := 24) ?_ (by (repeat (first | (with_reducible refine Ty.set ?_ _ _) | (with_reducible refine Ty.alloc ?_ _))); with_reducible assumption) (by decide))
       | (with_reducible refine DgT.setT (t := 43) ?_ (by (repeat (first | (with_reducible refine Ty.set ?_ _ _) | (with_reducible refine Ty.alloc ?_ _))); with_reducible assumption) (by decide)))
     ·repeat (first
       | (with_reducible exact HB3.out)
       | (with_reducible refine BB.drew ?_)
       | (with_reducible refine BB.alloc ?_ _)
       | (with_reducible refine BB.set ?_ (by omega) _ _)
       | (with_reducible refine BB.below ?_ hb5)))
   case rest =>
    obtain ⟨rfl,g6,A8,B8,b8,b9,rfl,hr6,hg6,hT,hbb⟩:=hcut
    obtain ⟨w6,hw6⟩:∃ W,W = wc := ⟨_,rfl⟩
    rw [← hw6] at hr6 hT hbb ⊢
    have K6:=hide (K3.out.below hbb.b)
    have D6:=hide hr6
    have T6:=hide hT
    have V6:=hide (HV.out.keep hbb.b)
    have hw60:w.heap.size + 1 < w6.heap.size:=K6.out.res.lt
    have hg60:w.heap.size + 1 < g6:=by omega
    clear hw6 hr6 hT hbb e0 e1 e2 e3 c0 c1 c2 c3 c4 HALL HB3 AR D3 K3 HV
    obtain ⟨n0,hn0,hz0,hz1,hz2⟩:=info_parts moveInfo
    obtain ⟨g5',yk,yx,yy,ys,yo,e5',hgl',hz',c0,c1,c2,c3,c4⟩:=V6.out.at_ hN0
    injection e5' with e5'
    injection e5' with e5' _ _
    subst e5'
    rw [HL.out,HZ.out] at hz'
    obtain ⟨rfl,rfl,rfl,rfl,rfl⟩:zk = yk ∧ zx = yx ∧ zy = yy ∧ zs = ys ∧ zo = yo := by simpa using hz'
    simp only [Nat.zero_mul,Nat.zero_add] at c0 c1 c2 c3 c4
    obtain ⟨A7,c7,hs4⟩:=owns_slice K6.out.own
    subst hs4
    have K7:=hide (K6.out.alloc (.cells (Mv.cells ⟨zk,zx,zy,zs,zo⟩).toArray 43))
    have A1:∀ u ∈ Mv.cells ⟨zk,zx,zy,zs,zo⟩,u.oneCell' = true:=by simp [Mv.cells,Value.oneCell']
    have A2:l.length + 1 ≤ maxLen:=by unfold maxLen; omega
    have A3:(l.length + 1) * 40 ≤ 140737488355328:=by omega
    have A4:w.heap.size + 1 + 1 ≤ (w6.alloc (.cells (Mv.cells ⟨zk,zx,zy,zs,zo⟩).toArray 43)).heap.size:=by simp; omega
    have A6:=hide (five_news w6 w6.heap.size rfl ⟨zk,zx,zy,zs,zo⟩)
    clear hz' V6
    go_wp2_with (at_builtin; refine wpList_append_lies _ (by rfl) _ _ 27 (by rfl) (w.heap.size + 1 + 1) 43 n0 (.agg #[.int .i64 0,.int .i64 0,.int .i64 0,.int .i64 0,.bool false]) 5 40 Tryz.underlying27 hn0 hz0 hz1 hz2 rfl (by omega) _ l.length (mvs l) (by rfl) K7.out.own ⟨w6.heap.size,0,none⟩ 1 1 (Mv.cells ⟨zk,zx,zy,zs,zo⟩) (by rfl) (by rfl) A6.out A1 (by omega) A2 A3 A4 (w6.heap.size + 1) (by simp) ?_; intro g2 c2 w7 own2 grow2 at2 lt2; have OWN2 := hide own2; have AT7 := hide (K7.out.at_.grown grow2 (own_row_neM K7.out.own K7.out.at_ (by decide))); have RS7 := hide (K7.out.res.grown grow2 (own_row_neM K7.out.own K7.out.res (by decide))); have D7 := hide ((D6.out.alloc (.cells (Mv.cells ⟨zk,zx,zy,zs,zo⟩).toArray 43)).grown grow2 (own_row_neM K7.out.own (D6.out.alloc (.cells (Mv.cells ⟨zk,zx,zy,zs,zo⟩).toArray 43)) (by decide))); have T7 := hide ((T6.out.keep ((Below.refl _ _).alloc (Nat.le_refl _) (.cells (Mv.cells ⟨zk,zx,zy,zs,zo⟩).toArray 43))).grownM K7.out.own grow2); have B7 := hide (K7.out.bel.grown grow2 K7.out.bel.size (fun k hk => by have := (K7.out.own.lt k hk).1; omega)); clear own2 grow2 at2; obtain ⟨e0,e1,e2,e3⟩:=box3 AT7.out; obtain ⟨f0,f1,f2,f3⟩:=box3 D7.out)
    go_roundg r2.n
    case measure => have := HLT.out; have := HKG.out; omega
    case rel =>
     refine ⟨r2,l ++ [⟨zk,zx,zy,zs,zo⟩],A8,B8,N8,b8,M8,b9,L8,rfl,HV2.out,HD2.out,HMM2.out,HN8.out,HM8.out,HL8.out,row3 AT7.out rfl _ _ _,?_,.inl (T7.out.set3 AT7.out _ _ _),?_,HL2.out,below3 B7.out (Nat.le_refl _) _ _ _⟩
     ·exact ((RS7.out.other (by show _ ≠ w.heap.size; omega) _).other (by show _ ≠ w.heap.size; omega) _).other (by show _ ≠ w.heap.size; omega) _
     ·rw [mvs_app,List.length_append]
      exact ownsRow_setCell_below (ownsRow_setCell_below (ownsRow_setCell_below OWN2.out (by show w.heap.size < _; omega) _) (by show w.heap.size < _; omega) _) (by show w.heap.size < _; omega) _
end Go.Proofs.YtghdiolnonejaaaGreatDoor
end
section
namespace Go.Proofs.YtghdiolnonejaaaGreatDoor
open Go Go.RowKit
attribute [local go_sem ↓] Go.wp_at_zero Go.wp_at_succ
theorem dn_valid {d:Pl.Dg} (hd:Pl.Valid d):Pl.Valid (dnD d) := by
 suffices h:∀ n,∀ d:Pl.Dg,Pl.Valid d → d.n ≤ n → Pl.Valid (dnD d) from h d.n d hd (Nat.le_refl _)
 intro n
 induction n with
 | zero =>
   intro d hd h0
   rw [(dn_stop (rem_flat (by omega))).1]; exact hd
 | succ n ih =>
   intro d hd hn
   cases hr:remL d with
   | nil => rw [(dn_stop hr).1]; exact hd
   | cons z l =>
     have hz:z ∈ remL d:=by rw [hr]; exact List.mem_cons_self
     have hl:=rem_less hd hz
     rw [(dn_next hd hr).1]
     exact ih _ (ap_ok hd (rem_ok hz).1).1 (by omega)
def DownPost (r:Pl.Dg) (l:List Mv) (w:World) (e:Ending) (w':World):Prop := ∃ (A9 B9:Option Addr) (c8 c9:Nat) (v:Value),e = .returned (.tuple #[.agg #[.slice A9 r.n c8,.slice B9 (4 * r.n) c9,.int .i64 r.lp],v,.int .i64 0]) ∧ DgAt w' A9 B9 r ∧ MovesIn w.heap.size w' v l ∧ Below w.heap.size w w'
theorem descend_n (d:Pl.Dg) (hd:Pl.Valid d) (A B:Option Addr) (n cp cq m lp:Nat) (w:World) (hn:n = d.n) (hl:lp = d.lp) (hm:m = 4 * d.n) (hg:DgAt w A B d) :
 Calls Tryz.prog 22 #[.agg #[.slice A n cp,.slice B m cq,.int .i64 (lp:Int)]] w (DnPost A B d w) := by
 subst hn
 subst hl
 exact descend_any d hd A B cp cq m w hm hg
set_option maxRecDepth 100000 in
set_option maxHeartbeats 4000000 in
theorem Down_any (d:Pl.Dg) (hd:Pl.Valid d) (A B:Option Addr) (cp cq m:Nat) (w:World) (hm:m = 4 * d.n) (hg:DgAt w A B d) :
 Calls Tryz.prog 9 #[.agg #[.slice A d.n cp,.slice B m cq,.int .i64 d.lp]] w (DownPost (dnD d) (dnM d) w) := by
 have HM:=hide hm
 have HG:=hide hg
 have hdn:=hd.wf.few
 clear hm hg
 have X0:=hide ((row_at (W := w) (g := w.heap.size) (t := 24) (vs := [.slice A d.n cp,.slice B m cq,.int .i64 (d.lp:Int)]) rfl).alloc (.cells #[.slice none 0 0,.slice none 0 0,.int .i64 0] 24))
 have S0:=hide (row_at (W := w.alloc (.cells #[.slice A d.n cp,.slice B m cq,.int .i64 (d.lp:Int)] 24)) (g := w.heap.size + 1) (t := 24) (vs := [.slice none 0 0,.slice none 0 0,.int .i64 0]) (by simp))
 have B0:=hide (show Below w.heap.size w ((w.alloc (.cells #[.slice A d.n cp,.slice B m cq,.int .i64 (d.lp:Int)] 24)).alloc (.cells #[.slice none 0 0,.slice none 0 0,.int .i64 0] 24)) from ((Below.refl _ _).alloc (Nat.le_refl _) _).alloc (by simp) _)
 go_enter Tryz.func9,Tryz.ntmps9
 go_wp2_with fail
 refine (valid_yes d hd A B cp cq m _ HM.out (HG.out.keep B0.out)).mono ?_
 rintro e w1 ⟨rfl,hb1⟩
 have X1:=hide (X0.out.below hb1)
 have S1:=hide (S0.out.below hb1)
 have B1:=hide (B0.out.trans (hb1.mono B0.out.size))
 clear hb1 X0 S0 B0
 obtain ⟨d0,d1,d2,d3⟩:=box3 X1.out
 go_wp2_with fail
 refine (clone_all d A B cp cq m _ HM.out (HG.out.keep B1.out) hdn).mono ?_
 rintro e w2 ⟨A9,B9,c8,c9,rfl,hT,hb2⟩
 have S2:=hide (S1.out.below hb2)
 have B2:=hide (B1.out.trans (hb2.mono B1.out.size))
 have HT:=hide hT
 clear hb2 X1 S1 B1 hT d0 d1 d2 d3
 go_wp2_with fail
 refine (descend_n d hd A9 B9 d.n c8 c9 m d.lp _ rfl rfl HM.out HT.out.at).mono ?_
 rintro e w3 ⟨A8,B8,b8,b9,v,rfl,hg8,hv8,hb3⟩
 have hs2:=S2.out.lt
 have hT8:DgT w3 A8 B8 (dnD d):=by
  rcases hg8 with h | ⟨h1,h2,h3⟩
  ·exact h
  ·rw [h1,h2,h3]; exact HT.out.keep hb3
 have hv:=dn_valid hd
 have hrn:=hv.wf.few
 have hrl:=hv.wf.lp
 obtain ⟨N8,hN8⟩:∃ n,n = (dnD d).n := ⟨_,rfl⟩
 obtain ⟨M8,hM8⟩:∃ n,n = 4 * (dnD d).n := ⟨_,rfl⟩
 obtain ⟨L8,hL8⟩:∃ n,n = (dnD d).lp := ⟨_,rfl⟩
 rw [← hM8,← hN8,← hL8]
 rw [← hN8] at hrn
 rw [← hL8] at hrl
 have HN8:=hide hN8
 have HM8:=hide hM8
 have HL8:=hide hL8
 have b4:=(Below.refl w3.heap.size w3).alloc (Nat.le_refl _) (.cells #[.slice A8 N8 b8,.slice B8 M8 b9,.int .i64 (L8:Int)] 24)
 have S3:=hide ((S2.out.below hb3).below b4)
 have R3:=hide (row_at (W := w3) (g := w3.heap.size) (t := 24) (vs := [.slice A8 N8 b8,.slice B8 M8 b9,.int .i64 (L8:Int)]) rfl)
 have T3:=hide hT8
 have B3:=hide (B2.out.trans (hb3.mono B2.out.size))
 obtain ⟨b,hb1,hb2,own⟩:=hv8
 obtain ⟨A7,c7,hs7⟩:=owns_slice own
 subst hs7
 have OW:=hide own
 have S3':=hide (S2.out.below hb3)
 have hw3:w.heap.size + 1 < w3.heap.size:=(S2.out.below hb3).lt
 have hw2:w.heap.size + 1 < b:=by omega
 clear hb3 own hg8 hT8 hN8 hM8 hL8 b4 HT S2 B2 hv
 obtain ⟨e0,e1,e2,e3⟩:=box3 R3.out
 obtain ⟨f0,f1,f2,f3⟩:=box3 S3'.out
 go_wp2
 have RR:=row3 S3'.out rfl (.slice A8 N8 b8) (.slice B8 M8 b9) (.int .i64 (L8:Int))
 have BB:=below3 B3.out (show w.heap.size ≤ w.heap.size + 1 by omega) (.slice A8 N8 b8) (.slice B8 M8 b9) (.int .i64 (L8:Int))
 have OO:=ownsRow_setCell_below (ownsRow_setCell_below (ownsRow_setCell_below OW.out (a := ⟨w.heap.size + 1,0,none⟩) (by show w.heap.size + 1 < _; omega) (.slice A8 N8 b8)) (a := ⟨w.heap.size + 1,1,none⟩) (by show w.heap.size + 1 < _; omega) (.slice B8 M8 b9)) (a := ⟨w.heap.size + 1,2,none⟩) (by show w.heap.size + 1 < _; omega) (.int .i64 (L8:Int))
 have TT:=T3.out.set3 S3'.out (.slice A8 N8 b8) (.slice B8 M8 b9) (.int .i64 (L8:Int))
 refine bodyPost_ret (v := .tuple #[.agg #[.slice A8 N8 b8,.slice B8 M8 b9,.int .i64 (L8:Int)],.slice A7 (dnM d).length c7,.int .i64 0]) ?_ rfl ?_
 ·obtain ⟨r0,r1,r2,r3⟩:=box3 (RR.alloc (.cells #[.slice A8 N8 b8,.slice B8 M8 b9,.int .i64 (L8:Int)] 24))
  simp [results,Tryz.results9,go_sem,r0,r1,r2]
 ·refine ⟨A8,B8,b8,b9,_,by rw [HN8.out,HM8.out,HL8.out],(TT.al _).at,⟨b,by omega,by simp; omega,OO.alloc _⟩,BB.alloc BB.size _⟩
set_option maxRecDepth 100000 in
set_option maxHeartbeats 4000000 in
theorem Minimal_any (d:Pl.Dg) (hd:Pl.Valid d) (A B:Option Addr) (cp cq m:Nat) (w:World) (hm:m = 4 * d.n) (hg:DgAt w A B d) :
 Calls Tryz.prog 14 #[.agg #[.slice A d.n cp,.slice B m cq,.int .i64 d.lp]] w fun e w' => e = .returned (.bool (Pl.vb (remL d = []))) ∧ Below w.heap.size w w' := by
 have HM:=hide hm
 have HG:=hide hg
 have hdn:=hd.wf.few
 clear hm hg
 have X0:=hide (row_at (W := w) (g := w.heap.size) (t := 24) (vs := [.slice A d.n cp,.slice B m cq,.int .i64 (d.lp:Int)]) rfl)
 have B0:=hide (show Below w.heap.size w (w.alloc (.cells #[.slice A d.n cp,.slice B m cq,.int .i64 (d.lp:Int)] 24)) from (Below.refl _ _).alloc (Nat.le_refl _) _)
 go_enter Tryz.func14,Tryz.ntmps14
 go_wp2_with fail
 refine (valid_yes d hd A B cp cq m _ HM.out (HG.out.keep B0.out)).mono ?_
 rintro e w1 ⟨rfl,hb1⟩
 have X1:=hide (X0.out.below hb1)
 have B1:=hide (B0.out.trans (hb1.mono B0.out.size))
 clear hb1 X0 B0
 obtain ⟨d0,d1,d2,d3⟩:=box3 X1.out
 go_wp2_with fail
 refine (Removing_any d hd A B cp cq m _ HM.out (HG.out.keep B1.out)).mono ?_
 rintro e w2 ⟨v,rfl,hv,hb2⟩
 have B2:=hide (B1.out.trans (hb2.mono B1.out.size))
 obtain ⟨A5,c5,rfl,_⟩:=hv.at.mv
 have lch:=remL_le hd.wf.few
 obtain ⟨N5,hN5⟩:∃ n,n = (remL d).length := ⟨_,rfl⟩
 rw [← hN5] at lch ⊢
 have HN5:=hide hN5
 clear hN5 hb2 hv d0 d1 d2 d3
 by_cases h0:N5 = 0
 ·have E:=hide (show Pl.vb (remL d = []) = true from Pl.vb_true (List.eq_nil_of_length_eq_zero (by rw [← HN5.out]; exact h0)))
  subst h0
  go_wp2
  go_ret
  exact ⟨by rw [E.out]; rfl,B2.out⟩
 ·have E:=hide (show Pl.vb (remL d = []) = false from Pl.vb_false (fun h => h0 (by rw [HN5.out,h]; rfl)))
  have t0:((N5:Int) == 0) = false:=by rw [beq_eq_false_iff_ne]; omega
  clear h0
  go_wp2
  go_ret
  exact ⟨by rw [E.out]; rfl,B2.out⟩
end Go.Proofs.YtghdiolnonejaaaGreatDoor
end
section
namespace Go.Proofs.YtghdiolnonejaaaGreatDoor
open Go Go.RowKit
attribute [local go_sem ↓] Go.wp_at_zero Go.wp_at_succ
set_option maxRecDepth 100000 in
set_option maxHeartbeats 4000000 in
theorem same10_moves (ms:List Mv) (A B:Option Addr) (n c c2:Nat) (w:World) (hA:MovesV w A n ms) (hB:MovesV w B n ms) (hn:n ≤ 1000000) :
 Calls Tryz.prog 12 #[.slice A n c,.slice B n c2] w fun e w' => e = .returned (.bool true) ∧ Below w.heap.size w w' := by
 have HA:=hide hA
 have HB:=hide hB
 clear hA hB
 go_enter Tryz.func12,Tryz.ntmps12
 go_wp2
 go_loopg [5] n (fun g i wx => ∃ k:Nat,k + g = n ∧ i = .int .i64 k ∧ Below w.heap.size w wx)
 case atStart => exact ⟨0,by omega,rfl,Below.refl _ _⟩
 case round =>
  obtain ⟨q,hkg,rfl,hb⟩:=hrel
  have HBW:=hide hb
  have HKG:=hide hkg
  clear hb
  by_cases hk:q < n
  ·have hki:(q:Int) < (n:Int):=by omega
   have k0:(0:Int) ≤ (q:Int):=by omega
   obtain ⟨ga,k,x,y,s,o,rfl,_,hz,a0,a1,a2,a3,a4⟩:=(HA.out.keep HBW.out).at_ hk
   obtain ⟨gb,k',x',y',s',o',rfl,_,hz',b0,b1,b2,b3,b4⟩:=(HB.out.keep HBW.out).at_ hk
   rw [hz] at hz'
   obtain ⟨rfl,rfl,rfl,rfl,rfl⟩:k = k' ∧ x = x' ∧ y = y' ∧ s = s' ∧ o = o' := by simpa using hz'
   clear hz hz' hkg
   go_upto_region 6 with fail
   go_quiet (fail)
   go_wp2
   go_roundg (gk - 1)
   case measure => have := HKG.out; omega
   case rel => exact ⟨q + 1,by have := HKG.out; omega,by go_num,below_drewN HBW.out _⟩
  ·have hki:¬ ((q:Int) < (n:Int)):=by omega
   clear hkg
   go_wp2
   go_ret
   exact ⟨rfl,HBW.out⟩
set_option maxHeartbeats 4000000 in
theorem few10_any (A B:Option Addr) (n q cp cq:Nat) (lp:Int) (w:World):Calls Tryz.prog 7 #[.agg #[.slice A n cp,.slice B q cq,.int .i64 lp]] w fun e w' => e = .returned (.bool (decide (n ≤ 9) && decide (q ≤ 45))) ∧ Below w.heap.size w w' := by
 have B0:=hide (show Below w.heap.size w (w.alloc (.cells #[.slice A n cp,.slice B q cq,.int .i64 lp] 24)) from (Below.refl _ _).alloc (Nat.le_refl _) _)
 by_cases h1:(n:Int) ≤ 9
 ·by_cases h2:(q:Int) ≤ 45
  ·have E:=hide (show (decide (n ≤ 9) && decide (q ≤ 45)) = true by rw [decide_eq_true (show n ≤ 9 by omega),decide_eq_true (show q ≤ 45 by omega)]; rfl)
   go_enter Tryz.func7,Tryz.ntmps7
   go_wp2
   go_ret
   exact ⟨by rw [E.out]; rfl,B0.out⟩
  ·have E:=hide (show (decide (n ≤ 9) && decide (q ≤ 45)) = false by rw [decide_eq_true (show n ≤ 9 by omega),decide_eq_false (show ¬ q ≤ 45 by omega)]; rfl)
   go_enter Tryz.func7,Tryz.ntmps7
   go_wp2
   go_ret
   exact ⟨by rw [E.out]; rfl,B0.out⟩
 ·have E:=hide (show (decide (n ≤ 9) && decide (q ≤ 45)) = false by rw [decide_eq_false (show ¬ n ≤ 9 by omega)]; rfl)
  go_enter Tryz.func7,Tryz.ntmps7
  go_wp2
  go_ret
  exact ⟨by rw [E.out]; rfl,B0.out⟩
theorem tref_valid:Pl.Valid Pl.tref := Pl.tref_ok
set_option maxRecDepth 100000 in
set_option maxHeartbeats 4000000 in
theorem awake10 (w:World):Calls Tryz.prog 6 #[] w fun e w' => e = .returned (.bool true) ∧ Below w.heap.size w w' := by
 obtain ⟨W1,hW1⟩:∃ W:World,W = ((w.alloc (.cells #[.int .i64 1,.int .i64 (-1)] 3)).alloc (.cells #[.int .i64 6,.int .i64 5,.int .i64 4,.int .i64 7,.int .i64 2,.int .i64 1,.int .i64 0,.int .i64 3] 3)).alloc (.cells #[.slice (some ⟨w.heap.size,0,none⟩) 2 2,.slice (some ⟨w.heap.size + 1,0,none⟩) 8 8,.int .i64 0] 24) := ⟨_,rfl⟩
 have I1:=hide (show IRow W1 w.heap.size [1,-1] by rw [hW1]; exact ((row_at (vs := [.int .i64 1,.int .i64 (-1)]) rfl).alloc _).alloc _)
 have I2:=hide (show IRow W1 (w.heap.size + 1) [6,5,4,7,2,1,0,3] by rw [hW1]; exact (row_at (vs := [.int .i64 6,.int .i64 5,.int .i64 4,.int .i64 7,.int .i64 2,.int .i64 1,.int .i64 0,.int .i64 3]) (by simp)).alloc _)
 have R1:=hide (show Row W1 (w.heap.size + 1 + 1) 24 [.slice (some ⟨w.heap.size,0,none⟩) 2 2,.slice (some ⟨w.heap.size + 1,0,none⟩) 8 8,.int .i64 0] by rw [hW1]; exact row_at (vs := [_,_,_]) (by simp))
 have B1:=hide (show Below w.heap.size w W1 by rw [hW1]; exact (((Below.refl _ _).alloc (Nat.le_refl _) _).alloc (by simp) _).alloc (by simp; omega) _)
 have D1:=hide (show DgAt W1 (some ⟨w.heap.size,0,none⟩) (some ⟨w.heap.size + 1,0,none⟩) dgT from ⟨I1.out.ints,I2.out.ints⟩)
 have DN:=hide (fun (W:World) (h:DgAt W (some ⟨w.heap.size,0,none⟩) (some ⟨w.heap.size + 1,0,none⟩) dgT) => Down_any dgT dgT_valid _ _ 2 8 8 W rfl h)
 have MT:=hide (fun (W:World) (h:DgAt W (some ⟨w.heap.size,0,none⟩) (some ⟨w.heap.size + 1,0,none⟩) dgT) => Minimal_any dgT dgT_valid _ _ 2 8 8 W rfl h)
 go_enter Tryz.func6,Tryz.ntmps6
 go_wp2_with fail
 rw [← hW1]
 clear hW1
 refine (DN.out _ D1.out).mono ?_
 rintro e w2 ⟨A8,B8,b8,b9,v8,he,hg8,hv8,hb2⟩
 rw [dgT_dn.1] at he
 rw [dgT_dn.2] at hv8
 have he':e = .returned (.tuple #[.agg #[.slice A8 0 b8,.slice B8 0 b9,.int .i64 2],v8,.int .i64 0]):=he
 subst he'
 obtain ⟨M8,m8,rfl,hM8⟩:=hv8.at.mv
 have hM8':MovesV w2 M8 1 [⟨4,0,1,0,false⟩]:=hM8
 obtain ⟨g8,zk,zx,zy,zs,zo,rfl,hgl,hz,c0,c1,c2,c3,c4⟩:=hM8'.at_ (j := 0) (by omega)
 obtain ⟨rfl,rfl,rfl,rfl,rfl⟩:(4:Int) = zk ∧ (0:Int) = zx ∧ (1:Int) = zy ∧ (0:Int) = zs ∧ false = zo := by simpa using hz
 simp only [Nat.zero_mul,Nat.zero_add] at c0
 have C0:=hide c0
 have D2:=hide (D1.out.keep hb2)
 have R2:=hide (R1.out.below hb2)
 have B2:=hide (B1.out.trans (hb2.mono B1.out.size))
 have hgl2:=hgl
 have hl2:=R2.out.lt
 clear he hg8 hv8 hM8 hM8' hz c0 c1 c2 c3 c4 hb2 DN D1 R1 B1 I1 I2
 obtain ⟨n3,hn3⟩:∃ n,n = w2.heap.size := ⟨_,rfl⟩
 obtain ⟨W3,hW3⟩:∃ W:World,W = (((w2.alloc (.cells #[.slice A8 0 b8,.slice B8 0 b9,.int .i64 2] 24)).alloc (.cells #[.int .i64 1,.int .i64 1,.int .i64 1] 3)).alloc (.cells #[.int .i64 9,.int .i64 4,.int .i64 7,.int .i64 10,.int .i64 1,.int .i64 8,.int .i64 11,.int .i64 2,.int .i64 5,.int .i64 0,.int .i64 3,.int .i64 6] 3)).alloc (.cells #[.slice (some ⟨w2.heap.size + 1,0,none⟩) 3 3,.slice (some ⟨w2.heap.size + 1 + 1,0,none⟩) 12 12,.int .i64 0] 24) := ⟨_,rfl⟩
 have b3:=((((Below.refl w2.heap.size w2).alloc (Nat.le_refl _) (.cells #[.slice A8 0 b8,.slice B8 0 b9,.int .i64 2] 24)).alloc (by simp) (.cells #[.int .i64 1,.int .i64 1,.int .i64 1] 3)).alloc (by simp; omega) (.cells #[.int .i64 9,.int .i64 4,.int .i64 7,.int .i64 10,.int .i64 1,.int .i64 8,.int .i64 11,.int .i64 2,.int .i64 5,.int .i64 0,.int .i64 3,.int .i64 6] 3)).alloc (by simp; omega) (.cells #[.slice (some ⟨w2.heap.size + 1,0,none⟩) 3 3,.slice (some ⟨w2.heap.size + 1 + 1,0,none⟩) 12 12,.int .i64 0] 24)
 rw [← hW3] at b3
 have X3:=hide (show Row W3 w2.heap.size 24 [.slice A8 0 b8,.slice B8 0 b9,.int .i64 2] by rw [hW3]; exact (((row_at (vs := [_,_,_]) rfl).alloc _).alloc _).alloc _)
 have I3:=hide (show IRow W3 (w2.heap.size + 1) [1,1,1] by rw [hW3]; exact ((row_at (vs := [.int .i64 1,.int .i64 1,.int .i64 1]) (by simp)).alloc _).alloc _)
 have I4:=hide (show IRow W3 (w2.heap.size + 1 + 1) [9,4,7,10,1,8,11,2,5,0,3,6] by rw [hW3]; exact (row_at (vs := [.int .i64 9,.int .i64 4,.int .i64 7,.int .i64 10,.int .i64 1,.int .i64 8,.int .i64 11,.int .i64 2,.int .i64 5,.int .i64 0,.int .i64 3,.int .i64 6]) (by simp)).alloc _)
 have T3:=hide (show DgAt W3 (some ⟨w2.heap.size + 1,0,none⟩) (some ⟨w2.heap.size + 1 + 1,0,none⟩) Pl.tref from ⟨I3.out.ints,I4.out.ints⟩)
 have D3:=hide (D2.out.keep b3)
 have R3:=hide (R2.out.below b3)
 have C3:=hide (cell_below C0.out b3)
 have B3:=hide (B2.out.trans (b3.mono B2.out.size))
 have Y3:=hide (show Row W3 (w2.heap.size + 1 + 1 + 1) 24 [.slice (some ⟨w2.heap.size + 1,0,none⟩) 3 3,.slice (some ⟨w2.heap.size + 1 + 1,0,none⟩) 12 12,.int .i64 0] by rw [hW3]; exact row_at (vs := [_,_,_]) (by simp))
 have c0:=C3.out
 obtain ⟨d0,d1,d2,d3⟩:=box3 X3.out
 obtain ⟨e0,e1,e2,e3⟩:=box3 Y3.out
 obtain ⟨f0,f1,f2,f3⟩:=box3 R3.out
 have MR:=hide (fun (W:World) (h:DgAt W (some ⟨w2.heap.size + 1,0,none⟩) (some ⟨w2.heap.size + 1 + 1,0,none⟩) Pl.tref) => Minimal_any Pl.tref tref_valid _ _ 3 12 12 W rfl h)
 clear b3 hn3
 go_upto_region 4 with fail
 rw [← hW3]
 clear hW3
 go_wp2_with fail
 refine (MR.out _ T3.out).mono ?_
 rintro e w4 ⟨rfl,hb4⟩
 rw [Pl.vb_true tref_rem]
 have D4:=hide (D3.out.keep hb4)
 have R4:=hide (R3.out.below hb4)
 have B4:=hide (B3.out.trans (hb4.mono B3.out.size))
 clear hb4 c0 d0 d1 d2 d3 e0 e1 e2 e3 f0 f1 f2 f3
 obtain ⟨f0,f1,f2,f3⟩:=box3 R4.out
 go_wp2_with fail
 refine (MT.out _ D4.out).mono ?_
 rintro e w5 ⟨rfl,hb5⟩
 rw [Pl.vb_false (show ¬ remL dgT = [] by rw [dgT_rem]; exact List.cons_ne_nil _ _)]
 have B5:=hide (B4.out.trans (hb5.mono B4.out.size))
 clear hb5
 go_wp2
 go_ret
 exact ⟨rfl,B5.out⟩
end Go.Proofs.YtghdiolnonejaaaGreatDoor
end
section
namespace Go.Proofs.YtghdiolnonejaaaGreatDoor
open Go.ChangeShapes Go.WideShapes Go.ChangeAt Go.RowKit Go.Deep
section
variable {H:Type} {enc:TypeId × Value → H} {P:Program} {w:World} {base:Nat} {spare:Nat → Bool} {held:Bool}
theorem post_of_below {f:Func} {s:ChangeSpec} {apart fresh handsOn again:Bool} {W W':World} {args:Array Value} {v:Value} {ds gs:List (DataW H)} {before pa pv:List MemPlace}
 (hW:DataW.Whole enc P f.params.toList s.vars apart W args.toList ds gs before)
 (hres:∀ (b:Nat) (sp:Nat → Bool) (hd:Bool),DataW.TrodAll enc P W' b sp hd f.resultTypes.toList (v.resultList f.resultTypes.size) (s.fn H (ds ++ gs)).results [])
 (hargs:∀ sp:Nat → Bool,(∀ p ∈ before,sp p.block = true) → DataW.TrodAll enc P W' 0 sp true f.params.toList args.toList (s.fn H (ds ++ gs)).args pa)
 (hvars:∀ sp:Nat → Bool,(∀ p ∈ before,sp p.block = true) → DataW.TrodVars enc P W' sp s.vars (s.fn H (ds ++ gs)).vars pv)
 (hps:before = pa ++ pv) (hb:Below W.heap.size W W')
 (hok:∀ (j:Nat) (t:TypeId) (r:Value),f.resultTypes[j]? = some t → (v.resultList f.resultTypes.size)[j]? = some r → Value.okWide P W' .any 0 t r) :
 s.post enc P f apart fresh handsOn again W args v W' := by
 have hlt:∀ p ∈ before,p.block < W.heap.size:=fun p hp => hW.lt p hp
 have hold:∀ p ∈ before,(fun b => decide (b < W.heap.size)) p.block = true:=fun p hp => by simpa using hlt p hp
 refine ⟨ds,gs,before,[],pa,pv,hW,hres _ _ _,hargs _ hold,hvars _ hold,World.keptBut_mono (fun p hp => ⟨hp,?_⟩) (hb.frame (· ∈ before)),fun _ => ?_⟩
 ·rw [hps,List.mem_append] at hp
  exact Or.inr hp
 ·obtain ⟨_,_,_,_,_,hz,hn⟩:=hW
  refine ⟨hok,_,_,([] ++ pa) ++ pv,⟨[] ++ pa,pv,trodAll_append (hargs _ (fun _ _ => rfl)) (hres _ _ _),hvars _ (fun _ _ => rfl),rfl,?_,?_⟩,?_⟩
  ·intro b off hp
   have hin:MemPlace.cell b off ∈ before:=by rw [hps]; simpa using hp
   rw [hb.frozen (hlt _ hin)]
   exact hz b off hin
  ·intro ha
   have:=hn ha
   rw [hps] at this
   simpa using this
  ·intro p hp _
   rw [hps]
   simpa using hp
end
end Go.Proofs.YtghdiolnonejaaaGreatDoor
end
