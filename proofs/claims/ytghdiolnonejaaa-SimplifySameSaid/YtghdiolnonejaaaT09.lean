/-
 The texts Lm, Ma, Ld, Mb, Mc, Rnm, Md.
-/
import Derived.Test.YtghdiolnonejaaaT06
set_option linter.unusedVariables false
set_option linter.unusedSimpArgs false
section
namespace Go.Proofs.Ytghdiolnonejaaa
open Go Go.RowKit
attribute [local go_sem ↓] Go.wp_at_zero Go.wp_at_succ
theorem rem_kinds {d:Pl.Dg} {k x y s:Int} {o:Bool} (h:(⟨k,x,y,s,o⟩:Mv) ∈ remL d):apC d ⟨k,x,y,s,o⟩ = 0 ∧ inR d.n ⟨k,x,y,s,o⟩ ∧ 0 ≤ x ∧ 0 ≤ y ∧ (k = 2 ∨ k = 4) := by
 obtain ⟨h1,h2⟩:=rem_ok h
 have hin:=(apC_zero h1).2.1
 refine ⟨h1,hin,?_,?_,h2⟩
 ·rcases h2 with h2 | h2
  ·have hk:k = 2:=h2
   subst hk
   have h3:0 ≤ x ∧ x < d.n ∧ y = 0 ∧ s = 0 ∧ o = false:=hin
   exact h3.1
  ·have hk:k = 4:=h2
   subst hk
   have h3:0 ≤ x ∧ x < y ∧ y < d.n ∧ s = 0 ∧ o = false:=hin
   exact h3.1
 ·rcases h2 with h2 | h2
  ·have hk:k = 2:=h2
   subst hk
   have h3:0 ≤ x ∧ x < d.n ∧ y = 0 ∧ s = 0 ∧ o = false:=hin
   omega
  ·have hk:k = 4:=h2
   subst hk
   have h3:0 ≤ x ∧ x < y ∧ y < d.n ∧ s = 0 ∧ o = false:=hin
   omega
theorem apply_rem (r:Pl.Dg) (hr:Pl.Valid r) (A B:Option Addr) (n cp cq m lp:Nat) (k x y s:Int) (o:Bool) (w:World) (hn:n = r.n) (hm:m = 4 * r.n) (hl:lp = r.lp) (hg:DgAt w A B r) (h:(⟨k,x,y,s,o⟩:Mv) ∈ remL r) :
 Calls Try.prog 23 #[.agg #[.slice A n cp,.slice B m cq,.int .i64 (lp:Int)],.agg #[.int .i64 k,.int .i64 x,.int .i64 y,.int .i64 s,.bool o]] w (ResC (apC r ⟨k,x,y,s,o⟩) (apD r ⟨k,x,y,s,o⟩) (apI r ⟨k,x,y,s,o⟩) w) := by
 subst hn
 subst hl
 obtain ⟨h1,hin,hx,hy,hk⟩:=rem_kinds h
 obtain ⟨a,rfl⟩:=Int.eq_ofNat_of_zero_le hx
 obtain ⟨b,rfl⟩:=Int.eq_ofNat_of_zero_le hy
 rcases hk with rfl | rfl
 ·have e:apC r ⟨2,(a:Int),(b:Int),s,o⟩ = uncC r a:=by rw [apC_in (show (1:Int) ≤ 2 ∧ (2:Int) ≤ 5 by decide) hin]; rfl
  rw [e]
  exact apply_2 r hr A B cp cq m a b s o w hm hg hin
 ·have e:apC r ⟨4,(a:Int),(b:Int),s,o⟩ = unpC r a b:=by rw [apC_in (show (1:Int) ≤ 4 ∧ (4:Int) ≤ 5 by decide) hin]; rfl
  rw [e]
  exact apply_4 r hr A B cp cq m a b s o w hm hg hin
theorem Removing_n (r:Pl.Dg) (hr:Pl.Valid r) (A B:Option Addr) (n cp cq m lp:Nat) (w:World) (hn:n = r.n) (hm:m = 4 * r.n) (hl:lp = r.lp) (hg:DgAt w A B r) :
 Calls Try.prog 41 #[.agg #[.slice A n cp,.slice B m cq,.int .i64 (lp:Int)]] w fun e w' => ∃ v,e = .returned v ∧ MovesIn w.heap.size w' v (remL r) ∧ Below w.heap.size w w' := by
 subst hn
 subst hl
 exact Removing_any r hr A B cp cq m w hm hg
end Go.Proofs.Ytghdiolnonejaaa
end
section
namespace Go.Proofs.Ytghdiolnonejaaa
open Go Go.RowKit
attribute [local go_sem ↓] Go.wp_at_zero Go.wp_at_succ
structure BB (w W:World):Prop where
 b:Below w.heap.size w W
theorem BB.refl (w:World):BB w w := ⟨Below.refl _ _⟩
theorem sz_alloc (W:World) (o:Obj):W.heap.size + 1 = (W.alloc o).heap.size := by simp
def Ty (W:World) (g:Nat) (t:TypeId):Prop := ∃ vs,Row W g t vs
theorem Row.ty {W:World} {g:Nat} {t:TypeId} {vs:List Value} (h:Row W g t vs):Ty W g t := ⟨_,h⟩
theorem Ty.set {W:World} {g g':Nat} {t:TypeId} (h:Ty W g t) (o:Nat) (v:Value):Ty (W.setCell ⟨g',o,none⟩ v) g t := by
 obtain ⟨vs,h⟩:=h
 by_cases e:g = g'
 ·subst e; exact ⟨_,h.set o v⟩
 ·exact ⟨vs,h.other e v⟩
theorem Ty.alloc {W:World} {g:Nat} {t:TypeId} (h:Ty W g t) (o:Obj):Ty (W.alloc o) g t := let ⟨vs,h⟩:=h; ⟨vs,h.alloc o⟩
theorem row_new3 (W:World) (g:Nat) (a b c:Value) (h:g = W.heap.size):Row (W.alloc (.cells #[a,b,c] 24)) g 24 [a,b,c] := row_at (vs := [a,b,c]) h
theorem DgT.setT {W:World} {A B:Option Addr} {d:Pl.Dg} {g o:Nat} {t:TypeId} {v:Value} (h:DgT W A B d) (ht:Ty W g t) (hne:3 ≠ t):DgT (W.setCell ⟨g,o,none⟩ v) A B d := by
 obtain ⟨vs,hr⟩:=ht
 have hb:=hr
 unfold Row at hb
 have key:∀ {A:Option Addr} {n:Nat} {xs:List Value},RowT W 3 A n xs → RowT (W.setCell ⟨g,o,none⟩ v) 3 A n xs:=fun h =>
  ⟨h.1, fun hn => let ⟨b, o', cs', fr', e, hb', hc⟩ := h.2 hn; ⟨b, o', cs', fr', e, (Below.heap_setCell W ⟨g, o, none⟩ v b (fun he => by
    have he':b = g:=he
    rw [he',hb] at hb'
    injection hb' with hb'
    injection hb' with _ h4
    exact hne h4.symm)).trans hb',hc⟩⟩
 exact ⟨key h.s,key h.m⟩
theorem DgT.al {W:World} {A B:Option Addr} {d:Pl.Dg} (h:DgT W A B d) (o:Obj):DgT (W.alloc o) A B d := h.keep ((Below.refl _ _).alloc (Nat.le_refl _) o)
theorem BB.drew {w W:World} (h:BB w W):BB w W.drew := ⟨h.b.drew⟩
theorem BB.alloc {w W:World} (h:BB w W) (o:Obj):BB w (W.alloc o) := ⟨h.b.alloc h.b.size o⟩
theorem BB.set {w W:World} {g:Nat} (h:BB w W) (hg:w.heap.size ≤ g) (o:Nat) (v:Value):BB w (W.setCell ⟨g,o,none⟩ v) := ⟨h.b.setCell hg v⟩
theorem BB.below {w W W':World} (h:BB w W) (hb:Below W.heap.size W W'):BB w W' := ⟨h.b.trans (hb.mono h.b.size)⟩
structure DL (w:World) (A B:Option Addr) (d r:Pl.Dg) (l:List Mv) (v:Value) (A9 B9:Option Addr) (n c8 m c9 lp:Nat) (W:World):Prop where
 val:Pl.Valid r
 eqD:dnD d = dnD r
 eqM:dnM d = l ++ dnM r
 hn:n = r.n
 hm:m = 4 * r.n
 hl:lp = r.lp
 at_:Row W w.heap.size 24 [.slice A9 n c8,.slice B9 m c9,.int .i64 (lp:Int)]
 res:Row W (w.heap.size + 1) 24 [.slice none 0 0,.slice none 0 0,.int .i64 0]
 t:DgT W A9 B9 r ∨ (A9 = A ∧ B9 = B ∧ r = d)
 own:W.ownsRow (w.heap.size + 1 + 1) 37 5 v l.length (mvs l)
 len:l.length + r.n ≤ d.n
 bel:Below w.heap.size w W
section
variable {w W W':World} {A B:Option Addr} {d r:Pl.Dg} {l:List Mv} {v:Value} {A9 B9:Option Addr} {n c8 m c9 lp:Nat}
theorem DL.below (h:DL w A B d r l v A9 B9 n c8 m c9 lp W) (hb:Below W.heap.size W W'):DL w A B d r l v A9 B9 n c8 m c9 lp W' :=
 ⟨h.val,h.eqD,h.eqM,h.hn,h.hm,h.hl,h.at_.below hb,h.res.below hb,h.t.imp (fun t => t.keep hb) id,own_below h.own hb,h.len,h.bel.trans (hb.mono h.bel.size)⟩
theorem DL.alloc (h:DL w A B d r l v A9 B9 n c8 m c9 lp W) (o:Obj):DL w A B d r l v A9 B9 n c8 m c9 lp (W.alloc o) := h.below ((Below.refl _ _).alloc (Nat.le_refl _) o)
theorem DL.dg (h:DL w A B d r l v A9 B9 n c8 m c9 lp W) (hg:DgAt w A B d):DgAt W A9 B9 r := by
 rcases h.t with t | ⟨h1,h2,h3⟩
 ·exact t.at
 ·rw [h1,h2,h3]; exact hg.keep h.bel
theorem DL.start (hd:Pl.Valid d) (hm:m = 4 * d.n):DL w A B d d [] (.slice none 0 0) A B d.n c8 m c9 d.lp ((w.alloc (.cells #[.slice A d.n c8,.slice B m c9,.int .i64 (d.lp:Int)] 24)).alloc (.cells #[.slice none 0 0,.slice none 0 0,.int .i64 0] 24)) :=
 ⟨hd,rfl,rfl,rfl,hm,rfl,(row_at (vs := [.slice A d.n c8,.slice B m c9,.int .i64 (d.lp:Int)]) rfl).alloc _,row_at (vs := [.slice none 0 0,.slice none 0 0,.int .i64 0]) (by simp),.inr ⟨rfl,rfl,rfl⟩,⟨rfl,.inl ⟨rfl,rfl⟩⟩,by simp,((Below.refl _ _).alloc (Nat.le_refl _) _).alloc (by simp) _⟩
end
def DnPost (A B:Option Addr) (d:Pl.Dg) (w:World) (e:Ending) (w':World):Prop := ∃ (A9 B9:Option Addr) (c8 c9:Nat) (v:Value),e = .returned (.tuple #[.agg #[.slice A9 (dnD d).n c8,.slice B9 (4 * (dnD d).n) c9,.int .i64 (dnD d).lp],v]) ∧ (DgT w' A9 B9 (dnD d) ∨ (A9 = A ∧ B9 = B ∧ dnD d = d)) ∧ MovesIn w.heap.size w' v (dnM d) ∧ Below w.heap.size w w'
theorem DL.post {w W:World} {A B:Option Addr} {d r:Pl.Dg} {l:List Mv} {v:Value} {A9 B9:Option Addr} {n c8 m c9 lp:Nat} (h:DL w A B d r l v A9 B9 n c8 m c9 lp W) (he:remL r = []) :
 DnPost A B d w (.returned (.tuple #[.agg #[.slice A9 n c8,.slice B9 m c9,.int .i64 (lp:Int)],v])) (((W.setCell ⟨w.heap.size + 1,0,none⟩ (.slice A9 n c8)).setCell ⟨w.heap.size + 1,1,none⟩ (.slice B9 m c9)).setCell ⟨w.heap.size + 1,2,none⟩ (.int .i64 (lp:Int))) := by
 have BB:=below3 h.bel (show w.heap.size ≤ w.heap.size + 1 by omega) (.slice A9 n c8) (.slice B9 m c9) (.int .i64 (lp:Int))
 have OO:=ownsRow_setCell_below (ownsRow_setCell_below (ownsRow_setCell_below h.own (a := ⟨w.heap.size + 1,0,none⟩) (by show w.heap.size + 1 < _; omega) (.slice A9 n c8)) (a := ⟨w.heap.size + 1,1,none⟩) (by show w.heap.size + 1 < _; omega) (.slice B9 m c9)) (a := ⟨w.heap.size + 1,2,none⟩) (by show w.heap.size + 1 < _; omega) (.int .i64 (lp:Int))
 have hs:=h.res.lt
 have e1:dnD d = r:=by rw [h.eqD,(dn_stop he).1]
 have e2:dnM d = l:=by rw [h.eqM,(dn_stop he).2,List.append_nil]
 have TT:DgT (((W.setCell ⟨w.heap.size + 1,0,none⟩ (.slice A9 n c8)).setCell ⟨w.heap.size + 1,1,none⟩ (.slice B9 m c9)).setCell ⟨w.heap.size + 1,2,none⟩ (.int .i64 (lp:Int))) A9 B9 (dnD d) ∨ (A9 = A ∧ B9 = B ∧ dnD d = d):=by
  rw [e1]
  exact h.t.imp (fun t => t.set3 h.res _ _ _) id
 unfold DnPost
 rw [e1,e2]
 rw [e1] at TT
 refine ⟨A9,B9,c8,c9,v,by rw [h.hn,h.hm,h.hl],TT,⟨w.heap.size + 1 + 1,by omega,by simp; omega,OO⟩,BB⟩
theorem first_mv {l:List Mv} {z:Mv} (h:l[0]? = some z):∃ t,l = z :: t := by
 cases l with
 | nil => cases h
 | cons a t => exact ⟨t,by rw [show a = z from Option.some.inj h]⟩
theorem DL.next {r d:Pl.Dg} {l:List Mv} {z:Mv} (hr:Pl.Valid r) (eqD:dnD d = dnD r) (eqM:dnM d = l ++ dnM r) (hl:l.length + r.n ≤ d.n) (h:(remL r)[0]? = some z) :
 Pl.Valid (apD r z) ∧ dnD d = dnD (apD r z) ∧ dnM d = (l ++ [z]) ++ dnM (apD r z) ∧ (l ++ [z]).length + (apD r z).n ≤ d.n ∧ (apD r z).n + 1 ≤ r.n := by
 obtain ⟨t,ht⟩:=first_mv h
 obtain ⟨e1,e2⟩:=dn_next hr ht
 have hz:z ∈ remL r:=by rw [ht]; exact List.mem_cons_self
 have hle:=rem_less hr hz
 refine ⟨(ap_ok hr (rem_ok hz).1).1,by rw [eqD,e1],by rw [eqM,e2]; simp,?_,hle⟩
 rw [List.length_append,List.length_singleton]
 omega
set_option maxRecDepth 100000 in
set_option maxHeartbeats 8000000 in
theorem descend_any (d:Pl.Dg) (hd:Pl.Valid d) (A B:Option Addr) (cp cq m:Nat) (w:World) (hm:m = 4 * d.n) (hg:DgAt w A B d) :
 Calls Try.prog 36 #[.agg #[.slice A d.n cp,.slice B m cq,.int .i64 d.lp]] w (DnPost A B d w) := by
 have HM:=hide hm
 have HG:=hide hg
 have hdn:=hd.wf.few
 have L0:=hide (DL.start (w := w) (A := A) (B := B) (c8 := cp) (c9 := cq) hd hm)
 clear hm hg
 obtain ⟨V,hV⟩:∃ V,V = (w.alloc (.cells #[.slice A d.n cp,.slice B m cq,.int .i64 (d.lp:Int)] 24)).alloc (.cells #[.slice none 0 0,.slice none 0 0,.int .i64 0] 24) := ⟨_,rfl⟩
 go_enter Try.func36,Try.ntmps36
 go_wp2
 rw [← hV] at L0 ⊢
 clear hV
 go_loopg [4,5,6,7] d.n (fun g s4 s5 s6 s7 wx => ∃ (r:Pl.Dg) (l:List Mv) (A9 B9:Option Addr) (n c8 m c9 lp:Nat),r.n = g ∧ DL w A B d r l s4 A9 B9 n c8 m c9 lp wx)
 case atStart => exact ⟨_,_,_,_,_,_,_,_,_,rfl,L0.out⟩
 case round =>
  clear L0
  obtain ⟨r,l,A9,B9,n,c8,m,c9,lp,hrg,hl⟩:=hrel
  have HKG:=hide hrg
  have K0:=hide hl
  have hln:=hl.len
  have hlp:=hl.val.wf.lp
  rw [← hl.hl] at hlp
  have hrn:=hl.val.wf.few
  rw [← hl.hn] at hrn
  have hlen:l.length ≤ 64:=by omega
  clear hl hrg
  obtain ⟨d0,d1,d2,d3⟩:=box3 K0.out.at_
  go_wp2_with fail
  refine (Removing_n r K0.out.val A9 B9 n c8 c9 m lp _ K0.out.hn K0.out.hm K0.out.hl (K0.out.dg HG.out)).mono ?_
  rintro e w3 ⟨v,rfl,hv,hb3⟩
  obtain ⟨A5,c5,rfl,hV⟩:=hv.at.mv
  have K3:=hide (K0.out.below hb3)
  have lch:=remL_le K0.out.val.wf.few
  obtain ⟨L,hL⟩:∃ L,L = remL r := ⟨_,rfl⟩
  rw [← hL] at hV lch ⊢
  obtain ⟨N5,hN5⟩:∃ n,n = L.length := ⟨_,rfl⟩
  rw [← hN5] at hV lch ⊢
  have HL:=hide hL
  have HN5:=hide hN5
  have HV:=hide hV
  have hw3:w.heap.size + 1 < w3.heap.size:=K3.out.res.lt
  clear hV hv hL hN5 hb3 d0 d1 d2 d3 K0 hln
  by_cases h0:N5 = 0
  ·have HE:=hide (show remL r = [] by rw [← HL.out]; exact List.eq_nil_of_length_eq_zero (by rw [← HN5.out]; exact h0))
   subst h0
   obtain ⟨e0,e1,e2,e3⟩:=box3 K3.out.at_
   obtain ⟨f0,f1,f2,f3⟩:=box3 K3.out.res
   obtain ⟨A7,c7,hs4⟩:=owns_slice K3.out.own
   subst hs4
   go_wp2
   have RR:=row3 K3.out.res rfl (.slice A9 n c8) (.slice B9 m c9) (.int .i64 (lp:Int))
   refine bodyPost_ret (v := .tuple #[.agg #[.slice A9 n c8,.slice B9 m c9,.int .i64 (lp:Int)],.slice A7 l.length c7]) ?_ rfl ?_
   ·obtain ⟨r0,r1,r2,r3⟩:=box3 RR
    simp [results,Try.results36,go_sem,r0,r1,r2]
   ·exact K3.out.post HE.out
  ·have hN0:0 < N5:=by omega
   have t0:((N5:Int) == 0) = false:=by rw [beq_eq_false_iff_ne]; omega
   have hN1:(0:Int) < (N5:Int):=by omega
   obtain ⟨g5,zk,zx,zy,zs,zo,rfl,hgl,hz,c0,c1,c2,c3,c4⟩:=HV.out.at_ hN0
   have HZ:=hide (show (remL r)[0]? = some ⟨zk,zx,zy,zs,zo⟩ by rw [← HL.out]; exact hz)
   have HIN:=hide (List.mem_of_getElem? HZ.out)
   have HOK:=hide (rem_ok HIN.out).1
   have HNX:=hide (DL.next K3.out.val K3.out.eqD K3.out.eqM K3.out.len HZ.out)
   simp only [Nat.zero_mul,Nat.zero_add] at c0 c1 c2 c3 c4
   obtain ⟨e0,e1,e2,e3⟩:=box3 K3.out.at_
   clear hz h0
   obtain ⟨r2,hr2⟩:∃ r2,r2 = apD r ⟨zk,zx,zy,zs,zo⟩:=⟨_,rfl⟩
   rw [← hr2] at HNX
   have HR2:=hide hr2
   obtain ⟨hv2,hd2,hm2,hl2,hlt2⟩:=HNX.out
   have HD2:=hide hd2
   have HMM2:=hide hm2
   have HL2:=hide hl2
   have HLT:=hide hlt2
   have HV2:=hide hv2
   have hr2n:=HV2.out.wf.few
   have hr2l:=HV2.out.wf.lp
   obtain ⟨N8,hN8⟩:∃ n,n = r2.n := ⟨_,rfl⟩
   obtain ⟨M8,hM8⟩:∃ n,n = 4 * r2.n := ⟨_,rfl⟩
   obtain ⟨L8,hL8⟩:∃ n,n = r2.lp := ⟨_,rfl⟩
   rw [← hN8] at hr2n
   rw [← hL8] at hr2l
   have HN8:=hide hN8
   have HM8:=hide hM8
   have HL8:=hide hL8
   have AR:=hide (fun (W:World) (hW:DgAt W A9 B9 r) => (apply_rem r K3.out.val A9 B9 n c8 c9 m lp zk zx zy zs zo W K3.out.hn K3.out.hm K3.out.hl hW HIN.out).mono (R' := fun e w' => ∃ (A8 B8:Option Addr) (b8 b9:Nat) (k9 x9 y9 s9:Int) (o9:Bool),e = .returned (.tuple #[.agg #[.slice A8 N8 b8,.slice B8 M8 b9,.int .i64 (L8:Int)],.agg #[.int .i64 k9,.int .i64 x9,.int .i64 y9,.int .i64 s9,.bool o9],.int .i64 0]) ∧ DgT w' A8 B8 r2 ∧ Below W.heap.size W w') (fun e w' hres => by
    obtain ⟨A8,B8,b8,b9,k9,x9,y9,s9,o9,hmv,he,hT⟩:=(hres.2.1 HOK.out).split
    rw [← HR2.out] at he hT
    rw [← HM8.out,← HN8.out,← HL8.out] at he
    exact ⟨A8,B8,b8,b9,k9,x9,y9,s9,o9,he,hT,hres.2.2⟩))
   have D3:=hide (K3.out.dg HG.out)
   have hrr:w.heap.size < w3.heap.size:=by omega
   clear hr2 hv2 hd2 hm2 hl2 hlt2 hN8 hM8 hL8 HNX
   have HALL:=hide (fun (W:World) (hb:BB w3 W) => (show (W.cell? ⟨w.heap.size,0,none⟩ = some (.slice A9 n c8) ∧ W.cell? ⟨w.heap.size,1,none⟩ = some (.slice B9 m c9) ∧ W.cell? ⟨w.heap.size,2,none⟩ = some (.int .i64 (lp:Int)) ∧ W.cell? ⟨g5,0,none⟩ = some (.int .i64 zk) ∧ W.cell? ⟨g5,1,none⟩ = some (.int .i64 zx) ∧ W.cell? ⟨g5,2,none⟩ = some (.int .i64 zy) ∧ W.cell? ⟨g5,3,none⟩ = some (.int .i64 zs) ∧ W.cell? ⟨g5,4,none⟩ = some (.bool zo)) from
    ⟨cell_below e0 hb.b,cell_below e1 hb.b,cell_below e2 hb.b,cell_below c0 hb.b,cell_below c1 hb.b,cell_below c2 hb.b,cell_below c3 hb.b,cell_below c4 hb.b⟩))
   have HB3:=hide (BB.refl w3)
   go_upto_region 5 with fail
   go_cut [6,7,8] from 16 to 24 (fun s6 s7 s8 wx => s8 = .int .i64 0 ∧ ∃ (g6:Nat) (A8 B8:Option Addr) (b8 b9:Nat),s6 = .pointer (some ⟨g6,0,none⟩) ∧ Row wx g6 24 [.slice A8 N8 b8,.slice B8 M8 b9,.int .i64 (L8:Int)] ∧ w3.heap.size ≤ g6 ∧ DgT wx A8 B8 r2 ∧ BB w3 wx)
   case first =>
    go_region_held3 (fun W => W.cell? ⟨w.heap.size,0,none⟩ = some (.slice A9 n c8) ∧ W.cell? ⟨w.heap.size,1,none⟩ = some (.slice B9 m c9) ∧ W.cell? ⟨w.heap.size,2,none⟩ = some (.int .i64 (lp:Int)) ∧ W.cell? ⟨g5,0,none⟩ = some (.int .i64 zk) ∧ W.cell? ⟨g5,1,none⟩ = some (.int .i64 zx) ∧ W.cell? ⟨g5,2,none⟩ = some (.int .i64 zy) ∧ W.cell? ⟨g5,3,none⟩ = some (.int .i64 zs) ∧ W.cell? ⟨g5,4,none⟩ = some (.bool zo))
     ((refine HALL.out _ ?_; (repeat (first | (with_reducible assumption) | (with_reducible exact HB3.out) | (with_reducible refine BB.drew ?_) | (with_reducible refine BB.alloc ?_ _) | (with_reducible refine BB.set ?_ (by omega) _ _) | (with_reducible refine BB.below ?_ hb5)))))
     (first
       | (go_at_call 23
          refine Calls.mono (AR.out _ ?_) ?_
          ·refine D3.out.keep (BB.b ?_)
           repeat (first | (with_reducible assumption) | (with_reducible exact HB3.out) | (with_reducible refine BB.drew ?_) | (with_reducible refine BB.alloc ?_ _))
          rintro e w5 ⟨A8,B8,b8,b9,k9,x9,y9,s9,o9,rfl,hT,hb5⟩
          have hlt5:w3.heap.size ≤ w5.heap.size:=by have := hb5.size; simp at this; omega
          (try (have r60 := Row.below (g := w3.heap.size) (t := 24) (vs := [.slice none 0 0,.slice none 0 0,.int .i64 0]) (by first | exact row_at rfl | exact row_at (sz_alloc _ _) | exact (row_at rfl).alloc _) hb5; obtain ⟨q0,q1,q2,q3⟩:=box3 r60; have hl60 := r60.lt; have ty60 := r60.ty; have hrow60 := fun a b c => row3 r60 rfl a b c))
          (try (have r61 := Row.below (g := w3.heap.size + 1) (t := 24) (vs := [.slice none 0 0,.slice none 0 0,.int .i64 0]) (by first | exact row_at rfl | exact row_at (sz_alloc _ _) | exact (row_at rfl).alloc _) hb5; obtain ⟨q0,q1,q2,q3⟩:=box3 r61; have hl61 := r61.lt; have ty61 := r61.ty; have hrow61 := fun a b c => row3 r61 rfl a b c))
          (try (have r70 := Row.below (g := w3.heap.size) (t := 37) (vs := [.int .i64 0,.int .i64 0,.int .i64 0,.int .i64 0,.bool false]) (by first | exact row_at rfl | exact row_at (sz_alloc _ _) | exact (row_at rfl).alloc _) hb5; obtain ⟨p0,p1,p2,p3,p4,p5⟩:=box5 r70; have hl70 := r70.lt; have ty70 := r70.ty))
          (try (have r71 := Row.below (g := w3.heap.size + 1) (t := 37) (vs := [.int .i64 0,.int .i64 0,.int .i64 0,.int .i64 0,.bool false]) (by first | exact row_at rfl | exact row_at (sz_alloc _ _) | exact (row_at rfl).alloc _) hb5; obtain ⟨p0,p1,p2,p3,p4,p5⟩:=box5 r71; have hl71 := r71.lt; have ty71 := r71.ty))
          (try (have n60:¬ w3.heap.size = w5.heap.size := (by omega); have n61:¬ w5.heap.size = w3.heap.size := (by omega)))))
    all_goals (go_wp2_with fail; go_meet)
    all_goals (
     refine ⟨rfl,_,A8,B8,b8,b9,rfl,?_,?_,?_,?_⟩
     ·repeat (first
       | (with_reducible exact hrow60 _ _ _)
       | (with_reducible exact hrow61 _ _ _)
       | (with_reducible refine row_new3 _ _ _ _ _ ?_)
       | (with_reducible refine Row.alloc ?_ _)
       | (with_reducible refine Row.other ?_ (by first | exact Nat.ne_of_lt (Nat.lt_succ_self _) | exact Nat.ne_of_gt (Nat.lt_succ_self _) | (simp <;> omega)) _))
      all_goals simp
     ·omega
     ·repeat (first
       | (with_reducible exact hT)
       | (with_reducible refine DgT.al ?_ _)
       | (with_reducible refine DgT.setT (t := 24) ?_ (by (repeat (first | (with_reducible refine Ty.set ?_ _ _) | (with_reducible refine Ty.alloc ?_ _))); with_reducible assumption) (by decide))
       | (with_reducible refine DgT.setT (t := 37) ?_ (by (repeat (first | (with_reducible refine Ty.set ?_ _ _) | (with_reducible refine Ty.alloc ?_ _))); with_reducible assumption) (by decide)))
     ·repeat (first
       | (with_reducible exact HB3.out)
       | (with_reducible refine BB.drew ?_)
       | (with_reducible refine BB.alloc ?_ _)
       | (with_reducible refine BB.set ?_ (by omega) _ _)
       | (with_reducible refine BB.below ?_ hb5)))
   case rest =>
    obtain ⟨rfl,g6,A8,B8,b8,b9,rfl,hr6,hg6,hT,hbb⟩:=hcut
    obtain ⟨w6,hw6⟩:∃ W,W = wc := ⟨_,rfl⟩
    rw [← hw6] at hr6 hT hbb ⊢
    have K6:=hide (K3.out.below hbb.b)
    have D6:=hide hr6
    have T6:=hide hT
    have V6:=hide (HV.out.keep hbb.b)
    have hw60:w.heap.size + 1 < w6.heap.size:=K6.out.res.lt
    have hg60:w.heap.size + 1 < g6:=by omega
    clear hw6 hr6 hT hbb e0 e1 e2 e3 c0 c1 c2 c3 c4 HALL HB3 AR D3 K3 HV
    obtain ⟨n0,hn0,hz0,hz1,hz2⟩:=info_parts moveInfo
    obtain ⟨g5',yk,yx,yy,ys,yo,e5',hgl',hz',c0,c1,c2,c3,c4⟩:=V6.out.at_ hN0
    injection e5' with e5'
    injection e5' with e5' _ _
    subst e5'
    rw [HL.out,HZ.out] at hz'
    obtain ⟨rfl,rfl,rfl,rfl,rfl⟩:zk = yk ∧ zx = yx ∧ zy = yy ∧ zs = ys ∧ zo = yo := by simpa using hz'
    simp only [Nat.zero_mul,Nat.zero_add] at c0 c1 c2 c3 c4
    obtain ⟨A7,c7,hs4⟩:=owns_slice K6.out.own
    subst hs4
    have K7:=hide (K6.out.alloc (.cells (Mv.cells ⟨zk,zx,zy,zs,zo⟩).toArray 37))
    have A1:∀ u ∈ Mv.cells ⟨zk,zx,zy,zs,zo⟩,u.oneCell' = true:=by simp [Mv.cells,Value.oneCell']
    have A2:l.length + 1 ≤ maxLen:=by unfold maxLen; omega
    have A3:(l.length + 1) * 40 ≤ 140737488355328:=by omega
    have A4:w.heap.size + 1 + 1 ≤ (w6.alloc (.cells (Mv.cells ⟨zk,zx,zy,zs,zo⟩).toArray 37)).heap.size:=by simp; omega
    have A6:=hide (five_news w6 w6.heap.size rfl ⟨zk,zx,zy,zs,zo⟩)
    clear hz' V6
    go_wp2_with (at_builtin; refine wpList_append_lies _ (by rfl) _ _ 27 (by rfl) (w.heap.size + 1 + 1) 37 n0 (.agg #[.int .i64 0,.int .i64 0,.int .i64 0,.int .i64 0,.bool false]) 5 40 Try.underlying27 hn0 hz0 hz1 hz2 rfl (by omega) _ l.length (mvs l) (by rfl) K7.out.own ⟨w6.heap.size,0,none⟩ 1 1 (Mv.cells ⟨zk,zx,zy,zs,zo⟩) (by rfl) (by rfl) A6.out A1 (by omega) A2 A3 A4 (w6.heap.size + 1) (by simp) ?_; intro g2 c2 w7 own2 grow2 at2 lt2; have OWN2 := hide own2; have AT7 := hide (K7.out.at_.grown grow2 (own_row_neM K7.out.own K7.out.at_ (by decide))); have RS7 := hide (K7.out.res.grown grow2 (own_row_neM K7.out.own K7.out.res (by decide))); have D7 := hide ((D6.out.alloc (.cells (Mv.cells ⟨zk,zx,zy,zs,zo⟩).toArray 37)).grown grow2 (own_row_neM K7.out.own (D6.out.alloc (.cells (Mv.cells ⟨zk,zx,zy,zs,zo⟩).toArray 37)) (by decide))); have T7 := hide ((T6.out.keep ((Below.refl _ _).alloc (Nat.le_refl _) (.cells (Mv.cells ⟨zk,zx,zy,zs,zo⟩).toArray 37))).grownM K7.out.own grow2); have B7 := hide (K7.out.bel.grown grow2 K7.out.bel.size (fun k hk => by have := (K7.out.own.lt k hk).1; omega)); clear own2 grow2 at2; obtain ⟨e0,e1,e2,e3⟩:=box3 AT7.out; obtain ⟨f0,f1,f2,f3⟩:=box3 D7.out)
    go_roundg r2.n
    case measure => have := HLT.out; have := HKG.out; omega
    case rel =>
     refine ⟨r2,l ++ [⟨zk,zx,zy,zs,zo⟩],A8,B8,N8,b8,M8,b9,L8,rfl,HV2.out,HD2.out,HMM2.out,HN8.out,HM8.out,HL8.out,row3 AT7.out rfl _ _ _,?_,.inl (T7.out.set3 AT7.out _ _ _),?_,HL2.out,below3 B7.out (Nat.le_refl _) _ _ _⟩
     ·exact ((RS7.out.other (by show _ ≠ w.heap.size; omega) _).other (by show _ ≠ w.heap.size; omega) _).other (by show _ ≠ w.heap.size; omega) _
     ·rw [mvs_app,List.length_append]
      exact ownsRow_setCell_below (ownsRow_setCell_below (ownsRow_setCell_below OWN2.out (by show w.heap.size < _; omega) _) (by show w.heap.size < _; omega) _) (by show w.heap.size < _; omega) _
end Go.Proofs.Ytghdiolnonejaaa
end
section
namespace Go.Proofs.Ytghdiolnonejaaa
open Go Go.RowKit
attribute [local go_sem ↓] Go.wp_at_zero Go.wp_at_succ
structure AR (w:World) (dv:List Value) (b:Nat) (v:Value) (ms:List Mv) (R:Option Addr) (nr:Nat) (rs:List Mv) (W:World):Prop where
 al:AL w dv b v ms W
 rv:MovesV W R nr rs
 ne:∀ g,0 < nr → R = some ⟨g,0,none⟩ → some g ≠ v.ownBlock
section
variable {w W W':World} {dv:List Value} {b nr:Nat} {v v':Value} {ms ms' rs:List Mv} {R:Option Addr}
end
end Go.Proofs.Ytghdiolnonejaaa
end
section
namespace Go.Proofs.Ytghdiolnonejaaa
open Go Go.RowKit
attribute [local go_sem ↓] Go.wp_at_zero Go.wp_at_succ
theorem dn_valid {d:Pl.Dg} (hd:Pl.Valid d):Pl.Valid (dnD d) := by
 suffices h:∀ n,∀ d:Pl.Dg,Pl.Valid d → d.n ≤ n → Pl.Valid (dnD d) from h d.n d hd (Nat.le_refl _)
 intro n
 induction n with
 | zero =>
   intro d hd h0
   rw [(dn_stop (rem_flat (by omega))).1]; exact hd
 | succ n ih =>
   intro d hd hn
   cases hr:remL d with
   | nil => rw [(dn_stop hr).1]; exact hd
   | cons z l =>
     have hz:z ∈ remL d:=by rw [hr]; exact List.mem_cons_self
     have hl:=rem_less hd hz
     rw [(dn_next hd hr).1]
     exact ih _ (ap_ok hd (rem_ok hz).1).1 (by omega)
def DownPost (r:Pl.Dg) (l:List Mv) (w:World) (e:Ending) (w':World):Prop := ∃ (A9 B9:Option Addr) (c8 c9:Nat) (v:Value),e = .returned (.tuple #[.agg #[.slice A9 r.n c8,.slice B9 (4 * r.n) c9,.int .i64 r.lp],v,.int .i64 0]) ∧ DgAt w' A9 B9 r ∧ MovesIn w.heap.size w' v l ∧ Below w.heap.size w w'
theorem descend_n (d:Pl.Dg) (hd:Pl.Valid d) (A B:Option Addr) (n cp cq m lp:Nat) (w:World) (hn:n = d.n) (hl:lp = d.lp) (hm:m = 4 * d.n) (hg:DgAt w A B d) :
 Calls Try.prog 36 #[.agg #[.slice A n cp,.slice B m cq,.int .i64 (lp:Int)]] w (DnPost A B d w) := by
 subst hn
 subst hl
 exact descend_any d hd A B cp cq m w hm hg
set_option maxRecDepth 100000 in
set_option maxHeartbeats 4000000 in
theorem Down_any (d:Pl.Dg) (hd:Pl.Valid d) (A B:Option Addr) (cp cq m:Nat) (w:World) (hm:m = 4 * d.n) (hg:DgAt w A B d) :
 Calls Try.prog 12 #[.agg #[.slice A d.n cp,.slice B m cq,.int .i64 d.lp]] w (DownPost (dnD d) (dnM d) w) := by
 have HM:=hide hm
 have HG:=hide hg
 have hdn:=hd.wf.few
 clear hm hg
 have X0:=hide ((row_at (W := w) (g := w.heap.size) (t := 24) (vs := [.slice A d.n cp,.slice B m cq,.int .i64 (d.lp:Int)]) rfl).alloc (.cells #[.slice none 0 0,.slice none 0 0,.int .i64 0] 24))
 have S0:=hide (row_at (W := w.alloc (.cells #[.slice A d.n cp,.slice B m cq,.int .i64 (d.lp:Int)] 24)) (g := w.heap.size + 1) (t := 24) (vs := [.slice none 0 0,.slice none 0 0,.int .i64 0]) (by simp))
 have B0:=hide (show Below w.heap.size w ((w.alloc (.cells #[.slice A d.n cp,.slice B m cq,.int .i64 (d.lp:Int)] 24)).alloc (.cells #[.slice none 0 0,.slice none 0 0,.int .i64 0] 24)) from ((Below.refl _ _).alloc (Nat.le_refl _) _).alloc (by simp) _)
 go_enter Try.func12,Try.ntmps12
 go_wp2_with fail
 refine (valid_yes d hd A B cp cq m _ HM.out (HG.out.keep B0.out)).mono ?_
 rintro e w1 ⟨rfl,hb1⟩
 have X1:=hide (X0.out.below hb1)
 have S1:=hide (S0.out.below hb1)
 have B1:=hide (B0.out.trans (hb1.mono B0.out.size))
 clear hb1 X0 S0 B0
 obtain ⟨d0,d1,d2,d3⟩:=box3 X1.out
 go_wp2_with fail
 refine (clone_all d A B cp cq m _ HM.out (HG.out.keep B1.out) hdn).mono ?_
 rintro e w2 ⟨A9,B9,c8,c9,rfl,hT,hb2⟩
 have S2:=hide (S1.out.below hb2)
 have B2:=hide (B1.out.trans (hb2.mono B1.out.size))
 have HT:=hide hT
 clear hb2 X1 S1 B1 hT d0 d1 d2 d3
 go_wp2_with fail
 refine (descend_n d hd A9 B9 d.n c8 c9 m d.lp _ rfl rfl HM.out HT.out.at).mono ?_
 rintro e w3 ⟨A8,B8,b8,b9,v,rfl,hg8,hv8,hb3⟩
 have hs2:=S2.out.lt
 have hT8:DgT w3 A8 B8 (dnD d):=by
  rcases hg8 with h | ⟨h1,h2,h3⟩
  ·exact h
  ·rw [h1,h2,h3]; exact HT.out.keep hb3
 have hv:=dn_valid hd
 have hrn:=hv.wf.few
 have hrl:=hv.wf.lp
 obtain ⟨N8,hN8⟩:∃ n,n = (dnD d).n := ⟨_,rfl⟩
 obtain ⟨M8,hM8⟩:∃ n,n = 4 * (dnD d).n := ⟨_,rfl⟩
 obtain ⟨L8,hL8⟩:∃ n,n = (dnD d).lp := ⟨_,rfl⟩
 rw [← hM8,← hN8,← hL8]
 rw [← hN8] at hrn
 rw [← hL8] at hrl
 have HN8:=hide hN8
 have HM8:=hide hM8
 have HL8:=hide hL8
 have b4:=(Below.refl w3.heap.size w3).alloc (Nat.le_refl _) (.cells #[.slice A8 N8 b8,.slice B8 M8 b9,.int .i64 (L8:Int)] 24)
 have S3:=hide ((S2.out.below hb3).below b4)
 have R3:=hide (row_at (W := w3) (g := w3.heap.size) (t := 24) (vs := [.slice A8 N8 b8,.slice B8 M8 b9,.int .i64 (L8:Int)]) rfl)
 have T3:=hide hT8
 have B3:=hide (B2.out.trans (hb3.mono B2.out.size))
 obtain ⟨b,hb1,hb2,own⟩:=hv8
 obtain ⟨A7,c7,hs7⟩:=owns_slice own
 subst hs7
 have OW:=hide own
 have S3':=hide (S2.out.below hb3)
 have hw3:w.heap.size + 1 < w3.heap.size:=(S2.out.below hb3).lt
 have hw2:w.heap.size + 1 < b:=by omega
 clear hb3 own hg8 hT8 hN8 hM8 hL8 b4 HT S2 B2 hv
 obtain ⟨e0,e1,e2,e3⟩:=box3 R3.out
 obtain ⟨f0,f1,f2,f3⟩:=box3 S3'.out
 go_wp2
 have RR:=row3 S3'.out rfl (.slice A8 N8 b8) (.slice B8 M8 b9) (.int .i64 (L8:Int))
 have BB:=below3 B3.out (show w.heap.size ≤ w.heap.size + 1 by omega) (.slice A8 N8 b8) (.slice B8 M8 b9) (.int .i64 (L8:Int))
 have OO:=ownsRow_setCell_below (ownsRow_setCell_below (ownsRow_setCell_below OW.out (a := ⟨w.heap.size + 1,0,none⟩) (by show w.heap.size + 1 < _; omega) (.slice A8 N8 b8)) (a := ⟨w.heap.size + 1,1,none⟩) (by show w.heap.size + 1 < _; omega) (.slice B8 M8 b9)) (a := ⟨w.heap.size + 1,2,none⟩) (by show w.heap.size + 1 < _; omega) (.int .i64 (L8:Int))
 have TT:=T3.out.set3 S3'.out (.slice A8 N8 b8) (.slice B8 M8 b9) (.int .i64 (L8:Int))
 refine bodyPost_ret (v := .tuple #[.agg #[.slice A8 N8 b8,.slice B8 M8 b9,.int .i64 (L8:Int)],.slice A7 (dnM d).length c7,.int .i64 0]) ?_ rfl ?_
 ·obtain ⟨r0,r1,r2,r3⟩:=box3 (RR.alloc (.cells #[.slice A8 N8 b8,.slice B8 M8 b9,.int .i64 (L8:Int)] 24))
  simp [results,Try.results12,go_sem,r0,r1,r2]
 ·refine ⟨A8,B8,b8,b9,_,by rw [HN8.out,HM8.out,HL8.out],(TT.al _).at,⟨b,by omega,by simp; omega,OO.alloc _⟩,BB.alloc BB.size _⟩
set_option maxRecDepth 100000 in
set_option maxHeartbeats 4000000 in
theorem Minimal_any (d:Pl.Dg) (hd:Pl.Valid d) (A B:Option Addr) (cp cq m:Nat) (w:World) (hm:m = 4 * d.n) (hg:DgAt w A B d) :
 Calls Try.prog 15 #[.agg #[.slice A d.n cp,.slice B m cq,.int .i64 d.lp]] w fun e w' => e = .returned (.bool (Pl.vb (remL d = []))) ∧ Below w.heap.size w w' := by
 have HM:=hide hm
 have HG:=hide hg
 have hdn:=hd.wf.few
 clear hm hg
 have X0:=hide (row_at (W := w) (g := w.heap.size) (t := 24) (vs := [.slice A d.n cp,.slice B m cq,.int .i64 (d.lp:Int)]) rfl)
 have B0:=hide (show Below w.heap.size w (w.alloc (.cells #[.slice A d.n cp,.slice B m cq,.int .i64 (d.lp:Int)] 24)) from (Below.refl _ _).alloc (Nat.le_refl _) _)
 go_enter Try.func15,Try.ntmps15
 go_wp2_with fail
 refine (valid_yes d hd A B cp cq m _ HM.out (HG.out.keep B0.out)).mono ?_
 rintro e w1 ⟨rfl,hb1⟩
 have X1:=hide (X0.out.below hb1)
 have B1:=hide (B0.out.trans (hb1.mono B0.out.size))
 clear hb1 X0 B0
 obtain ⟨d0,d1,d2,d3⟩:=box3 X1.out
 go_wp2_with fail
 refine (Removing_any d hd A B cp cq m _ HM.out (HG.out.keep B1.out)).mono ?_
 rintro e w2 ⟨v,rfl,hv,hb2⟩
 have B2:=hide (B1.out.trans (hb2.mono B1.out.size))
 obtain ⟨A5,c5,rfl,_⟩:=hv.at.mv
 have lch:=remL_le hd.wf.few
 obtain ⟨N5,hN5⟩:∃ n,n = (remL d).length := ⟨_,rfl⟩
 rw [← hN5] at lch ⊢
 have HN5:=hide hN5
 clear hN5 hb2 hv d0 d1 d2 d3
 by_cases h0:N5 = 0
 ·have E:=hide (show Pl.vb (remL d = []) = true from Pl.vb_true (List.eq_nil_of_length_eq_zero (by rw [← HN5.out]; exact h0)))
  subst h0
  go_wp2
  go_ret
  exact ⟨by rw [E.out]; rfl,B2.out⟩
 ·have E:=hide (show Pl.vb (remL d = []) = false from Pl.vb_false (fun h => h0 (by rw [HN5.out,h]; rfl)))
  have t0:((N5:Int) == 0) = false:=by rw [beq_eq_false_iff_ne]; omega
  clear h0
  go_wp2
  go_ret
  exact ⟨by rw [E.out]; rfl,B2.out⟩
end Go.Proofs.Ytghdiolnonejaaa
end
section
namespace Go.Proofs.Ytghdiolnonejaaa
open Go Go.RowKit
attribute [local go_sem ↓] Go.wp_at_zero Go.wp_at_succ
set_option maxHeartbeats 4000000 in
theorem few10_any (A B:Option Addr) (n q cp cq:Nat) (lp:Int) (w:World):Calls Try.prog 11 #[.agg #[.slice A n cp,.slice B q cq,.int .i64 lp]] w fun e w' => e = .returned (.bool (decide (n ≤ 9) && decide (q ≤ 45))) ∧ Below w.heap.size w w' := by
 have B0:=hide (show Below w.heap.size w (w.alloc (.cells #[.slice A n cp,.slice B q cq,.int .i64 lp] 24)) from (Below.refl _ _).alloc (Nat.le_refl _) _)
 by_cases h1:(n:Int) ≤ 9
 ·by_cases h2:(q:Int) ≤ 45
  ·have E:=hide (show (decide (n ≤ 9) && decide (q ≤ 45)) = true by rw [decide_eq_true (show n ≤ 9 by omega),decide_eq_true (show q ≤ 45 by omega)]; rfl)
   go_enter Try.func11,Try.ntmps11
   go_wp2
   go_ret
   exact ⟨by rw [E.out]; rfl,B0.out⟩
  ·have E:=hide (show (decide (n ≤ 9) && decide (q ≤ 45)) = false by rw [decide_eq_true (show n ≤ 9 by omega),decide_eq_false (show ¬ q ≤ 45 by omega)]; rfl)
   go_enter Try.func11,Try.ntmps11
   go_wp2
   go_ret
   exact ⟨by rw [E.out]; rfl,B0.out⟩
 ·have E:=hide (show (decide (n ≤ 9) && decide (q ≤ 45)) = false by rw [decide_eq_false (show ¬ n ≤ 9 by omega)]; rfl)
  go_enter Try.func11,Try.ntmps11
  go_wp2
  go_ret
  exact ⟨by rw [E.out]; rfl,B0.out⟩
theorem tref_valid:Pl.Valid Pl.tref := Pl.tref_ok
set_option maxRecDepth 100000 in
set_option maxHeartbeats 4000000 in
theorem awake10 (w:World):Calls Try.prog 10 #[] w fun e w' => e = .returned (.bool true) ∧ Below w.heap.size w w' := by
 obtain ⟨W1,hW1⟩:∃ W:World,W = ((w.alloc (.cells #[.int .i64 1,.int .i64 (-1)] 3)).alloc (.cells #[.int .i64 6,.int .i64 5,.int .i64 4,.int .i64 7,.int .i64 2,.int .i64 1,.int .i64 0,.int .i64 3] 3)).alloc (.cells #[.slice (some ⟨w.heap.size,0,none⟩) 2 2,.slice (some ⟨w.heap.size + 1,0,none⟩) 8 8,.int .i64 0] 24) := ⟨_,rfl⟩
 have I1:=hide (show IRow W1 w.heap.size [1,-1] by rw [hW1]; exact ((row_at (vs := [.int .i64 1,.int .i64 (-1)]) rfl).alloc _).alloc _)
 have I2:=hide (show IRow W1 (w.heap.size + 1) [6,5,4,7,2,1,0,3] by rw [hW1]; exact (row_at (vs := [.int .i64 6,.int .i64 5,.int .i64 4,.int .i64 7,.int .i64 2,.int .i64 1,.int .i64 0,.int .i64 3]) (by simp)).alloc _)
 have R1:=hide (show Row W1 (w.heap.size + 1 + 1) 24 [.slice (some ⟨w.heap.size,0,none⟩) 2 2,.slice (some ⟨w.heap.size + 1,0,none⟩) 8 8,.int .i64 0] by rw [hW1]; exact row_at (vs := [_,_,_]) (by simp))
 have B1:=hide (show Below w.heap.size w W1 by rw [hW1]; exact (((Below.refl _ _).alloc (Nat.le_refl _) _).alloc (by simp) _).alloc (by simp; omega) _)
 have D1:=hide (show DgAt W1 (some ⟨w.heap.size,0,none⟩) (some ⟨w.heap.size + 1,0,none⟩) dgT from ⟨I1.out.ints,I2.out.ints⟩)
 have DN:=hide (fun (W:World) (h:DgAt W (some ⟨w.heap.size,0,none⟩) (some ⟨w.heap.size + 1,0,none⟩) dgT) => Down_any dgT dgT_valid _ _ 2 8 8 W rfl h)
 have MT:=hide (fun (W:World) (h:DgAt W (some ⟨w.heap.size,0,none⟩) (some ⟨w.heap.size + 1,0,none⟩) dgT) => Minimal_any dgT dgT_valid _ _ 2 8 8 W rfl h)
 go_enter Try.func10,Try.ntmps10
 go_wp2_with fail
 rw [← hW1]
 clear hW1
 refine (DN.out _ D1.out).mono ?_
 rintro e w2 ⟨A8,B8,b8,b9,v8,he,hg8,hv8,hb2⟩
 rw [dgT_dn.1] at he
 rw [dgT_dn.2] at hv8
 have he':e = .returned (.tuple #[.agg #[.slice A8 0 b8,.slice B8 0 b9,.int .i64 2],v8,.int .i64 0]):=he
 subst he'
 obtain ⟨M8,m8,rfl,hM8⟩:=hv8.at.mv
 have hM8':MovesV w2 M8 1 [⟨4,0,1,0,false⟩]:=hM8
 obtain ⟨g8,zk,zx,zy,zs,zo,rfl,hgl,hz,c0,c1,c2,c3,c4⟩:=hM8'.at_ (j := 0) (by omega)
 obtain ⟨rfl,rfl,rfl,rfl,rfl⟩:(4:Int) = zk ∧ (0:Int) = zx ∧ (1:Int) = zy ∧ (0:Int) = zs ∧ false = zo := by simpa using hz
 simp only [Nat.zero_mul,Nat.zero_add] at c0
 have C0:=hide c0
 have D2:=hide (D1.out.keep hb2)
 have R2:=hide (R1.out.below hb2)
 have B2:=hide (B1.out.trans (hb2.mono B1.out.size))
 have hgl2:=hgl
 have hl2:=R2.out.lt
 clear he hg8 hv8 hM8 hM8' hz c0 c1 c2 c3 c4 hb2 DN D1 R1 B1 I1 I2
 obtain ⟨n3,hn3⟩:∃ n,n = w2.heap.size := ⟨_,rfl⟩
 obtain ⟨W3,hW3⟩:∃ W:World,W = (((w2.alloc (.cells #[.slice A8 0 b8,.slice B8 0 b9,.int .i64 2] 24)).alloc (.cells #[.int .i64 1,.int .i64 1,.int .i64 1] 3)).alloc (.cells #[.int .i64 9,.int .i64 4,.int .i64 7,.int .i64 10,.int .i64 1,.int .i64 8,.int .i64 11,.int .i64 2,.int .i64 5,.int .i64 0,.int .i64 3,.int .i64 6] 3)).alloc (.cells #[.slice (some ⟨w2.heap.size + 1,0,none⟩) 3 3,.slice (some ⟨w2.heap.size + 1 + 1,0,none⟩) 12 12,.int .i64 0] 24) := ⟨_,rfl⟩
 have b3:=((((Below.refl w2.heap.size w2).alloc (Nat.le_refl _) (.cells #[.slice A8 0 b8,.slice B8 0 b9,.int .i64 2] 24)).alloc (by simp) (.cells #[.int .i64 1,.int .i64 1,.int .i64 1] 3)).alloc (by simp; omega) (.cells #[.int .i64 9,.int .i64 4,.int .i64 7,.int .i64 10,.int .i64 1,.int .i64 8,.int .i64 11,.int .i64 2,.int .i64 5,.int .i64 0,.int .i64 3,.int .i64 6] 3)).alloc (by simp; omega) (.cells #[.slice (some ⟨w2.heap.size + 1,0,none⟩) 3 3,.slice (some ⟨w2.heap.size + 1 + 1,0,none⟩) 12 12,.int .i64 0] 24)
 rw [← hW3] at b3
 have X3:=hide (show Row W3 w2.heap.size 24 [.slice A8 0 b8,.slice B8 0 b9,.int .i64 2] by rw [hW3]; exact (((row_at (vs := [_,_,_]) rfl).alloc _).alloc _).alloc _)
 have I3:=hide (show IRow W3 (w2.heap.size + 1) [1,1,1] by rw [hW3]; exact ((row_at (vs := [.int .i64 1,.int .i64 1,.int .i64 1]) (by simp)).alloc _).alloc _)
 have I4:=hide (show IRow W3 (w2.heap.size + 1 + 1) [9,4,7,10,1,8,11,2,5,0,3,6] by rw [hW3]; exact (row_at (vs := [.int .i64 9,.int .i64 4,.int .i64 7,.int .i64 10,.int .i64 1,.int .i64 8,.int .i64 11,.int .i64 2,.int .i64 5,.int .i64 0,.int .i64 3,.int .i64 6]) (by simp)).alloc _)
 have T3:=hide (show DgAt W3 (some ⟨w2.heap.size + 1,0,none⟩) (some ⟨w2.heap.size + 1 + 1,0,none⟩) Pl.tref from ⟨I3.out.ints,I4.out.ints⟩)
 have D3:=hide (D2.out.keep b3)
 have R3:=hide (R2.out.below b3)
 have C3:=hide (cell_below C0.out b3)
 have B3:=hide (B2.out.trans (b3.mono B2.out.size))
 have Y3:=hide (show Row W3 (w2.heap.size + 1 + 1 + 1) 24 [.slice (some ⟨w2.heap.size + 1,0,none⟩) 3 3,.slice (some ⟨w2.heap.size + 1 + 1,0,none⟩) 12 12,.int .i64 0] by rw [hW3]; exact row_at (vs := [_,_,_]) (by simp))
 have c0:=C3.out
 obtain ⟨d0,d1,d2,d3⟩:=box3 X3.out
 obtain ⟨e0,e1,e2,e3⟩:=box3 Y3.out
 obtain ⟨f0,f1,f2,f3⟩:=box3 R3.out
 have MR:=hide (fun (W:World) (h:DgAt W (some ⟨w2.heap.size + 1,0,none⟩) (some ⟨w2.heap.size + 1 + 1,0,none⟩) Pl.tref) => Minimal_any Pl.tref tref_valid _ _ 3 12 12 W rfl h)
 clear b3 hn3
 go_upto_region 4 with fail
 rw [← hW3]
 clear hW3
 go_wp2_with fail
 refine (MR.out _ T3.out).mono ?_
 rintro e w4 ⟨rfl,hb4⟩
 rw [Pl.vb_true tref_rem]
 have D4:=hide (D3.out.keep hb4)
 have R4:=hide (R3.out.below hb4)
 have B4:=hide (B3.out.trans (hb4.mono B3.out.size))
 clear hb4 c0 d0 d1 d2 d3 e0 e1 e2 e3 f0 f1 f2 f3
 obtain ⟨f0,f1,f2,f3⟩:=box3 R4.out
 go_wp2_with fail
 refine (MT.out _ D4.out).mono ?_
 rintro e w5 ⟨rfl,hb5⟩
 rw [Pl.vb_false (show ¬ remL dgT = [] by rw [dgT_rem]; exact List.cons_ne_nil _ _)]
 have B5:=hide (B4.out.trans (hb5.mono B4.out.size))
 clear hb5
 go_wp2
 go_ret
 exact ⟨rfl,B5.out⟩
end Go.Proofs.Ytghdiolnonejaaa
end
section
namespace Go.Proofs.Ytghdiolnonejaaa.Pl
section
variable {a b:Dg} {σ:Nat → Nat}
theorem Iso.out (I:Iso a b σ) {h:Nat} (hh:h < 4 * a.n):Pl.out b (hf σ h) = Pl.out a h := by
 unfold Pl.out
 rw [hf_div,hf_mod,I.s _ (by omega)]
theorem Iso.onto (I:Iso a b σ) {g:Nat} (hg:g < 4 * a.n):∃ h,h < 4 * a.n ∧ hf σ h = g := by
 obtain ⟨p,hp,_,e⟩:=I.bij.back (show g / 4 < a.n by omega)
 have l:=I.bij.it (p - 1) (g / 4) (by omega)
 refine ⟨4 * it σ (p - 1) (g / 4) + g % 4,by omega,?_⟩
 rw [hf_at σ _ (by omega)]
 have:p = (p - 1) + 1:=by omega
 rw [this] at e
 have e2:σ (it σ (p - 1) (g / 4)) = g / 4:=e
 rw [e2]
 omega
theorem Iso.wf (I:Iso a b σ) (ha:Wf a) (hl:b.mt.length = 4 * b.n):Wf b := by
 have hn:=I.n
 have key:∀ P:Nat → Prop,(∀ h,h < 4 * a.n → P (hf σ h)) → ∀ g,g < 4 * b.n → P g:=fun P hP g hg => by
  obtain ⟨h,h1,h2⟩:=I.onto (g := g) (by omega)
  rw [← h2]
  exact hP h h1
 refine ⟨by rw [← hn]; exact ha.few,hl,by rw [← I.lp]; exact ha.lp,fun c hc => ?_,key _ fun h hh => ?_,key _ fun h hh => ?_,key _ fun h hh => ?_,key _ fun h hh => ?_⟩
 ·obtain ⟨h,h1,h2⟩:=I.onto (g := 4 * c) (by omega)
  have e:σ (h / 4) = c:=by rw [← hf_div σ h,h2]; omega
  rw [← e,I.s _ (by omega)]
  exact ha.sign _ (by omega)
 ·rw [I.m h hh,← hn]; exact I.hlt (ha.lt h hh)
 ·rw [I.m h hh]; exact fun e => ha.ne h hh (I.hinj (ha.lt h hh) hh e)
 ·rw [I.m h hh,I.m _ (ha.lt h hh),ha.inv h hh]
 ·rw [I.m h hh,I.out hh,I.out (ha.lt h hh)]; exact ha.way h hh
theorem Iso.valid (I:Iso a b σ) (ha:Valid a) (hl:b.mt.length = 4 * b.n):Valid b := by
 have hw:=I.wf ha.wf hl
 have hn:=I.n
 refine Valid.iff.2 ⟨hw,?_⟩
 have h0:=(Valid.iff.1 ha).2
 exact Gen.map (S := dart a) (T := dart b) (r := rot) (r' := rot) (a := a.m) (a' := b.m) (t := hf σ) (fun x hx => tn_lt hx) (fun x hx => ha.wf.lt x hx) (fun x hx => by unfold rot; rw [hf_tn]) (fun x hx => I.m x hx) (fun x y hx hy e => I.hinj hx hy e) (fun x hx => by show _ < 4 * b.n; rw [← hn]; exact I.hlt hx) (fun y hy => I.onto (by have:y < 4 * b.n := hy; omega)) h0
end
structure Nmb (n:Nat) (σ:Nat → Nat) (num:List Int) (k:Nat):Prop where
 len:num.length = n
 lt:∀ i,i < k → σ i < n
 is:∀ i,i < k → pv num (σ i) = i
 no:∀ c,c < n → pv num c = -1 ∨ ∃ i,i < k ∧ σ i = c
theorem Nmb.start (n:Nat) (σ:Nat → Nat):Nmb n σ (List.replicate n (-1)) 0 :=
 ⟨by simp,fun i h => absurd h (by omega),fun i h => absurd h (by omega),fun c hc => .inl (by unfold pv; rw [List.getD_eq_getElem?_getD,List.getElem?_replicate,if_pos hc]; rfl)⟩
theorem Nmb.step {n k:Nat} {σ:Nat → Nat} {num:List Int} (h:Nmb n σ num k) (hc:σ k < n) (hz:pv num (σ k) < 0):Nmb n σ (num.set (σ k) (k:Int)) (k + 1) := by
 have ne:∀ i,i < k → σ i ≠ σ k:=fun i hi e => by have := h.is i hi; rw [e] at this; omega
 refine ⟨by rw [List.length_set]; exact h.len,fun i hi => ?_,fun i hi => ?_,fun c hcn => ?_⟩
 ·by_cases e:i = k
  ·rw [e]; exact hc
  ·exact h.lt i (by omega)
 ·rw [pv_set (by rw [h.len]; exact hc)]
  by_cases e:i = k
  ·rw [e,if_pos rfl]
  ·rw [if_neg (ne i (by omega))]; exact h.is i (by omega)
 ·rw [pv_set (by rw [h.len]; exact hc)]
  by_cases e:c = σ k
  ·exact .inr ⟨k,by omega,e.symm⟩
  ·rw [if_neg e]
   rcases h.no c hcn with h1 | ⟨i,h1,h2⟩
   ·exact .inl h1
   ·exact .inr ⟨i,by omega,h2⟩
theorem Nmb.inj {n k:Nat} {σ:Nat → Nat} {num:List Int} (h:Nmb n σ num k) {i j:Nat} (hi:i < k) (hj:j < k) (e:σ i = σ j):i = j := by
 have h1:=h.is i hi
 have h2:=h.is j hj
 rw [e] at h1
 omega
theorem Nmb.all {n:Nat} {σ:Nat → Nat} {num:List Int} (h:Nmb n σ num n) {c:Nat} (hc:c < n):∃ i,i < n ∧ σ i = c ∧ pv num c = i := by
 have hb:Bij n (fun c => c < n) σ:=⟨fun _ h => h,fun i hi => h.lt i hi,fun i j hi hj e => h.inj hi hj e⟩
 obtain ⟨p,hp,_,e⟩:=hb.back hc
 have:p = (p - 1) + 1:=by omega
 rw [this] at e
 have e2:σ (it σ (p - 1) c) = c:=e
 have l:=hb.it (p - 1) c hc
 exact ⟨_,l,e2,by rw [← e2,h.is _ l,e2]⟩
def fil (n k:Nat):List Int := (List.range n).map (fun j => if j < k then -1 else 0)
theorem fil_len (n k:Nat):(fil n k).length = n := by unfold fil; simp
theorem fil_zero (n:Nat):fil n 0 = List.replicate n 0 := by
 unfold fil
 refine List.ext_getElem (by simp) fun i h1 h2 => by simp
theorem fil_done (n:Nat):fil n n = List.replicate n (-1) := by
 unfold fil
 refine List.ext_getElem (by simp) fun i h1 h2 => ?_
 simp only [List.getElem_map,List.getElem_range,List.getElem_replicate]
 rw [if_pos (by simpa using h1)]
theorem fil_set {n k:Nat} (hk:k < n):(fil n k).set k (-1) = fil n (k + 1) := by
 unfold fil
 refine List.ext_getElem (by simp) fun i h1 h2 => ?_
 rw [List.getElem_set]
 simp only [List.getElem_map,List.getElem_range]
 by_cases e:k = i
 ·subst e; rw [if_pos rfl,if_pos (by omega)]
 ·rw [if_neg e]
  by_cases e2:i < k
  ·rw [if_pos e2,if_pos (by omega)]
  ·rw [if_neg e2,if_neg (by omega)]
def rsg (d:Dg) (σ:Nat → Nat) (k:Nat):List Int := (List.range d.n).map (fun j => if j < k then d.s (σ j) else 0)
def rmt (d:Dg) (σ:Nat → Nat) (num:List Int) (k:Nat):List Int := (List.range (4 * d.n)).map (fun h => if h < k then 4 * pv num (d.m (hf σ h) / 4) + ((d.m (hf σ h) % 4:Nat):Int) else 0)
theorem rsg_len (d:Dg) (σ:Nat → Nat) (k:Nat):(rsg d σ k).length = d.n := by unfold rsg; simp
theorem rmt_len (d:Dg) (σ:Nat → Nat) (num:List Int) (k:Nat):(rmt d σ num k).length = 4 * d.n := by unfold rmt; simp
theorem rsg_zero (d:Dg) (σ:Nat → Nat):rsg d σ 0 = List.replicate d.n 0 := by
 unfold rsg
 refine List.ext_getElem (by simp) fun i h1 h2 => by simp
theorem rmt_zero (d:Dg) (σ:Nat → Nat) (num:List Int):rmt d σ num 0 = List.replicate (4 * d.n) 0 := by
 unfold rmt
 refine List.ext_getElem (by simp) fun i h1 h2 => by simp
theorem rsg_set {d:Dg} {σ:Nat → Nat} {k:Nat} (hk:k < d.n):(rsg d σ k).set k (d.s (σ k)) = rsg d σ (k + 1) := by
 unfold rsg
 refine List.ext_getElem (by simp) fun i h1 h2 => ?_
 rw [List.getElem_set]
 simp only [List.getElem_map,List.getElem_range]
 by_cases e:k = i
 ·subst e; rw [if_pos rfl,if_pos (by omega)]
 ·rw [if_neg e]
  by_cases e2:i < k
  ·rw [if_pos e2,if_pos (by omega)]
  ·rw [if_neg e2,if_neg (by omega)]
theorem rmt_set {d:Dg} {σ:Nat → Nat} {num:List Int} {k:Nat} (hk:k < 4 * d.n):(rmt d σ num k).set k (4 * pv num (d.m (hf σ k) / 4) + ((d.m (hf σ k) % 4:Nat):Int)) = rmt d σ num (k + 1) := by
 unfold rmt
 refine List.ext_getElem (by simp) fun i h1 h2 => ?_
 rw [List.getElem_set]
 simp only [List.getElem_map,List.getElem_range]
 by_cases e:k = i
 ·subst e; rw [if_pos rfl,if_pos (by omega)]
 ·rw [if_neg e]
  by_cases e2:i < k
  ·rw [if_pos e2,if_pos (by omega)]
  ·rw [if_neg e2,if_neg (by omega)]
def rnD (d:Dg) (σ:Nat → Nat) (num:List Int):Dg := ⟨rsg d σ d.n,(rmt d σ num (4 * d.n)).map Int.toNat,d.lp⟩
theorem rnD_n (d:Dg) (σ:Nat → Nat) (num:List Int):(rnD d σ num).n = d.n := rsg_len _ _ _
theorem rnD_s {d:Dg} {σ:Nat → Nat} {num:List Int} {i:Nat} (hi:i < d.n):(rnD d σ num).s i = d.s (σ i) := by
 show (rsg d σ d.n).getD i _ = _
 unfold rsg
 rw [List.getD_eq_getElem?_getD,List.getElem?_map,List.getElem?_range hi]
 show (if i < d.n then d.s (σ i) else 0) = _
 rw [if_pos hi]
theorem rnD_m {d:Dg} {σ:Nat → Nat} {num:List Int} {h:Nat} (hh:h < 4 * d.n):(rnD d σ num).m h = (4 * pv num (d.m (hf σ h) / 4) + ((d.m (hf σ h) % 4:Nat):Int)).toNat := by
 show ((rmt d σ num (4 * d.n)).map Int.toNat).getD h _ = _
 unfold rmt
 rw [List.getD_eq_getElem?_getD,List.getElem?_map,List.getElem?_map,List.getElem?_range hh]
 show (if h < 4 * d.n then _ else (0:Int)).toNat = _
 rw [if_pos hh]
theorem rnD_iso {d:Dg} (hd:Wf d) {σ:Nat → Nat} {num:List Int} (h:Nmb d.n σ num d.n):Iso (rnD d σ num) d σ := by
 have hn:=rnD_n d σ num
 have hl:∀ x,x < 4 * d.n → hf σ x < 4 * d.n:=fun x hx => by have := h.lt (x / 4) (by omega); unfold hf; omega
 refine ⟨hn,rfl,fun c hc => by rw [hn] at hc ⊢; exact h.lt c hc,fun c c' hc hc' e => h.inj (by rw [hn] at hc; exact hc) (by rw [hn] at hc'; exact hc') e,fun c hc => (rnD_s (by rw [hn] at hc; exact hc)).symm,fun x hx => ?_⟩
 rw [hn] at hx
 have hm:=hd.lt _ (hl x hx)
 obtain ⟨i,i1,i2,i3⟩:=h.all (c := d.m (hf σ x) / 4) (by omega)
 rw [rnD_m hx,i3]
 rw [show (4 * (i:Int) + ((d.m (hf σ x) % 4:Nat):Int)).toNat = 4 * i + d.m (hf σ x) % 4 by omega,hf_at σ i (by omega),i2]
 omega
theorem rnD_nats {d:Dg} (hd:Wf d) {σ:Nat → Nat} {num:List Int} (h:Nmb d.n σ num d.n):(rnD d σ num).mt.map (fun m:Nat => (m:Int)) = rmt d σ num (4 * d.n) := by
 show ((rmt d σ num (4 * d.n)).map Int.toNat).map (fun m:Nat => (m:Int)) = _
 have hl:∀ x,x < 4 * d.n → hf σ x < 4 * d.n:=fun x hx => by have := h.lt (x / 4) (by omega); unfold hf; omega
 rw [List.map_map]
 conv => rhs; rw [← List.map_id (rmt d σ num (4 * d.n))]
 refine List.map_congr_left fun z hz => ?_
 unfold rmt at hz
 obtain ⟨x,hx,rfl⟩:=List.mem_map.1 hz
 rw [List.mem_range] at hx
 rw [if_pos hx]
 obtain ⟨i,i1,i2,i3⟩:=h.all (c := d.m (hf σ x) / 4) (by have := hd.lt _ (hl x hx); omega)
 rw [i3]
 show ((4 * (i:Int) + ((d.m (hf σ x) % 4:Nat):Int)).toNat:Int) = 4 * (i:Int) + ((d.m (hf σ x) % 4:Nat):Int)
 omega
theorem rnD_valid {d:Dg} (hd:Valid d) {σ:Nat → Nat} {num:List Int} (h:Nmb d.n σ num d.n):Valid (rnD d σ num) := by
 have I:=rnD_iso hd.wf h
 -- back: from d to the new one
 have hx:∀ c,∃ q,c < d.n → q < d.n ∧ σ q = c:=fun c => by
  by_cases hc:c < d.n
  ·obtain ⟨i,i1,i2,_⟩:=h.all hc; exact ⟨i,fun _ => ⟨i1,i2⟩⟩
  ·exact ⟨0,fun h' => absurd h' hc⟩
 let τ := fun c => Classical.choose (hx c)
 have t1:∀ c,c < d.n → τ c < d.n ∧ σ (τ c) = c:=fun c hc => Classical.choose_spec (hx c) hc
 have hn:=rnD_n d σ num
 have hfl:∀ x,x < 4 * d.n → hf τ x < 4 * d.n:=fun x hx => by have := (t1 (x / 4) (by omega)).1; unfold hf; omega
 have hfs:∀ x,x < 4 * d.n → hf σ (hf τ x) = x:=fun x hx => by
  have:=(t1 (x / 4) (by omega)).2
  unfold hf; rw [show (4 * τ (x / 4) + x % 4) / 4 = τ (x / 4) by omega,this]; omega
 have J:Iso d (rnD d σ num) τ:=by
  refine ⟨hn.symm,rfl,fun c hc => (t1 c hc).1,fun c c' hc hc' e => by rw [← (t1 c hc).2,← (t1 c' hc').2,e],fun c hc => by rw [rnD_s (t1 c hc).1,(t1 c hc).2],fun x hx => ?_⟩
  have hm:=hd.wf.lt x hx
  rw [rnD_m (hfl x hx),hfs x hx]
  obtain ⟨i,i1,i2,i3⟩:=h.all (c := d.m x / 4) (by omega)
  have e:i = τ (d.m x / 4):=h.inj i1 (t1 _ (by omega)).1 (by rw [i2,(t1 _ (by omega)).2])
  rw [i3,e]
  show (4 * (τ (d.m x / 4):Int) + ((d.m x % 4:Nat):Int)).toNat = 4 * τ (d.m x / 4) + d.m x % 4
  omega
 refine J.valid hd ?_
 show ((rmt d σ num (4 * d.n)).map Int.toNat).length = _
 rw [List.length_map,rmt_len,hn]
end Go.Proofs.Ytghdiolnonejaaa.Pl
end
section
namespace Go.Proofs.Ytghdiolnonejaaa
open Go Go.RowKit
attribute [local go_sem ↓] Go.wp_at_zero Go.wp_at_succ
theorem IRow.T {w:World} {g n:Nat} {zs:List Int} (h:IRow w g zs) (hn:zs.length = n):RowT w 3 (some ⟨g,0,none⟩) n (zs.map (.int .i64)) := by
 subst hn
 refine ⟨by simp,fun _ => ⟨g,0,_,(0,0),rfl,h,fun j u hu => ?_⟩⟩
 rw [Nat.zero_add,List.getElem?_toArray]
 exact hu
def RnPost (d:Pl.Dg) (w:World) (e:Ending) (w':World):Prop :=
 ((∃ c:Int,c ≠ 0 ∧ e = .returned (.tuple #[.agg #[.slice none 0 0,.slice none 0 0,.int .i64 0],.int .i64 c])) ∨ ∃ (r:Pl.Dg) (σ:Nat → Nat) (A9 B9:Option Addr) (c8 c9:Nat),Pl.Valid r ∧ Pl.Iso r d σ ∧ e = .returned (.tuple #[.agg #[.slice A9 r.n c8,.slice B9 (4 * r.n) c9,.int .i64 r.lp],.int .i64 0]) ∧ DgT w' A9 B9 r) ∧ Below w.heap.size w w'
structure NQ (w:World) (dv:List Value) (gn:Nat) (num:List Int) (W:World):Prop where
 box:Row W w.heap.size 24 dv
 res:Row W (w.heap.size + 1) 24 [.slice none 0 0,.slice none 0 0,.int .i64 0]
 nr:IRow W gn num
 bel:Below w.heap.size w W
 lo:w.heap.size + 1 < gn
section
variable {w W W':World} {dv:List Value} {gn:Nat} {num:List Int}
theorem NQ.below (h:NQ w dv gn num W) (hb:Below W.heap.size W W'):NQ w dv gn num W' := ⟨h.box.below hb,h.res.below hb,Row.below h.nr hb,h.bel.trans (hb.mono h.bel.size),h.lo⟩
theorem NQ.setN (h:NQ w dv gn num W) (i:Nat) (v:Int):NQ w dv gn (num.set i v) (W.setCell ⟨gn,i,none⟩ (.int .i64 v)) := by
 have a:=h.lo
 exact ⟨h.box.other (by show _ ≠ gn; omega) _,h.res.other (by show _ ≠ gn; omega) _,h.nr.set i v,h.bel.setCell (by show _ ≤ gn; omega) _,h.lo⟩
end
theorem irow_new (W:World) (n g:Nat) (h:g = W.heap.size):IRow (W.alloc (.cells (Array.replicate n (Value.int .i64 0)) 3)) g (List.replicate n 0) := by subst h; exact IRow.made W n
theorem IRow.al {W:World} {g:Nat} {zs:List Int} (h:IRow W g zs) (o:Obj):IRow (W.alloc o) g zs := Row.alloc h o
theorem IRow.dr {W:World} {g:Nat} {zs:List Int} (h:IRow W g zs):IRow W.drew g zs := Row.drew h
structure RQ (w:World) (dv:List Value) (gn gr gs gm n:Nat) (lp:Int) (num ss ms:List Int) (W:World):Prop where
 q:NQ w dv gn num W
 r:Row W gr 24 [.slice (some ⟨gs,0,none⟩) n n,.slice (some ⟨gm,0,none⟩) (4 * n) (4 * n),.int .i64 lp]
 s:IRow W gs ss
 m:IRow W gm ms
 n1:gs ≠ gm
 n2:gr ≠ gs
 n3:gr ≠ gm
 l1:gn < gr
 l2:gn < gs
 l3:gn < gm
 lo:w.heap.size + 1 < gn
section
variable {w W W':World} {dv:List Value} {gn gr gs gm n:Nat} {lp:Int} {num ss ms:List Int}
theorem NQ.other (h:NQ w dv gn num W) (g:Nat) (hg:w.heap.size + 1 < g) (ne:gn ≠ g) (i:Nat) (v:Value):NQ w dv gn num (W.setCell ⟨g,i,none⟩ v) :=
 ⟨h.box.other (by show _ ≠ g; omega) _,h.res.other (by show _ ≠ g; omega) _,Row.other h.nr ne _,h.bel.setCell (by show _ ≤ g; omega) _,h.lo⟩
theorem RQ.below (h:RQ w dv gn gr gs gm n lp num ss ms W) (hb:Below W.heap.size W W'):RQ w dv gn gr gs gm n lp num ss ms W' :=
 ⟨h.q.below hb,h.r.below hb,Row.below h.s hb,Row.below h.m hb,h.n1,h.n2,h.n3,h.l1,h.l2,h.l3,h.lo⟩
theorem RQ.setS (h:RQ w dv gn gr gs gm n lp num ss ms W) (i:Nat) (v:Int):RQ w dv gn gr gs gm n lp num (ss.set i v) ms (W.setCell ⟨gs,i,none⟩ (.int .i64 v)) := by
 have a:=h.lo
 have b:=h.l2
 exact ⟨h.q.other gs (by omega) (by omega) _ _,h.r.other (show _ ≠ gs from h.n2) _,IRow.set h.s i v,Row.other h.m (show _ ≠ gs from fun e => h.n1 e.symm) _,h.n1,h.n2,h.n3,h.l1,h.l2,h.l3,h.lo⟩
theorem RQ.setM (h:RQ w dv gn gr gs gm n lp num ss ms W) (i:Nat) (v:Int):RQ w dv gn gr gs gm n lp num ss (ms.set i v) (W.setCell ⟨gm,i,none⟩ (.int .i64 v)) := by
 have a:=h.lo
 have b:=h.l3
 exact ⟨h.q.other gm (by omega) (by omega) _ _,h.r.other (show _ ≠ gm from h.n3) _,Row.other h.s (show _ ≠ gm from h.n1) _,IRow.set h.m i v,h.n1,h.n2,h.n3,h.l1,h.l2,h.l3,h.lo⟩
end
set_option maxRecDepth 100000 in
set_option maxHeartbeats 8000000 in
theorem renumber_any (d:Pl.Dg) (hd:Pl.Valid d) (A B C:Option Addr) (cp cq m nc cc:Nat) (cs:List Int) (w:World) (hm:m = 4 * d.n) (hg:DgAt w A B d) (hc:IntsAt w C nc cs) (hnc:nc ≤ 100000) :
 Calls Try.prog 31 #[.agg #[.slice A d.n cp,.slice B m cq,.int .i64 d.lp],.slice C nc cc] w (RnPost d w) := by
 have HM:=hide hm
 have HG:=hide hg
 have HCS:=hide hc
 have HCL:=hide hc.len
 have hn:=hd.wf.few
 have hlp:=hd.wf.lp
 have HD:=hide hd
 clear hm hg hc
 have X0:=hide ((row_at (W := w) (g := w.heap.size) (t := 24) (vs := [.slice A d.n cp,.slice B m cq,.int .i64 (d.lp:Int)]) rfl).alloc (.cells #[.slice none 0 0,.slice none 0 0,.int .i64 0] 24))
 have S0:=hide (row_at (W := w.alloc (.cells #[.slice A d.n cp,.slice B m cq,.int .i64 (d.lp:Int)] 24)) (g := w.heap.size + 1) (t := 24) (vs := [.slice none 0 0,.slice none 0 0,.int .i64 0]) (by simp))
 have B0:=hide (show Below w.heap.size w ((w.alloc (.cells #[.slice A d.n cp,.slice B m cq,.int .i64 (d.lp:Int)] 24)).alloc (.cells #[.slice none 0 0,.slice none 0 0,.int .i64 0] 24)) from ((Below.refl _ _).alloc (Nat.le_refl _) _).alloc (by simp) _)
 go_enter Try.func31,Try.ntmps31
 go_wp2_with fail
 refine (valid_yes d hd A B cp cq m _ HM.out (HG.out.keep B0.out)).mono ?_
 rintro e w1 ⟨rfl,hb1⟩
 have X1:=hide (X0.out.below hb1)
 have S1:=hide (S0.out.below hb1)
 have B1:=hide (B0.out.trans (hb1.mono B0.out.size))
 clear hb1 X0 S0 B0
 obtain ⟨d0,d1,d2,d3⟩:=box3 X1.out
 obtain ⟨f0,f1,f2,f3⟩:=box3 S1.out
 have ERR:=hide (fun (W:World) (hs:Row W (w.heap.size + 1) 24 [.slice none 0 0,.slice none 0 0,.int .i64 0]) (hb:Below w.heap.size w W) => (show Row (((W.setCell ⟨w.heap.size + 1,0,none⟩ (.slice none 0 0)).setCell ⟨w.heap.size + 1,1,none⟩ (.slice none 0 0)).setCell ⟨w.heap.size + 1,2,none⟩ (.int .i64 0)) (w.heap.size + 1) 24 [.slice none 0 0,.slice none 0 0,.int .i64 0] ∧ RnPost d w (.returned (.tuple #[.agg #[.slice none 0 0,.slice none 0 0,.int .i64 0],.int .i64 2])) (((W.setCell ⟨w.heap.size + 1,0,none⟩ (.slice none 0 0)).setCell ⟨w.heap.size + 1,1,none⟩ (.slice none 0 0)).setCell ⟨w.heap.size + 1,2,none⟩ (.int .i64 0)) from
  ⟨row3 hs rfl _ _ _,.inl ⟨2,by decide,rfl⟩,below3 hb (by omega) _ _ _⟩))
 by_cases hlen:nc = d.n
 ·subst hlen
  obtain ⟨n,hnn⟩:∃ n,n = d.n := ⟨_,rfl⟩
  have HN:=hide hnn
  have hmk:=run_ints d.n (by omega) w1
  have Q2:=hide (show NQ w [.slice A d.n cp,.slice B m cq,.int .i64 (d.lp:Int)] w1.heap.size (Pl.fil d.n 0) (w1.alloc (.cells (Array.replicate d.n (Value.int .i64 0)) 3)) from
   ⟨X1.out.alloc _,S1.out.alloc _,by rw [Pl.fil_zero]; exact IRow.made w1 d.n,B1.out.alloc B1.out.size _,S1.out.lt⟩)
  obtain ⟨gn,hgn⟩:∃ g,g = w1.heap.size := ⟨_,rfl⟩
  obtain ⟨W2,hW2⟩:∃ W:World,W = w1.alloc (.cells (Array.replicate d.n (Value.int .i64 0)) 3) := ⟨_,rfl⟩
  rw [← hW2,← hgn] at Q2
  go_wp2
  rw [← hW2,← hgn]
  clear hmk hW2 hgn d0 d1 d2 d3 f0 f1 f2 f3
  go_loopg [8,32] d.n (fun g s8 s32 wx => ∃ k:Nat,k + g = d.n ∧ s32 = .int .i64 (k:Int) ∧ NQ w [.slice A d.n cp,.slice B m cq,.int .i64 (d.lp:Int)] gn (Pl.fil d.n k) wx)
  case atStart => exact ⟨0,by omega,rfl,Q2.out⟩
  case round =>
   clear Q2
   obtain ⟨k,hkg,rfl,hq⟩:=hrel
   have HKG:=hide hkg
   have Q:=hide hq
   have hkn:k ≤ d.n:=by omega
   clear hkg hq
   by_cases hk:k < d.n
   ·have hki:(k:Int) < (d.n:Int):=by omega
    have k0:(0:Int) ≤ (k:Int):=by omega
    have c1:=Q.out.nr.cell (i := k) (by rw [Pl.fil_len]; exact hk)
    have f1:=Row.free Q.out.nr k
    go_wp2
    go_roundg (gk - 1)
    case measure => have := HKG.out; omega
    case rel => exact ⟨k + 1,by have := HKG.out; omega,by go_num,by rw [← Pl.fil_set hk]; exact Q.out.setN k (-1)⟩
   ·have hki:¬ ((k:Int) < (d.n:Int)):=by omega
    have hkk:k = d.n:=by omega
    have Q3:=hide (show NQ w [.slice A d.n cp,.slice B m cq,.int .i64 (d.lp:Int)] gn (List.replicate d.n (-1)) wr by rw [← Pl.fil_done,← hkk]; exact hkk ▸ Q.out)
    clear Q HKG hkk
    go_wp2
    go_loopg [9,10,41] d.n (fun g s9 s10 s41 wx => ∃ (k:Nat) (num:List Int),k + g = d.n ∧ s41 = .int .i64 (k:Int) ∧ Pl.Nmb d.n (fun i => (Pl.pv cs i).toNat) num k ∧ (∀ j,j < k → 0 ≤ Pl.pv cs j) ∧ NQ w [.slice A d.n cp,.slice B m cq,.int .i64 (d.lp:Int)] gn num wx)
    case atStart => exact ⟨0,_,by omega,rfl,Pl.Nmb.start _ _,fun j hj => absurd hj (by omega),Q3.out⟩
    case round =>
     clear Q3
     obtain ⟨k,num,hkg,rfl,hnm,hnn,hq⟩:=hrel
     have HNN:=hide hnn
     clear hnn
     have HKG:=hide hkg
     have HNM:=hide hnm
     have Q:=hide hq
     have hkn:k ≤ d.n:=by omega
     clear hkg hq hnm
     by_cases hk:k < d.n
     ·have hki:(k:Int) < (d.n:Int):=by omega
      have k0:(0:Int) ≤ (k:Int):=by omega
      obtain ⟨b,o,rfl,x1⟩:=(HCS.out.keep Q.out.bel).at_ hk
      obtain ⟨u,hu⟩:∃ u,u = Pl.pv cs k := ⟨_,rfl⟩
      rw [show cs.getD k 0 = u from hu.symm] at x1
      have HU:=hide hu
      obtain ⟨f0,f1,f2,f3⟩:=box3 Q.out.res
      clear hu
      by_cases h1:u < 0
      ·have t1:decide (u < 0) = true:=by simpa using h1
       clear h1
       go_wp2
       refine bodyPost_ret (v := .tuple #[.agg #[.slice none 0 0,.slice none 0 0,.int .i64 0],.int .i64 2]) ?_ rfl (ERR.out _ Q.out.res Q.out.bel).2
       obtain ⟨r0,r1,r2,r3⟩:=box3 (ERR.out _ Q.out.res Q.out.bel).1
       simp [results,Try.results31,go_sem,r0,r1,r2]
      ·obtain ⟨c,rfl⟩:=Int.eq_ofNat_of_zero_le (show 0 ≤ u by omega)
       have t1:decide ((c:Int) < 0) = false:=by simp
       by_cases h2:d.n ≤ c
       ·have t2:decide (d.n ≤ c) = true:=by simpa using h2
        clear h1
        go_wp2
        refine bodyPost_ret (v := .tuple #[.agg #[.slice none 0 0,.slice none 0 0,.int .i64 0],.int .i64 2]) ?_ rfl (ERR.out _ Q.out.res Q.out.bel).2
        obtain ⟨r0,r1,r2,r3⟩:=box3 (ERR.out _ Q.out.res Q.out.bel).1
        simp [results,Try.results31,go_sem,r0,r1,r2]
       ·have t2:decide ((d.n:Int) ≤ (c:Int)) = false:=by simp; omega
        have hcn:c < d.n:=by omega
        have c1:=Q.out.nr.cell (i := c) (by rw [HNM.out.len]; exact hcn)
        have fr1:=Row.free Q.out.nr c
        obtain ⟨z,hz⟩:∃ z,z = Pl.pv num c := ⟨_,rfl⟩
        rw [← hz] at c1
        have HZ:=hide hz
        clear h1 h2 hz
        by_cases h3:0 ≤ z
        ·have t3:decide ((0:Int) ≤ z) = true:=by simpa using h3
         clear h3
         go_wp2
         refine bodyPost_ret (v := .tuple #[.agg #[.slice none 0 0,.slice none 0 0,.int .i64 0],.int .i64 2]) ?_ rfl (ERR.out _ Q.out.res Q.out.bel).2
         obtain ⟨r0,r1,r2,r3⟩:=box3 (ERR.out _ Q.out.res Q.out.bel).1
         simp [results,Try.results31,go_sem,r0,r1,r2]
        ·have t3:decide ((0:Int) ≤ z) = false:=by simpa using h3
         have ec:(Pl.pv cs k).toNat = c:=by rw [← HU.out]; rfl
         have HST:=hide (show Pl.Nmb d.n (fun i => (Pl.pv cs i).toNat) (num.set c (k:Int)) (k + 1) by
          have h:=HNM.out.step (k := k) (by show (Pl.pv cs k).toNat < d.n; rw [ec]; exact hcn) (by show Pl.pv num (Pl.pv cs k).toNat < 0; rw [ec,← HZ.out]; omega)
          have h':Pl.Nmb d.n (fun i => (Pl.pv cs i).toNat) (num.set (Pl.pv cs k).toNat (k:Int)) (k + 1):=h
          rwa [ec] at h')
         have HNN2:=hide (show ∀ j,j < k + 1 → 0 ≤ Pl.pv cs j from fun j hj => by
          by_cases e:j = k
          ·rw [e,← HU.out]; exact Int.natCast_nonneg c
          ·exact HNN.out j (by omega))
         clear h3 ec
         go_wp2
         go_roundg (gk - 1)
         case measure => have := HKG.out; omega
         case rel => exact ⟨k + 1,_,by have := HKG.out; omega,by go_num,HST.out,HNN2.out,Q.out.setN c k⟩
     ·have hki:¬ ((k:Int) < (d.n:Int)):=by omega
      have hkk:k = d.n:=by omega
      have HNM2:=hide (show Pl.Nmb d.n (fun i => (Pl.pv cs i).toNat) num d.n by rw [← hkk]; exact hkk ▸ HNM.out)
      have HNN2:=hide (show ∀ j,j < d.n → 0 ≤ Pl.pv cs j by rw [← hkk]; exact HNN.out)
      clear HKG hkk HNM HNN
      go_upto_region 19 with fail
      have X4:=hide (show NQ w [.slice A d.n cp,.slice B m cq,.int .i64 (d.lp:Int)] gn num wr.drew from Q.out.below (Below.refl _ _).drew)
      obtain ⟨d0,d1,d2,d3⟩:=box3 Q.out.box
      have hwr:w.heap.size < wr.heap.size:=Q.out.box.lt
      have hwr1:w.heap.size < wr.heap.size + 1:=by omega
      have hwr2:w.heap.size < wr.heap.size + 1 + 1:=by omega
      have hwp:IntKind.i64.wrap (4 * (d.n:Int)) = 4 * (d.n:Int):=IntWalk.i64_in _ (by omega)
      have hmk:=fun W:World => run_ints d.n (by omega) W
      have hmk4:∀ W:World,(Instr.makeSlice 22 (.int .i64 (4 * (d.n:Int))) (.int .i64 (4 * (d.n:Int)))).run Try.prog W = .ok (.slice (some ⟨W.heap.size,0,none⟩) (4 * d.n) (4 * d.n)) (W.alloc (.cells (Array.replicate (4 * d.n) (Value.int .i64 0)) 3)):=fun W => run_ints (4 * d.n) (by omega) W
      go_cut [11] from 66 to 73 (fun s11 wx => ∃ gr gs gm:Nat,s11 = .pointer (some ⟨gr,0,none⟩) ∧ Row wx gr 24 [.slice (some ⟨gs,0,none⟩) d.n d.n,.slice (some ⟨gm,0,none⟩) (4 * d.n) (4 * d.n),.int .i64 (d.lp:Int)] ∧ IRow wx gs (List.replicate d.n 0) ∧ IRow wx gm (List.replicate (4 * d.n) 0) ∧ gs ≠ gm ∧ gr ≠ gs ∧ gr ≠ gm ∧ wr.heap.size ≤ gr ∧ wr.heap.size ≤ gs ∧ wr.heap.size ≤ gm ∧ Below wr.heap.size wr wx)
      case first =>
       go_region
       all_goals (go_wp2_with fail; go_meet)
       all_goals (
        apply Exists.intro
        apply Exists.intro
        apply Exists.intro
        refine ⟨rfl,?_,?_,?_,?_,?_,?_,?_,?_,?_,?_⟩
        ·repeat (first
          | (with_reducible refine Row.drew ?_)
          | (with_reducible refine row_new3 _ _ _ _ _ ?_)
          | (with_reducible refine Row.alloc ?_ _))
         all_goals simp
        ·repeat (first
          | (with_reducible refine IRow.dr ?_)
          | (with_reducible refine irow_new _ _ _ ?_)
          | (with_reducible refine IRow.al ?_ _))
         all_goals simp
        ·repeat (first
          | (with_reducible refine IRow.dr ?_)
          | (with_reducible refine irow_new _ _ _ ?_)
          | (with_reducible refine IRow.al ?_ _))
         all_goals simp
        ·omega
        ·omega
        ·omega
        ·omega
        ·omega
        ·omega
        ·refine BB.b ?_
         repeat (first
          | (with_reducible exact BB.refl _)
          | (with_reducible refine BB.drew ?_)
          | (with_reducible refine BB.alloc ?_ _)))
      case rest =>
       obtain ⟨gr,gs,gm,rfl,hr,hs,hmr,n1,n2,n3,l1,l2,l3,hb⟩:=hcut
       obtain ⟨wz,hwz⟩:∃ W,W = wc := ⟨_,rfl⟩
       rw [← hwz] at hr hs hmr hb ⊢
       have hgn:gn < wr.heap.size:=Q.out.nr.lt
       have P4:=hide (show RQ w [.slice A d.n cp,.slice B m cq,.int .i64 (d.lp:Int)] gn gr gs gm d.n (d.lp:Int) num (Pl.rsg d (fun i => (Pl.pv cs i).toNat) 0) (Pl.rmt d (fun i => (Pl.pv cs i).toNat) num 0) wz from
        ⟨Q.out.below hb,hr,by rw [Pl.rsg_zero]; exact hs,by rw [Pl.rmt_zero]; exact hmr,n1,n2,n3,by omega,by omega,by omega,Q.out.lo⟩)
       clear hwz hr hs hmr hb hmk hmk4 X4 d0 d1 d2 d3 l1 l2 l3 n1 n2 n3 hgn hwr hwr1 hwr2 hwp Q
       go_wp2
       go_loopg [12,13,76] d.n (fun g s12 s13 s76 wx => ∃ k:Nat,k + g = d.n ∧ s76 = .int .i64 (k:Int) ∧ RQ w [.slice A d.n cp,.slice B m cq,.int .i64 (d.lp:Int)] gn gr gs gm d.n (d.lp:Int) num (Pl.rsg d (fun i => (Pl.pv cs i).toNat) k) (Pl.rmt d (fun i => (Pl.pv cs i).toNat) num (4 * k)) wx)
       case atStart => exact ⟨0,by omega,rfl,P4.out⟩
       case round =>
        clear P4
        obtain ⟨k,hkg,rfl,hq⟩:=hrel
        have HKG:=hide hkg
        have Q:=hide hq
        have hkn:k ≤ d.n:=by omega
        clear hkg hq
        by_cases hk:k < d.n
        ·have hki:(k:Int) < (d.n:Int):=by omega
         have k0:(0:Int) ≤ (k:Int):=by omega
         obtain ⟨b,o,rfl,x1⟩:=(HCS.out.keep Q.out.q.bel).at_ hk
         have hcl:=HNM2.out.lt k hk
         obtain ⟨u,hu⟩:∃ u,u = Pl.pv cs k := ⟨_,rfl⟩
         rw [show cs.getD k 0 = u from hu.symm] at x1
         have hu0:0 ≤ u:=by rw [hu]; exact HNN2.out k hk
         obtain ⟨c,rfl⟩:=Int.eq_ofNat_of_zero_le hu0
         have hcs:(Pl.pv cs k).toNat = c:=by rw [← hu]; rfl
         have hcn:c < d.n:=by rw [← hcs]; exact hcl
         have HC:=hide hcs
         have c0:(0:Int) ≤ (c:Int):=by omega
         have hci:(c:Int) < (d.n:Int):=by omega
         obtain ⟨b1,o1,rfl,y1⟩:=(HG.out.keep Q.out.q.bel).sign hcn
         obtain ⟨z,hz⟩:∃ z,z = d.s c := ⟨_,rfl⟩
         rw [← hz] at y1
         have HZ:=hide hz
         obtain ⟨d0,d1,d2,d3⟩:=box3 Q.out.q.box
         obtain ⟨r0,r1,r2,r3⟩:=box3 Q.out.r
         clear hcl hu hu0 hcs hz
         go_upto_region 23 with fail
         go_still_tail 9,(by kernel_rfl)
         change wpList _ _ _ _ _ wr.drew
         obtain ⟨W6,hW6⟩:∃ W6:World,W6 = wr.drew := ⟨_,rfl⟩
         rw [← hW6]
         have Q6:=hide (show RQ w [.slice (some ⟨b1,o1,none⟩) d.n cp,.slice B m cq,.int .i64 (d.lp:Int)] gn gr gs gm d.n (d.lp:Int) num (Pl.rsg d (fun i => (Pl.pv cs i).toNat) k) (Pl.rmt d (fun i => (Pl.pv cs i).toNat) num (4 * k)) W6 by
          rw [hW6]; exact Q.out.below (Below.refl _ _).drew)
         clear hW6 d0 d1 d2 d3 r0 r1 r2 r3 x1 y1 Q
         have cs1:=Q6.out.s.cell (i := k) (by rw [Pl.rsg_len]; exact hk)
         have fs:=Row.free Q6.out.s k
         have Q7:=hide (show RQ w [.slice (some ⟨b1,o1,none⟩) d.n cp,.slice B m cq,.int .i64 (d.lp:Int)] gn gr gs gm d.n (d.lp:Int) num (Pl.rsg d (fun i => (Pl.pv cs i).toNat) (k + 1)) (Pl.rmt d (fun i => (Pl.pv cs i).toNat) num (4 * k)) (W6.setCell ⟨gs,k,none⟩ (.int .i64 z)) by
          have h:=Q6.out.setS k z
          have e:(Pl.rsg d (fun i => (Pl.pv cs i).toNat) k).set k (d.s (Pl.pv cs k).toNat) = _:=Pl.rsg_set hk
          rw [HC.out,← HZ.out] at e
          rwa [e] at h)
         clear Q6
         go_wp2
         clear cs1 fs
         obtain ⟨gK,hgK⟩:∃ g,g = gk := ⟨_,rfl⟩
         rw [← hgK] at HKG
         go_loopg [14,15,90] 4 (fun g s14 s15 s90 wx => ∃ s:Nat,s + g = 4 ∧ s90 = .int .i64 (s:Int) ∧ RQ w [.slice (some ⟨b1,o1,none⟩) d.n cp,.slice B m cq,.int .i64 (d.lp:Int)] gn gr gs gm d.n (d.lp:Int) num (Pl.rsg d (fun i => (Pl.pv cs i).toNat) (k + 1)) (Pl.rmt d (fun i => (Pl.pv cs i).toNat) num (4 * k + s)) wx)
         case atStart => exact ⟨0,by omega,rfl,Q7.out⟩
         case round =>
          clear Q7
          obtain ⟨s,hsg,rfl,hq⟩:=hrel
          have HSG:=hide hsg
          have Q:=hide hq
          have hs4:s ≤ 4:=by omega
          clear hsg hq
          by_cases hs:s < 4
          ·have hsi:(s:Int) < 4:=by omega
           have s0:(0:Int) ≤ (s:Int):=by omega
           have hcs:4 * c + s < 4 * d.n:=by omega
           obtain ⟨b2,o2,rfl,y1⟩:=mate_at (HG.out.keep Q.out.q.bel).m hcs
           obtain ⟨M,hM⟩:∃ M,M = d.m (4 * c + s) := ⟨_,rfl⟩
           rw [← hM] at y1
           have hM4:M < 4 * d.n:=by rw [hM]; exact HD.out.wf.lt _ hcs
           have HMM:=hide hM
           obtain ⟨j,hj,_,hj2⟩:=HNM2.out.all (c := M / 4) (by omega)
           have HJ:=hide hj2
           have z1:=Q.out.q.nr.cell (i := M / 4) (by rw [HNM2.out.len]; omega)
           rw [hj2] at z1
           clear hM hj2
           obtain ⟨d0,d1,d2,d3⟩:=box3 Q.out.q.box
           have i1:(4:Int) * (c:Int) + (s:Int) < (m:Int):=by have := HM.out; omega
           have i2:(0:Int) ≤ (4:Int) * (c:Int) + (s:Int):=by omega
           go_upto_region 28 with fail
           clear y1 d0 d1 d2 d3
           obtain ⟨r0,r1,r2,r3⟩:=box3 Q.out.r
           obtain ⟨t,ht⟩:∃ t,t = M / 4 := ⟨_,rfl⟩
           obtain ⟨r,hr⟩:∃ r,r = M % 4 := ⟨_,rfl⟩
           rw [← ht] at z1
           have q0:(M:Int) / 4 = (t:Int):=by omega
           have q3:(M:Int) % 4 = (r:Int):=by omega
           have q1:(t:Int) < (d.n:Int):=by omega
           have q2:(0:Int) ≤ (t:Int):=by omega
           have q8:IntKind.i64.wrap (4 * (k:Int)) = 4 * (k:Int):=IntWalk.i64_in _ (by omega)
           have q9:IntKind.i64.wrap (4 * (k:Int) + (s:Int)) = 4 * (k:Int) + (s:Int):=IntWalk.i64_in _ (by omega)
           have q4:IntKind.i64.wrap (t:Int) = (t:Int):=IntWalk.i64_in _ (by omega)
           have q5:IntKind.i64.wrap (r:Int) = (r:Int):=IntWalk.i64_in _ (by omega)
           have q6:IntKind.i64.wrap (4 * (j:Int)) = 4 * (j:Int):=IntWalk.i64_in _ (by omega)
           have q7:IntKind.i64.wrap (4 * (j:Int) + (r:Int)) = 4 * (j:Int) + (r:Int):=IntWalk.i64_in _ (by omega)
           have HT:=hide ht
           have HR:=hide hr
           clear ht hr
           have i3:(4:Int) * (k:Int) + (s:Int) < 4 * (d.n:Int):=by omega
           have i4:(0:Int) ≤ (4:Int) * (k:Int) + (s:Int):=by omega
           go_still_tail 16,(by kernel_rfl)
           change wpList _ _ _ _ _ wr.drew
           obtain ⟨W6,hW6⟩:∃ W6:World,W6 = wr.drew := ⟨_,rfl⟩
           rw [← hW6]
           have Q6:=hide (show RQ w [.slice (some ⟨b1,o1,none⟩) d.n cp,.slice (some ⟨b2,o2,none⟩) m cq,.int .i64 (d.lp:Int)] gn gr gs gm d.n (d.lp:Int) num (Pl.rsg d (fun i => (Pl.pv cs i).toNat) (k + 1)) (Pl.rmt d (fun i => (Pl.pv cs i).toNat) num (4 * k + s)) W6 by
            rw [hW6]; exact Q.out.below (Below.refl _ _).drew)
           clear hW6 r0 r1 r2 r3 z1 Q
           have cs1:=Q6.out.m.cell (i := 4 * k + s) (by rw [Pl.rmt_len]; omega)
           have fs:=Row.free Q6.out.m (4 * k + s)
           have Q7:=hide (show RQ w [.slice (some ⟨b1,o1,none⟩) d.n cp,.slice (some ⟨b2,o2,none⟩) m cq,.int .i64 (d.lp:Int)] gn gr gs gm d.n (d.lp:Int) num (Pl.rsg d (fun i => (Pl.pv cs i).toNat) (k + 1)) (Pl.rmt d (fun i => (Pl.pv cs i).toNat) num (4 * k + (s + 1))) (W6.setCell ⟨gm,4 * k + s,none⟩ (.int .i64 (4 * (j:Int) + (r:Int)))) by
            have h:=Q6.out.setM (4 * k + s) (4 * (j:Int) + (r:Int))
            have e:(Pl.rmt d (fun i => (Pl.pv cs i).toNat) num (4 * k + s)).set (4 * k + s) _ = _:=Pl.rmt_set (by omega)
            have e2:Pl.hf (fun i => (Pl.pv cs i).toNat) (4 * k + s) = 4 * c + s:=by
             rw [Pl.hf_at _ _ hs,HC.out]
            rw [e2,← HMM.out,HJ.out,← HR.out] at e
            rwa [e] at h)
           clear Q6
           have hoff:(4 * (k:Int) + (s:Int)).toNat = 4 * k + s:=by omega
           go_wp2
           go_roundg (gk - 1)
           case measure => have := HSG.out; omega
           case rel => exact ⟨s + 1,by have := HSG.out; omega,by go_num,Q7.out⟩
          ·have hsi:¬ ((s:Int) < 4):=by omega
           have hs4e:s = 4:=by omega
           have Q8:=hide (show RQ w [.slice (some ⟨b1,o1,none⟩) d.n cp,.slice B m cq,.int .i64 (d.lp:Int)] gn gr gs gm d.n (d.lp:Int) num (Pl.rsg d (fun i => (Pl.pv cs i).toNat) (k + 1)) (Pl.rmt d (fun i => (Pl.pv cs i).toNat) num (4 * (k + 1))) wr by
            have h:=Q.out
            rw [hs4e] at h
            exact h)
           clear Q hs4e HSG
           go_wp2
           go_roundg (gK - 1)
           case measure => have := HKG.out; omega
           case rel => exact ⟨k + 1,by have := HKG.out; omega,by go_num,Q8.out⟩
        ·have hki:¬ ((k:Int) < (d.n:Int)):=by omega
         have hkk:k = d.n:=by omega
         obtain ⟨d0,d1,d2,d3⟩:=box3 Q.out.r
         obtain ⟨f0,f1,f2,f3⟩:=box3 Q.out.q.res
         have ne:=Q.out.n2
         go_wp2
         refine bodyPost_ret (v := .tuple #[.agg #[.slice (some ⟨gs,0,none⟩) d.n d.n,.slice (some ⟨gm,0,none⟩) (4 * d.n) (4 * d.n),.int .i64 (d.lp:Int)],.int .i64 0]) ?_ rfl ?_
         ·obtain ⟨r0,r1,r2,r3⟩:=box3 (row3 Q.out.q.res rfl (.slice (some ⟨gs,0,none⟩) d.n d.n) (.slice (some ⟨gm,0,none⟩) (4 * d.n) (4 * d.n)) (.int .i64 (d.lp:Int)))
          simp [results,Try.results31,go_sem,r0,r1,r2]
         ·have hlo:=Q.out.lo
          have hl2:=Q.out.l2
          have hl3:=Q.out.l3
          have hrs:=Q.out.s
          have hrm:=Q.out.m
          rw [hkk] at hrs hrm
          refine ⟨.inr ⟨Pl.rnD d (fun i => (Pl.pv cs i).toNat) num,_,some ⟨gs,0,none⟩,some ⟨gm,0,none⟩,d.n,4 * d.n,Pl.rnD_valid HD.out HNM2.out,Pl.rnD_iso HD.out.wf HNM2.out,?_,⟨?_,?_⟩⟩,below3 Q.out.q.bel (by omega) _ _ _⟩
          ·rw [Pl.rnD_n]; rfl
          ·rw [Pl.rnD_n]
           exact (IRow.T (Row.other (Row.other (Row.other hrs (by show gs ≠ w.heap.size + 1; omega) _) (by show gs ≠ w.heap.size + 1; omega) _) (by show gs ≠ w.heap.size + 1; omega) _) (Pl.rsg_len _ _ _))
          ·rw [Pl.rnD_n]
           have e:=Pl.rnD_nats HD.out.wf HNM2.out
           have e2:nats (Pl.rnD d (fun i => (Pl.pv cs i).toNat) num).mt = Pl.rmt d (fun i => (Pl.pv cs i).toNat) num (4 * d.n):=e
           rw [e2]
           exact (IRow.T (Row.other (Row.other (Row.other hrm (by show gm ≠ w.heap.size + 1; omega) _) (by show gm ≠ w.heap.size + 1; omega) _) (by show gm ≠ w.heap.size + 1; omega) _) (Pl.rmt_len _ _ _ _))
 ·have t1:((nc:Int) != (d.n:Int)) = true:=by rw [bne_iff_ne]; omega
  clear hlen
  go_wp2
  refine bodyPost_ret (v := .tuple #[.agg #[.slice none 0 0,.slice none 0 0,.int .i64 0],.int .i64 2]) ?_ rfl (ERR.out _ S1.out B1.out).2
  obtain ⟨r0,r1,r2,r3⟩:=box3 (ERR.out _ S1.out B1.out).1
  simp [results,Try.results31,go_sem,r0,r1,r2]
end Go.Proofs.Ytghdiolnonejaaa
end
