/-
 The texts Rk.
-/
import Derived.Test.YtobbepmlmbbamaaE13
set_option linter.unusedVariables false
set_option linter.unusedSimpArgs false
section
namespace Go.Proofs.Ytobbepmlmbbamaa
open Go Go.RowKit
attribute [local go_sem ↓] Go.wp_at_zero Go.wp_at_succ
def nearR (d:Pl.Dg) (x y s:Int):Prop := ¬ (d.lp < needP x y s) ∧ (x < 0 ∨ y < 0 ∨ s ≠ 0 ∨ nearP d x.toNat y.toNat)
structure NS (w:World) (dv mv:List Value) (g:Nat) (ps:List Int) (W:World):Prop where
 x:Row W w.heap.size 24 dv
 m:Row W (w.heap.size + 1) 28 mv
 p:IRow W g ps
 bel:Below w.heap.size w W
theorem NS.below {w:World} {dv mv:List Value} {g:Nat} {ps:List Int} {W W':World} (h:NS w dv mv g ps W) (hb:Below W.heap.size W W'):NS w dv mv g ps W' :=
 ⟨h.x.below hb,h.m.below hb,Row.below h.p hb,h.bel.trans (hb.mono h.bel.size)⟩
theorem NS.drew {w:World} {dv mv:List Value} {g:Nat} {ps:List Int} {W:World} (h:NS w dv mv g ps W):NS w dv mv g ps W.drew := ⟨h.x,h.m,h.p,h.bel.drew⟩
theorem NS.all {w:World} {a b c k x y s o:Value} {g:Nat} {ps:List Int} {W:World} {x' y' u v p q:Nat} {d:Pl.Dg} (hp:Pl.PB d ps) (eu:u = x' / 4) (ev:v = y' / 4) (hu:u < d.n) (hv:v < d.n) (e1:Pl.pv ps (x' / 4) = p) (e2:Pl.pv ps (y' / 4) = q) (h:NS w [a,b,c] [k,x,y,s,o] g ps W) :
 W.cell? ⟨w.heap.size,0,none⟩ = some a ∧ W.cell? ⟨w.heap.size,1,none⟩ = some b ∧ W.cell? ⟨w.heap.size,2,none⟩ = some c ∧ W.cell? ⟨w.heap.size + 1,1,none⟩ = some x ∧ W.cell? ⟨w.heap.size + 1,2,none⟩ = some y ∧ W.cell? ⟨g,u,none⟩ = some (.int .i64 (p:Int)) ∧ W.cell? ⟨g,v,none⟩ = some (.int .i64 (q:Int)) ∧ NS w [a,b,c] [k,x,y,s,o] g ps W := by
 have c1:=h.p.cell (i := u) (by rw [hp.len]; exact hu)
 have c2:=h.p.cell (i := v) (by rw [hp.len]; exact hv)
 rw [eu,e1] at c1
 rw [ev,e2] at c2
 exact ⟨h.x.cell (i := 0) (by simp),h.x.cell (i := 1) (by simp),h.x.cell (i := 2) (by simp),h.m.cell (i := 1) (by simp),h.m.cell (i := 2) (by simp),by rw [eu]; exact c1,by rw [ev]; exact c2,h⟩
theorem near_cyc {d:Pl.Dg} {x y p:Nat} (hc:Pl.Comp d (x / 4) (y / 4)) (hm:d.m x ≠ y) (hp:Pl.Per (Pl.nx d) x p):decide ((y:Int) ∈ nats (Pl.cyc (Pl.nx d) x p)) = Pl.vb (nearP d x y) := by
 rw [Bool.eq_iff_iff,Pl.vb_iff,decide_eq_true_eq]
 have h1:(y:Int) ∈ nats (Pl.cyc (Pl.nx d) x p) ↔ y ∈ Pl.cyc (Pl.nx d) x p:=by
  unfold nats
  rw [List.mem_map]
  constructor
  ·rintro ⟨z,hz,e⟩
   have:z = y:=by omega
   rwa [← this]
  ·intro h; exact ⟨y,h,rfl⟩
 rw [h1,Pl.mem_cyc hp]
 unfold nearP
 constructor
 ·intro h; exact ⟨.inl h,hm⟩
 ·rintro ⟨h | h,_⟩
  ·exact h
  ·exact absurd hc h
theorem rpart_own (d:Pl.Dg) (hd:Pl.Wf d) (A B:Option Addr) (n q cp cq:Nat) (l:Value) (w:World) (e:n = d.n) (hm:q = 4 * d.n) (hs:IntsAt w A n d.sg) (hb:IntsAt w B q (nats d.mt)) :
 Calls Try.prog 63 #[.agg #[.slice A n cp,.slice B q cq,l]] w fun e w' =>
  ∃ (ps:List Int) (g:Nat),e = .returned (.slice (some ⟨g,0,none⟩) n n) ∧ Pl.PB d ps ∧ w.heap.size ≤ g ∧ IRow w' g ps ∧ Below w.heap.size w w' := rpart_n d hd A B n q cp cq l w e hm hs hb
set_option maxRecDepth 100000 in
set_option maxHeartbeats 4000000 in
theorem rnear_far (d:Pl.Dg) (A B:Option Addr) (cp cq m:Nat) (k x y s:Int) (o:Bool) (w:World) (hlp:d.lp ≤ 64) (hc:x < 0 ∨ y < 0 ∨ s ≠ 0) :
 Calls Try.prog 101 #[.agg #[.slice A d.n cp,.slice B m cq,.int .i64 d.lp],.agg #[.int .i64 k,.int .i64 x,.int .i64 y,.int .i64 s,.bool o]] w fun e w' => e = .returned (.bool (Pl.vb (nearR d x y s))) ∧ Below w.heap.size w w' := by
 have B0:=hide (show Below w.heap.size w ((w.alloc (.cells #[.slice A d.n cp,.slice B m cq,.int .i64 d.lp] 24)).alloc (.cells #[.int .i64 k,.int .i64 x,.int .i64 y,.int .i64 s,.bool o] 28)) from ((Below.refl _ _).alloc (Nat.le_refl _) _).alloc (by simp) _)
 obtain ⟨L,hL⟩:∃ L,L = d.lp := ⟨_,rfl⟩
 have HV:=hide (show nearR d x y s ↔ ¬ (L < needP x y s) by rw [hL]; exact ⟨fun h => h.1,fun h => ⟨h,hc.elim .inl fun h => .inr (h.elim .inl fun h => .inr (.inl h))⟩⟩)
 have HN:=hide (show needP x y s = (if x < 0 then 1 else 0) + (if y < 0 ∧ s = 0 then 1 else 0) from rfl)
 rw [← hL] at hlp B0 ⊢
 clear hL
 obtain ⟨N,hN⟩:∃ N,N = d.n := ⟨_,rfl⟩
 rw [← hN] at B0 ⊢
 clear hN
 obtain ⟨R,hR⟩:∃ R,R = Pl.vb (nearR d x y s) := ⟨_,rfl⟩
 rw [← hR]
 have HR:=hide (show (R = true ↔ ¬ (L < needP x y s)) by rw [hR,Pl.vb_iff]; exact HV.out)
 clear hR HV
 have fin:∀ b:Bool,(b = true ↔ ¬ (L < needP x y s)) → Ending.returned (.bool b) = Ending.returned (.bool R):=fun b h => ret_bool (by rw [Bool.eq_iff_iff,h]; exact HR.out.symm)
 have FIN:=hide fin
 clear fin HR
 by_cases hx:x < 0
 ·have tx:decide (x < 0) = true:=by simpa using hx
  by_cases hy:y < 0
  ·have ty:decide (y < 0) = true:=by simpa using hy
   by_cases hs:s = 0
   ·have ts:(s == 0) = true:=by simpa using hs
    have ts':(s != 0) = false:=by simpa using hs
    rw [if_pos hx,if_pos ⟨hy,hs⟩] at HN
    clear hx hy hs hc
    by_cases hl:L < 2
    ·have tl:decide ((L:Int) < 2) = true:=by simp; omega
     go_enter Try.func101,Try.ntmps101
     go_wp2
     go_ret
     exact ⟨FIN.out _ (by rw [HN.out]; simp; omega),B0.out⟩
    ·have tl:decide ((L:Int) < 2) = false:=by simp; omega
     go_enter Try.func101,Try.ntmps101
     go_wp2
     go_ret
     exact ⟨FIN.out _ (by rw [HN.out]; simp; omega),B0.out⟩
   ·have ts:(s == 0) = false:=by simpa using hs
    have ts':(s != 0) = true:=by simpa using hs
    rw [if_pos hx,if_neg (fun e => hs e.2)] at HN
    clear hx hy hs hc
    by_cases hl:L < 1
    ·have tl:decide ((L:Int) < 1) = true:=by simp; omega
     go_enter Try.func101,Try.ntmps101
     go_wp2
     go_ret
     exact ⟨FIN.out _ (by rw [HN.out]; simp; omega),B0.out⟩
    ·have tl:decide ((L:Int) < 1) = false:=by simp; omega
     go_enter Try.func101,Try.ntmps101
     go_wp2
     go_ret
     exact ⟨FIN.out _ (by rw [HN.out]; simp; omega),B0.out⟩
  ·have ty:decide (y < 0) = false:=by simpa using hy
   rw [if_pos hx,if_neg (fun e => hy e.1)] at HN
   clear hx hy hc
   by_cases hl:L < 1
   ·have tl:decide ((L:Int) < 1) = true:=by simp; omega
    go_enter Try.func101,Try.ntmps101
    go_wp2
    go_ret
    exact ⟨FIN.out _ (by rw [HN.out]; simp; omega),B0.out⟩
   ·have tl:decide ((L:Int) < 1) = false:=by simp; omega
    go_enter Try.func101,Try.ntmps101
    go_wp2
    go_ret
    exact ⟨FIN.out _ (by rw [HN.out]; simp; omega),B0.out⟩
 ·have tx:decide (x < 0) = false:=by simpa using hx
  by_cases hy:y < 0
  ·have ty:decide (y < 0) = true:=by simpa using hy
   by_cases hs:s = 0
   ·have ts:(s == 0) = true:=by simpa using hs
    have ts':(s != 0) = false:=by simpa using hs
    rw [if_neg hx,if_pos ⟨hy,hs⟩] at HN
    clear hx hy hs hc
    by_cases hl:L < 1
    ·have tl:decide ((L:Int) < 1) = true:=by simp; omega
     go_enter Try.func101,Try.ntmps101
     go_wp2
     go_ret
     exact ⟨FIN.out _ (by rw [HN.out]; simp; omega),B0.out⟩
    ·have tl:decide ((L:Int) < 1) = false:=by simp; omega
     go_enter Try.func101,Try.ntmps101
     go_wp2
     go_ret
     exact ⟨FIN.out _ (by rw [HN.out]; simp; omega),B0.out⟩
   ·have ts:(s == 0) = false:=by simpa using hs
    have ts':(s != 0) = true:=by simpa using hs
    rw [if_neg hx,if_neg (fun e => hs e.2)] at HN
    clear hx hy hs hc
    have tl:decide ((L:Int) < 0) = false:=by simp
    go_enter Try.func101,Try.ntmps101
    go_wp2
    go_ret
    exact ⟨FIN.out _ (by rw [HN.out]; simp),B0.out⟩
  ·have ty:decide (y < 0) = false:=by simpa using hy
   have hs:s ≠ 0:=by rcases hc with h | h | h; exact absurd h hx; exact absurd h hy; exact h
   have ts:(s == 0) = false:=by simpa using hs
   have ts':(s != 0) = true:=by simpa using hs
   rw [if_neg hx,if_neg (fun e => hs e.2)] at HN
   clear hx hy hs hc
   have tl:decide ((L:Int) < 0) = false:=by simp
   go_enter Try.func101,Try.ntmps101
   go_wp2
   go_ret
   exact ⟨FIN.out _ (by rw [HN.out]; simp),B0.out⟩
set_option maxRecDepth 100000 in
set_option maxHeartbeats 4000000 in
theorem rnear_two (d:Pl.Dg) (hd:Pl.Wf d) (A B:Option Addr) (cp cq m:Nat) (k:Int) (x y:Nat) (o:Bool) (w:World) (hm:m = 4 * d.n) (hg:DgAt w A B d) (hx:x < 4 * d.n) (hy:y < 4 * d.n) :
 Calls Try.prog 101 #[.agg #[.slice A d.n cp,.slice B m cq,.int .i64 d.lp],.agg #[.int .i64 k,.int .i64 (x:Int),.int .i64 (y:Int),.int .i64 0,.bool o]] w fun e w' => e = .returned (.bool (Pl.vb (nearP d x y))) ∧ Below w.heap.size w w' := by
 have hn:=hd.few
 have hlp:=hd.lp
 have HD:=hide hd
 have HM:=hide hm
 have HG:=hide hg
 have hm2:m ≤ 256:=by omega
 have X0:=hide (show Row ((w.alloc (.cells #[.slice A d.n cp,.slice B m cq,.int .i64 d.lp] 24)).alloc (.cells #[.int .i64 k,.int .i64 (x:Int),.int .i64 (y:Int),.int .i64 0,.bool o] 28)) w.heap.size 24 [.slice A d.n cp,.slice B m cq,.int .i64 d.lp] from (row_at (vs := [_,_,_]) rfl).alloc _)
 have M0:=hide (show Row ((w.alloc (.cells #[.slice A d.n cp,.slice B m cq,.int .i64 d.lp] 24)).alloc (.cells #[.int .i64 k,.int .i64 (x:Int),.int .i64 (y:Int),.int .i64 0,.bool o] 28)) (w.heap.size + 1) 28 [.int .i64 k,.int .i64 (x:Int),.int .i64 (y:Int),.int .i64 0,.bool o] from row_at (vs := [_,_,_,_,_]) (by simp))
 have B0:=hide (show Below w.heap.size w ((w.alloc (.cells #[.slice A d.n cp,.slice B m cq,.int .i64 d.lp] 24)).alloc (.cells #[.int .i64 k,.int .i64 (x:Int),.int .i64 (y:Int),.int .i64 0,.bool o] 28)) from ((Below.refl _ _).alloc (Nat.le_refl _) _).alloc (by simp) _)
 have tx:decide ((x:Int) < 0) = false:=by simp
 have ty:decide ((y:Int) < 0) = false:=by simp
 have tl:decide ((d.lp:Int) < 0) = false:=by simp
 have hxm:x < m:=by omega
 have hym:y < m:=by omega
 have i0:(0:Int) ≤ (x:Int):=by omega
 have i1:(x:Int) < (m:Int):=by omega
 obtain ⟨bb,bo,rfl,mc⟩:=mate_at (HG.out.keep B0.out).m hx
 have hz4:=hd.lt x hx
 obtain ⟨z,hz⟩:∃ z,z = d.m x := ⟨_,rfl⟩
 have HZ:=hide hz
 rw [← hz] at mc hz4
 clear hm hg hd hz
 go_enter Try.func101,Try.ntmps101
 by_cases hyz:y = z
 ·have t1:((y:Int) == (z:Int)) = true:=by rw [beq_iff_eq]; omega
  have HV:=hide (show ¬ nearP d x y from fun h => h.2 (by rw [← HZ.out,hyz]))
  clear hyz
  go_wp2_with fail
  go_quiet (fail)
  go_wp2
  go_ret
  exact ⟨ret_bool (Pl.vb_false HV.out).symm,Below.drewN' B0.out _⟩
 ·have t1:((y:Int) == (z:Int)) = false:=by rw [beq_eq_false_iff_ne]; omega
  have HYZ:=hide hyz
  clear hyz
  go_wp2_with fail
  go_quiet (fail)
  go_wp2_with fail
  have BQ:=hide (Below.drewN' B0.out nq)
  refine (rpart_own d HD.out A (some ⟨bb,bo,none⟩) d.n m cp cq (.int .i64 d.lp) _ rfl HM.out (HG.out.keep BQ.out).s (by have h := (HG.out.keep BQ.out).m; rwa [← HM.out] at h)).mono ?_
  rintro e w1 ⟨ps,g,rfl,hpb,hgl,hir,hb1⟩
  have K1:=hide (show NS w [.slice A d.n cp,.slice (some ⟨bb,bo,none⟩) m cq,.int .i64 d.lp] [.int .i64 k,.int .i64 (x:Int),.int .i64 (y:Int),.int .i64 0,.bool o] g ps w1 from ⟨Row.below (X0.out.drewN nq) hb1,Row.below (M0.out.drewN nq) hb1,hir,BQ.out.trans (hb1.mono BQ.out.size)⟩)
  have HPB:=hide hpb
  have hx4:x / 4 < d.n:=by omega
  have hy4:y / 4 < d.n:=by omega
  have HPX:=hide (hpb.iff HD.out hx4 hy4)
  obtain ⟨px,hpx1,hpx2,_,_⟩:=hpb.root hx4
  obtain ⟨py,hpy1,hpy2,_,_⟩:=hpb.root hy4
  have cx:=hir.cell (i := x / 4) (by rw [hpb.len]; exact hx4)
  have cy:=hir.cell (i := y / 4) (by rw [hpb.len]; exact hy4)
  rw [hpx1] at cx
  rw [hpy1] at cy
  have HCX:=hide hpx1
  have HCY:=hide hpy1
  clear hpb hgl hir hb1 hpx1 hpy1 X0 M0 B0 BQ mc
  obtain ⟨x4,hx4e⟩:∃ z,z = x / 4 := ⟨_,rfl⟩
  obtain ⟨y4,hy4e⟩:∃ z,z = y / 4 := ⟨_,rfl⟩
  have ex4:(x:Int) / 4 = (x4:Int):=by omega
  have ey4:(y:Int) / 4 = (y4:Int):=by omega
  have et4:(x:Int).tdiv 4 = (x4:Int):=by rw [Int.tdiv_eq_ediv_of_nonneg (by omega)]; exact ex4
  have eu4:(y:Int).tdiv 4 = (y4:Int):=by rw [Int.tdiv_eq_ediv_of_nonneg (by omega)]; exact ey4
  rw [← hx4e] at cx hx4
  rw [← hy4e] at cy hy4
  have HXE:=hide hx4e
  have HYE:=hide hy4e
  clear hx4e hy4e
  have j0:(0:Int) ≤ (x4:Int):=by omega
  have j1:(x4:Int) < (d.n:Int):=by omega
  have j2:(0:Int) ≤ (y4:Int):=by omega
  have j3:(y4:Int) < (d.n:Int):=by omega
  have hw1:IntKind.i64.wrap (x4:Int) = (x4:Int):=IntWalk.i64_in _ (by omega)
  have hw2:IntKind.i64.wrap (y4:Int) = (y4:Int):=IntWalk.i64_in _ (by omega)
  obtain ⟨c0,c1,c2,_⟩:=box3 K1.out.x
  obtain ⟨m0,m1,m2,m3,m4,_⟩:=box5 K1.out.m
  by_cases hpp:px = py
  ·have t2:((px:Int) != (py:Int)) = false:=by rw [bne_eq_false_iff_eq]; omega
   have HC:=hide (show Pl.Comp d (x / 4) (y / 4) from HPX.out.1 (by rw [HCX.out,HCY.out,hpp]))
   clear hpp
   obtain ⟨p,hpN,hper⟩:=HD.out.nxb.per (x := x) hx
   have HPER:=hide hper
   have hp0:=hper.1
   clear hper
   go_upto_region 13 with fail
   go_region_held3 (fun w' => w'.cell? ⟨w.heap.size,0,none⟩ = some (.slice A d.n cp) ∧ w'.cell? ⟨w.heap.size,1,none⟩ = some (.slice (some ⟨bb,bo,none⟩) m cq) ∧ w'.cell? ⟨w.heap.size,2,none⟩ = some (.int .i64 d.lp) ∧ w'.cell? ⟨w.heap.size + 1,1,none⟩ = some (.int .i64 (x:Int)) ∧ w'.cell? ⟨w.heap.size + 1,2,none⟩ = some (.int .i64 (y:Int)) ∧ w'.cell? ⟨g,x4,none⟩ = some (.int .i64 (px:Int)) ∧ w'.cell? ⟨g,y4,none⟩ = some (.int .i64 (py:Int)) ∧ NS w [.slice A d.n cp,.slice (some ⟨bb,bo,none⟩) m cq,.int .i64 d.lp] [.int .i64 k,.int .i64 (x:Int),.int .i64 (y:Int),.int .i64 0,.bool o] g ps w')
    ((go_split_ands; refine NS.all HPB.out HXE.out HYE.out hx4 hy4 HCX.out HCY.out ?_; (repeat (first | (with_reducible assumption) | (with_reducible exact K1.out) | (with_reducible refine NS.drew ?_) | (with_reducible refine NS.below ?_ hb5)))))
    (first
      | (have hx4 := hb5
         clear hx4
         go_at_call 130
         refine Calls.mono (rin_any _ _ _ _ _ _ FA.out.ints.2 (by omega)) ?_
         rintro e w6 ⟨rfl,rfl⟩)
      | (go_at_call 64
         refine Calls.mono (rface_n d HD.out A (some ⟨bb,bo,none⟩) d.n m cp cq (.int .i64 d.lp) x p _ rfl HM.out (by have h := (HG.out.keep K1.out.drew.bel).m; rwa [← HM.out] at h) hx HPER.out hpN) ?_
         rintro e w5 ⟨A5,c5,rfl,own5,hb5⟩
         have FA:=hide (show FaceAt w5 (.slice A5 p c5) (Pl.cyc (Pl.nx d) x p) from ⟨A5,c5,by rw [Pl.cyc_len],by rw [Pl.cyc_len]; exact own_rowT own5⟩)
         clear own5))
   have HV:=hide (near_cyc HC.out (show d.m x ≠ y from fun e => HYZ.out (by rw [HZ.out,e])) HPER.out)
   have B9:=hide (K1.out.drew.below hb5).bel
   clear hb5 c0 c1 c2 m0 m1 m2 m3 m4 cx cy t2
   go_wp2
   go_ret
   exact ⟨ret_bool HV.out,B9.out⟩
  ·have t2:((px:Int) != (py:Int)) = true:=by rw [bne_iff_ne]; omega
   have HV:=hide (show nearP d x y from ⟨.inr (fun h => hpp (by have := HPX.out.2 h; rw [HCX.out,HCY.out] at this; omega)),fun e => HYZ.out (by rw [HZ.out,e])⟩)
   clear hpp
   go_wp2_with fail
   go_quiet (fail)
   go_wp2
   go_ret
   exact ⟨ret_bool (Pl.vb_true HV.out).symm,Below.drewN' K1.out.bel _⟩
theorem rnear_any (d:Pl.Dg) (hd:Pl.Wf d) (A B:Option Addr) (cp cq m:Nat) (k x y s:Int) (o:Bool) (w:World) (hm:m = 4 * d.n) (hg:DgAt w A B d) (hx:x < 4 * d.n) (hy:y < 4 * d.n) :
 Calls Try.prog 101 #[.agg #[.slice A d.n cp,.slice B m cq,.int .i64 d.lp],.agg #[.int .i64 k,.int .i64 x,.int .i64 y,.int .i64 s,.bool o]] w fun e w' => e = .returned (.bool (Pl.vb (nearR d x y s))) ∧ Below w.heap.size w w' := by
 by_cases hc:x < 0 ∨ y < 0 ∨ s ≠ 0
 ·exact rnear_far d A B cp cq m k x y s o w hd.lp hc
 ·obtain ⟨x',rfl⟩:=Int.eq_ofNat_of_zero_le (show 0 ≤ x by omega)
  obtain ⟨y',rfl⟩:=Int.eq_ofNat_of_zero_le (show 0 ≤ y by omega)
  obtain rfl:s = 0 := by omega
  refine (rnear_two d hd A B cp cq m k x' y' o w hm hg (by omega) (by omega)).mono ?_
  rintro e w' ⟨rfl,hb⟩
  refine ⟨ret_bool ?_,hb⟩
  rw [Bool.eq_iff_iff,Pl.vb_iff,Pl.vb_iff]
  unfold nearR needP
  rw [if_neg (by omega),if_neg (by omega),Int.toNat_natCast,Int.toNat_natCast]
  constructor
  ·intro h; exact ⟨by omega,.inr (.inr (.inr h))⟩
  ·rintro ⟨_,h | h | h | h⟩
   ·omega
   ·omega
   ·exact absurd rfl h
   ·exact h
end Go.Proofs.Ytobbepmlmbbamaa
end
