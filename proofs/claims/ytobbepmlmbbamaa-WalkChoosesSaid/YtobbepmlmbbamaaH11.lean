/-
 The texts Rk, Lbp, Lbq, Lg, Li, Lj.
-/
import Derived.Test.YtobbepmlmbbamaaH08
set_option linter.unusedVariables false
set_option linter.unusedSimpArgs false
section
namespace Go.Proofs.Ytobbepmlmbbamaa
open Go Go.RowKit
attribute [local go_sem ↓] Go.wp_at_zero Go.wp_at_succ
def nearR (d:Pl.Dg)(x y s:Int):Prop:=¬(d.lp<needP x y s)∧(x<0∨y<0∨s≠0∨nearP d x.toNat y.toNat)
structure NS (w:World) (dv mv:List Value) (g:Nat) (ps:List Int) (W:World):Prop where
 x:Row W w.heap.size 24 dv
 m:Row W (w.heap.size+1) 28 mv
 p:IRow W g ps
 bel:Below w.heap.size w W
theorem NS.below {w:World}{dv mv:List Value}{g:Nat}{ps:List Int}{W W':World}(h:NS w dv mv g ps W)(hb:Below W.heap.size W W'):NS w dv mv g ps W' :=
 ⟨h.x.below hb,h.m.below hb,Row.below h.p hb,h.bel.trans (hb.mono h.bel.size)⟩
theorem NS.drew {w:World}{dv mv:List Value}{g:Nat}{ps:List Int}{W:World}(h:NS w dv mv g ps W):NS w dv mv g ps W.drew:=⟨h.x,h.m,h.p,h.bel.drew⟩
theorem NS.all {w:World}{a b c k x y s o:Value}{g:Nat}{ps:List Int}{W:World}{x' y' u v p q:Nat}{d:Pl.Dg}(hp:Pl.PB d ps)(eu:u=x' / 4)(ev:v=y' / 4)(hu:u<d.n)(hv:v<d.n)(e1:Pl.pv ps (x' / 4)=p)(e2:Pl.pv ps (y' / 4)=q)(h:NS w [a,b,c] [k,x,y,s,o] g ps W) :
 W.cell? ⟨w.heap.size,0,none⟩=some a∧W.cell? ⟨w.heap.size,1,none⟩=some b∧W.cell? ⟨w.heap.size,2,none⟩=some c∧W.cell? ⟨w.heap.size+1,1,none⟩=some x∧W.cell? ⟨w.heap.size+1,2,none⟩=some y∧W.cell? ⟨g,u,none⟩=some (.int .i64 (p:Int))∧W.cell? ⟨g,v,none⟩=some (.int .i64 (q:Int))∧NS w [a,b,c] [k,x,y,s,o] g ps W:=by
 have c1:=h.p.cell (i:=u) (by rw [hp.len];exact hu)
 have c2:=h.p.cell (i:=v) (by rw [hp.len];exact hv)
 rw [eu,e1] at c1
 rw [ev,e2] at c2
 exact ⟨h.x.cell (i:=0) (by simp),h.x.cell (i:=1) (by simp),h.x.cell (i:=2) (by simp),h.m.cell (i:=1) (by simp),h.m.cell (i:=2) (by simp),by rw [eu];exact c1,by rw [ev];exact c2,h⟩
theorem near_cyc {d:Pl.Dg}{x y p:Nat}(hc:Pl.Comp d (x / 4) (y / 4))(hm:d.m x≠y)(hp:Pl.Per (Pl.nx d) x p):decide ((y:Int) ∈ nats (Pl.cyc (Pl.nx d) x p))=Pl.vb (nearP d x y):=by
 rw [Bool.eq_iff_iff,Pl.vb_iff,decide_eq_true_eq]
 have h1:(y:Int) ∈ nats (Pl.cyc (Pl.nx d) x p)↔y ∈ Pl.cyc (Pl.nx d) x p:=by
  unfold nats
  rw [List.mem_map]
  constructor
  ·rintro ⟨z,hz,e⟩
   have:z=y:=by omega
   rwa [←this]
  ·intro h;exact ⟨y,h,rfl⟩
 rw [h1,Pl.mem_cyc hp]
 unfold nearP
 constructor
 ·intro h;exact ⟨.inl h,hm⟩
 ·rintro ⟨h | h,_⟩
  ·exact h
  ·exact absurd hc h
theorem rpart_own (d:Pl.Dg)(hd:Pl.Wf d)(A B:Option Addr)(n q cp cq:Nat)(l:Value)(w:World)(e:n=d.n)(hm:q=4 * d.n)(hs:IntsAt w A n d.sg)(hb:IntsAt w B q (nats d.mt)) :
 Calls Try.prog 63 #[.agg #[.slice A n cp,.slice B q cq,l]] w fun e w' =>
  ∃(ps:List Int) (g:Nat),e = .returned (.slice (some ⟨g,0,none⟩) n n)∧Pl.PB d ps∧w.heap.size≤g∧IRow w' g ps∧Below w.heap.size w w':=rpart_n d hd A B n q cp cq l w e hm hs hb
set_option maxRecDepth 100000 in
set_option maxHeartbeats 4000000 in
theorem rnear_far (d:Pl.Dg)(A B:Option Addr)(cp cq m:Nat)(k x y s:Int)(o:Bool)(w:World)(hlp:d.lp≤64)(hc:x<0∨y<0∨s≠0) :
 Calls Try.prog 101 #[.agg #[.slice A d.n cp,.slice B m cq,.int .i64 d.lp],.agg #[.int .i64 k,.int .i64 x,.int .i64 y,.int .i64 s,.bool o]] w fun e w'=>e = .returned (.bool (Pl.vb (nearR d x y s)))∧Below w.heap.size w w':=by
 have B0:=hide (show Below w.heap.size w ((w.alloc (.cells #[.slice A d.n cp,.slice B m cq,.int .i64 d.lp] 24)).alloc (.cells #[.int .i64 k,.int .i64 x,.int .i64 y,.int .i64 s,.bool o] 28)) from ((Below.refl _ _).alloc (Nat.le_refl _) _).alloc (by simp) _)
 obtain ⟨L,hL⟩:∃L,L=d.lp:=⟨_,rfl⟩
 have HV:=hide (show nearR d x y s↔¬(L<needP x y s) by rw [hL];exact ⟨fun h=>h.1,fun h=>⟨h,hc.elim .inl fun h => .inr (h.elim .inl fun h => .inr (.inl h))⟩⟩)
 have HN:=hide (show needP x y s=(if x<0 then 1 else 0)+(if y<0∧s=0 then 1 else 0) from rfl)
 rw [←hL] at hlp B0 ⊢
 clear hL
 obtain ⟨N,hN⟩:∃N,N=d.n:=⟨_,rfl⟩
 rw [←hN] at B0 ⊢
 clear hN
 obtain ⟨R,hR⟩:∃R,R=Pl.vb (nearR d x y s):=⟨_,rfl⟩
 rw [←hR]
 have HR:=hide (show (R=true↔¬(L<needP x y s)) by rw [hR,Pl.vb_iff];exact HV.out)
 clear hR HV
 have fin:∀b:Bool,(b=true↔¬(L<needP x y s))→Ending.returned (.bool b)=Ending.returned (.bool R):=fun b h=>ret_bool (by rw [Bool.eq_iff_iff,h];exact HR.out.symm)
 have FIN:=hide fin
 clear fin HR
 by_cases hx:x<0
 ·have tx:decide (x<0)=true:=by simpa using hx
  by_cases hy:y<0
  ·have ty:decide (y<0)=true:=by simpa using hy
   by_cases hs:s=0
   ·have ts:(s == 0)=true:=by simpa using hs
    have ts':(s != 0)=false:=by simpa using hs
    rw [if_pos hx,if_pos ⟨hy,hs⟩] at HN
    clear hx hy hs hc
    by_cases hl:L<2
    ·have tl:decide ((L:Int)<2)=true:=by simp;omega
     go_enter Try.func101,Try.ntmps101
     go_wp2
     go_ret
     exact ⟨FIN.out _ (by rw [HN.out];simp;omega),B0.out⟩
    ·have tl:decide ((L:Int)<2)=false:=by simp;omega
     go_enter Try.func101,Try.ntmps101
     go_wp2
     go_ret
     exact ⟨FIN.out _ (by rw [HN.out];simp;omega),B0.out⟩
   ·have ts:(s == 0)=false:=by simpa using hs
    have ts':(s != 0)=true:=by simpa using hs
    rw [if_pos hx,if_neg (fun e=>hs e.2)] at HN
    clear hx hy hs hc
    by_cases hl:L<1
    ·have tl:decide ((L:Int)<1)=true:=by simp;omega
     go_enter Try.func101,Try.ntmps101
     go_wp2
     go_ret
     exact ⟨FIN.out _ (by rw [HN.out];simp;omega),B0.out⟩
    ·have tl:decide ((L:Int)<1)=false:=by simp;omega
     go_enter Try.func101,Try.ntmps101
     go_wp2
     go_ret
     exact ⟨FIN.out _ (by rw [HN.out];simp;omega),B0.out⟩
  ·have ty:decide (y<0)=false:=by simpa using hy
   rw [if_pos hx,if_neg (fun e=>hy e.1)] at HN
   clear hx hy hc
   by_cases hl:L<1
   ·have tl:decide ((L:Int)<1)=true:=by simp;omega
    go_enter Try.func101,Try.ntmps101
    go_wp2
    go_ret
    exact ⟨FIN.out _ (by rw [HN.out];simp;omega),B0.out⟩
   ·have tl:decide ((L:Int)<1)=false:=by simp;omega
    go_enter Try.func101,Try.ntmps101
    go_wp2
    go_ret
    exact ⟨FIN.out _ (by rw [HN.out];simp;omega),B0.out⟩
 ·have tx:decide (x<0)=false:=by simpa using hx
  by_cases hy:y<0
  ·have ty:decide (y<0)=true:=by simpa using hy
   by_cases hs:s=0
   ·have ts:(s == 0)=true:=by simpa using hs
    have ts':(s != 0)=false:=by simpa using hs
    rw [if_neg hx,if_pos ⟨hy,hs⟩] at HN
    clear hx hy hs hc
    by_cases hl:L<1
    ·have tl:decide ((L:Int)<1)=true:=by simp;omega
     go_enter Try.func101,Try.ntmps101
     go_wp2
     go_ret
     exact ⟨FIN.out _ (by rw [HN.out];simp;omega),B0.out⟩
    ·have tl:decide ((L:Int)<1)=false:=by simp;omega
     go_enter Try.func101,Try.ntmps101
     go_wp2
     go_ret
     exact ⟨FIN.out _ (by rw [HN.out];simp;omega),B0.out⟩
   ·have ts:(s == 0)=false:=by simpa using hs
    have ts':(s != 0)=true:=by simpa using hs
    rw [if_neg hx,if_neg (fun e=>hs e.2)] at HN
    clear hx hy hs hc
    have tl:decide ((L:Int)<0)=false:=by simp
    go_enter Try.func101,Try.ntmps101
    go_wp2
    go_ret
    exact ⟨FIN.out _ (by rw [HN.out];simp),B0.out⟩
  ·have ty:decide (y<0)=false:=by simpa using hy
   have hs:s≠0:=by rcases hc with h | h | h;exact absurd h hx;exact absurd h hy;exact h
   have ts:(s == 0)=false:=by simpa using hs
   have ts':(s != 0)=true:=by simpa using hs
   rw [if_neg hx,if_neg (fun e=>hs e.2)] at HN
   clear hx hy hs hc
   have tl:decide ((L:Int)<0)=false:=by simp
   go_enter Try.func101,Try.ntmps101
   go_wp2
   go_ret
   exact ⟨FIN.out _ (by rw [HN.out];simp),B0.out⟩
set_option maxRecDepth 100000 in
set_option maxHeartbeats 4000000 in
theorem rnear_two (d:Pl.Dg)(hd:Pl.Wf d)(A B:Option Addr)(cp cq m:Nat)(k:Int)(x y:Nat)(o:Bool)(w:World)(hm:m=4 * d.n)(hg:DgAt w A B d)(hx:x<4 * d.n)(hy:y<4 * d.n) :
 Calls Try.prog 101 #[.agg #[.slice A d.n cp,.slice B m cq,.int .i64 d.lp],.agg #[.int .i64 k,.int .i64 (x:Int),.int .i64 (y:Int),.int .i64 0,.bool o]] w fun e w'=>e = .returned (.bool (Pl.vb (nearP d x y)))∧Below w.heap.size w w':=by
 have hn:=hd.few
 have hlp:=hd.lp
 have HD:=hide hd
 have HM:=hide hm
 have HG:=hide hg
 have hm2:m≤256:=by omega
 have X0:=hide (show Row ((w.alloc (.cells #[.slice A d.n cp,.slice B m cq,.int .i64 d.lp] 24)).alloc (.cells #[.int .i64 k,.int .i64 (x:Int),.int .i64 (y:Int),.int .i64 0,.bool o] 28)) w.heap.size 24 [.slice A d.n cp,.slice B m cq,.int .i64 d.lp] from (row_at (vs:=[_,_,_]) rfl).alloc _)
 have M0:=hide (show Row ((w.alloc (.cells #[.slice A d.n cp,.slice B m cq,.int .i64 d.lp] 24)).alloc (.cells #[.int .i64 k,.int .i64 (x:Int),.int .i64 (y:Int),.int .i64 0,.bool o] 28)) (w.heap.size+1) 28 [.int .i64 k,.int .i64 (x:Int),.int .i64 (y:Int),.int .i64 0,.bool o] from row_at (vs:=[_,_,_,_,_]) (by simp))
 have B0:=hide (show Below w.heap.size w ((w.alloc (.cells #[.slice A d.n cp,.slice B m cq,.int .i64 d.lp] 24)).alloc (.cells #[.int .i64 k,.int .i64 (x:Int),.int .i64 (y:Int),.int .i64 0,.bool o] 28)) from ((Below.refl _ _).alloc (Nat.le_refl _) _).alloc (by simp) _)
 have tx:decide ((x:Int)<0)=false:=by simp
 have ty:decide ((y:Int)<0)=false:=by simp
 have tl:decide ((d.lp:Int)<0)=false:=by simp
 have hxm:x<m:=by omega
 have hym:y<m:=by omega
 have i0:(0:Int)≤(x:Int):=by omega
 have i1:(x:Int)<(m:Int):=by omega
 obtain ⟨bb,bo,rfl,mc⟩:=mate_at (HG.out.keep B0.out).m hx
 have hz4:=hd.lt x hx
 obtain ⟨z,hz⟩:∃z,z=d.m x:=⟨_,rfl⟩
 have HZ:=hide hz
 rw [←hz] at mc hz4
 clear hm hg hd hz
 go_enter Try.func101,Try.ntmps101
 by_cases hyz:y=z
 ·have t1:((y:Int) == (z:Int))=true:=by rw [beq_iff_eq];omega
  have HV:=hide (show ¬nearP d x y from fun h=>h.2 (by rw [←HZ.out,hyz]))
  clear hyz
  go_wp2_with fail
  go_quiet (fail)
  go_wp2
  go_ret
  exact ⟨ret_bool (Pl.vb_false HV.out).symm,Below.drewN' B0.out _⟩
 ·have t1:((y:Int) == (z:Int))=false:=by rw [beq_eq_false_iff_ne];omega
  have HYZ:=hide hyz
  clear hyz
  go_wp2_with fail
  go_quiet (fail)
  go_wp2_with fail
  have BQ:=hide (Below.drewN' B0.out nq)
  refine (rpart_own d HD.out A (some ⟨bb,bo,none⟩) d.n m cp cq (.int .i64 d.lp) _ rfl HM.out (HG.out.keep BQ.out).s (by have h:=(HG.out.keep BQ.out).m;rwa [←HM.out] at h)).mono ?_
  rintro e w1 ⟨ps,g,rfl,hpb,hgl,hir,hb1⟩
  have K1:=hide (show NS w [.slice A d.n cp,.slice (some ⟨bb,bo,none⟩) m cq,.int .i64 d.lp] [.int .i64 k,.int .i64 (x:Int),.int .i64 (y:Int),.int .i64 0,.bool o] g ps w1 from ⟨Row.below (X0.out.drewN nq) hb1,Row.below (M0.out.drewN nq) hb1,hir,BQ.out.trans (hb1.mono BQ.out.size)⟩)
  have HPB:=hide hpb
  have hx4:x / 4<d.n:=by omega
  have hy4:y / 4<d.n:=by omega
  have HPX:=hide (hpb.iff HD.out hx4 hy4)
  obtain ⟨px,hpx1,hpx2,_,_⟩:=hpb.root hx4
  obtain ⟨py,hpy1,hpy2,_,_⟩:=hpb.root hy4
  have cx:=hir.cell (i:=x / 4) (by rw [hpb.len];exact hx4)
  have cy:=hir.cell (i:=y / 4) (by rw [hpb.len];exact hy4)
  rw [hpx1] at cx
  rw [hpy1] at cy
  have HCX:=hide hpx1
  have HCY:=hide hpy1
  clear hpb hgl hir hb1 hpx1 hpy1 X0 M0 B0 BQ mc
  obtain ⟨x4,hx4e⟩:∃z,z=x / 4:=⟨_,rfl⟩
  obtain ⟨y4,hy4e⟩:∃z,z=y / 4:=⟨_,rfl⟩
  have ex4:(x:Int) / 4=(x4:Int):=by omega
  have ey4:(y:Int) / 4=(y4:Int):=by omega
  have et4:(x:Int).tdiv 4=(x4:Int):=by rw [Int.tdiv_eq_ediv_of_nonneg (by omega)];exact ex4
  have eu4:(y:Int).tdiv 4=(y4:Int):=by rw [Int.tdiv_eq_ediv_of_nonneg (by omega)];exact ey4
  rw [←hx4e] at cx hx4
  rw [←hy4e] at cy hy4
  have HXE:=hide hx4e
  have HYE:=hide hy4e
  clear hx4e hy4e
  have j0:(0:Int)≤(x4:Int):=by omega
  have j1:(x4:Int)<(d.n:Int):=by omega
  have j2:(0:Int)≤(y4:Int):=by omega
  have j3:(y4:Int)<(d.n:Int):=by omega
  have hw1:IntKind.i64.wrap (x4:Int)=(x4:Int):=IntWalk.i64_in _ (by omega)
  have hw2:IntKind.i64.wrap (y4:Int)=(y4:Int):=IntWalk.i64_in _ (by omega)
  obtain ⟨c0,c1,c2,_⟩:=box3 K1.out.x
  obtain ⟨m0,m1,m2,m3,m4,_⟩:=box5 K1.out.m
  by_cases hpp:px=py
  ·have t2:((px:Int) != (py:Int))=false:=by rw [bne_eq_false_iff_eq];omega
   have HC:=hide (show Pl.Comp d (x / 4) (y / 4) from HPX.out.1 (by rw [HCX.out,HCY.out,hpp]))
   clear hpp
   obtain ⟨p,hpN,hper⟩:=HD.out.nxb.per (x:=x) hx
   have HPER:=hide hper
   have hp0:=hper.1
   clear hper
   go_upto_region 13 with fail
   go_region_held3 (fun w'=>w'.cell? ⟨w.heap.size,0,none⟩=some (.slice A d.n cp)∧w'.cell? ⟨w.heap.size,1,none⟩=some (.slice (some ⟨bb,bo,none⟩) m cq)∧w'.cell? ⟨w.heap.size,2,none⟩=some (.int .i64 d.lp)∧w'.cell? ⟨w.heap.size+1,1,none⟩=some (.int .i64 (x:Int))∧w'.cell? ⟨w.heap.size+1,2,none⟩=some (.int .i64 (y:Int))∧w'.cell? ⟨g,x4,none⟩=some (.int .i64 (px:Int))∧w'.cell? ⟨g,y4,none⟩=some (.int .i64 (py:Int))∧NS w [.slice A d.n cp,.slice (some ⟨bb,bo,none⟩) m cq,.int .i64 d.lp] [.int .i64 k,.int .i64 (x:Int),.int .i64 (y:Int),.int .i64 0,.bool o] g ps w')
    ((go_split_ands;refine NS.all HPB.out HXE.out HYE.out hx4 hy4 HCX.out HCY.out ?_;(repeat (first | (with_reducible assumption) | (with_reducible exact K1.out) | (with_reducible refine NS.drew ?_) | (with_reducible refine NS.below ?_ hb5)))))
    (first
      | (have hx4 := hb5
         clear hx4
         go_at_call 130
         refine Calls.mono (rin_any _ _ _ _ _ _ FA.out.ints.2 (by omega)) ?_
         rintro e w6 ⟨rfl,rfl⟩)
      | (go_at_call 64
         refine Calls.mono (rface_n d HD.out A (some ⟨bb,bo,none⟩) d.n m cp cq (.int .i64 d.lp) x p _ rfl HM.out (by have h:=(HG.out.keep K1.out.drew.bel).m;rwa [←HM.out] at h) hx HPER.out hpN) ?_
         rintro e w5 ⟨A5,c5,rfl,own5,hb5⟩
         have FA:=hide (show FaceAt w5 (.slice A5 p c5) (Pl.cyc (Pl.nx d) x p) from ⟨A5,c5,by rw [Pl.cyc_len],by rw [Pl.cyc_len];exact own_rowT own5⟩)
         clear own5))
   have HV:=hide (near_cyc HC.out (show d.m x≠y from fun e=>HYZ.out (by rw [HZ.out,e])) HPER.out)
   have B9:=hide (K1.out.drew.below hb5).bel
   clear hb5 c0 c1 c2 m0 m1 m2 m3 m4 cx cy t2
   go_wp2
   go_ret
   exact ⟨ret_bool HV.out,B9.out⟩
  ·have t2:((px:Int) != (py:Int))=true:=by rw [bne_iff_ne];omega
   have HV:=hide (show nearP d x y from ⟨.inr (fun h=>hpp (by have:=HPX.out.2 h;rw [HCX.out,HCY.out] at this;omega)),fun e=>HYZ.out (by rw [HZ.out,e])⟩)
   clear hpp
   go_wp2_with fail
   go_quiet (fail)
   go_wp2
   go_ret
   exact ⟨ret_bool (Pl.vb_true HV.out).symm,Below.drewN' K1.out.bel _⟩
theorem rnear_any (d:Pl.Dg)(hd:Pl.Wf d)(A B:Option Addr)(cp cq m:Nat)(k x y s:Int)(o:Bool)(w:World)(hm:m=4 * d.n)(hg:DgAt w A B d)(hx:x<4 * d.n)(hy:y<4 * d.n) :
 Calls Try.prog 101 #[.agg #[.slice A d.n cp,.slice B m cq,.int .i64 d.lp],.agg #[.int .i64 k,.int .i64 x,.int .i64 y,.int .i64 s,.bool o]] w fun e w'=>e = .returned (.bool (Pl.vb (nearR d x y s)))∧Below w.heap.size w w':=by
 by_cases hc:x<0∨y<0∨s≠0
 ·exact rnear_far d A B cp cq m k x y s o w hd.lp hc
 ·obtain ⟨x',rfl⟩:=Int.eq_ofNat_of_zero_le (show 0≤x by omega)
  obtain ⟨y',rfl⟩:=Int.eq_ofNat_of_zero_le (show 0≤y by omega)
  obtain rfl:s=0:=by omega
  refine (rnear_two d hd A B cp cq m k x' y' o w hm hg (by omega) (by omega)).mono ?_
  rintro e w' ⟨rfl,hb⟩
  refine ⟨ret_bool ?_,hb⟩
  rw [Bool.eq_iff_iff,Pl.vb_iff,Pl.vb_iff]
  unfold nearR needP
  rw [if_neg (by omega),if_neg (by omega),Int.toNat_natCast,Int.toNat_natCast]
  constructor
  ·intro h;exact ⟨by omega,.inr (.inr (.inr h))⟩
  ·rintro ⟨_,h | h | h | h⟩
   ·omega
   ·omega
   ·exact absurd rfl h
   ·exact h
end Go.Proofs.Ytobbepmlmbbamaa
end
section
namespace Go.Proofs.Ytobbepmlmbbamaa.Pl
variable {d:Dg}
def lstep (d:Dg)(ps:List Int)(h:Nat):List Int:=(ps.set (h / 4) (min (pv ps (h / 4)) (pv ps (d.m h / 4)))).set (d.m h / 4) (min (pv ps (h / 4)) (pv ps (d.m h / 4)))
def lrun (d:Dg)(ps:List Int):Nat→List Int
 | 0=>ps
 | h+1=>lstep d (lrun d ps h) h
def lpass (d:Dg):Nat→List Int
 | 0=>ids d.n d.n
 | p+1=>lrun d (lpass d p) (4 * d.n)
theorem lstep_pv (hd:Wf d){ps:List Int}(hl:ps.length=d.n){h c:Nat}(hh:h<4 * d.n):pv (lstep d ps h) c=if c=h / 4∨c=d.m h / 4 then min (pv ps (h / 4)) (pv ps (d.m h / 4)) else pv ps c:=by
 have hm:=hd.lt h hh
 unfold lstep
 rw [pv_set (by rw [List.length_set];omega),pv_set (by omega)]
 by_cases e1:c=d.m h / 4
 ·rw [if_pos e1,if_pos (.inr e1)]
 ·rw [if_neg e1]
  by_cases e2:c=h / 4
  ·rw [if_pos e2,if_pos (.inl e2)]
  ·rw [if_neg e2,if_neg (fun e=>e.elim e2 e1)]
theorem comp_sym (hd:Wf d){a b:Nat}(ha:a<d.n)(e:Comp d a b):Comp d b a:=hd.hm.con_symm (by unfold dart;omega) e
theorem PI.lstep (hd:Wf d){ps:List Int}(h:PI d ps){x:Nat}(hx:x<4 * d.n):PI d (lstep d ps x)∧(∀c,c<d.n→pv (Pl.lstep d ps x) c≤pv ps c)∧pv (Pl.lstep d ps x) (d.m x / 4)≤pv ps (x / 4):=by
 have hm:=hd.lt x hx
 have cm:=comp_m hd hx
 have cm':=comp_sym hd (show x / 4<d.n by omega) cm
 refine ⟨⟨by unfold Pl.lstep;rw [List.length_set,List.length_set];exact h.len,fun c hc=>?_⟩,fun c hc=>?_,?_⟩
 ·rw [lstep_pv hd h.len hx]
  by_cases e:c=x / 4∨c=d.m x / 4
  ·rw [if_pos e]
   obtain ⟨b,e1,e2,e3⟩:=h.is (x / 4) (by omega)
   obtain ⟨b',f1,f2,f3⟩:=h.is (d.m x / 4) (by omega)
   rcases Int.le_total (pv ps (x / 4)) (pv ps (d.m x / 4)) with g | g
   ·rw [Int.min_eq_left g]
    refine ⟨b,e1,?_,?_⟩
    ·rcases e with e | e <;> omega
    ·rcases e with e | e
     ·rw [e];exact e3
     ·rw [e];exact cm'.trans e3
   ·rw [Int.min_eq_right g]
    refine ⟨b',f1,?_,?_⟩
    ·rcases e with e | e <;> omega
    ·rcases e with e | e
     ·rw [e];exact cm.trans f3
     ·rw [e];exact f3
  ·rw [if_neg e];exact h.is c hc
 ·rw [lstep_pv hd h.len hx]
  by_cases e:c=x / 4∨c=d.m x / 4
  ·rw [if_pos e]
   rcases e with e | e
   ·rw [e];exact Int.min_le_left _ _
   ·rw [e];exact Int.min_le_right _ _
  ·rw [if_neg e];exact Int.le_refl _
 ·rw [lstep_pv hd h.len hx,if_pos (.inr rfl)]
  exact Int.min_le_left _ _
def Gd (d:Dg)(ps:List Int)(c:Nat):Prop:=∀b,b<d.n→Comp d c b→pv ps c≤(b:Int)
theorem PI.lrun (hd:Wf d){ps:List Int}(h:PI d ps):∀k,k≤4 * d.n→PI d (lrun d ps k)∧(∀c,c<d.n→pv (Pl.lrun d ps k) c≤pv ps c)∧(∀x,x<k→Gd d ps (x / 4)→Gd d (Pl.lrun d ps k) (d.m x / 4))
 | 0,_=>⟨h,fun c hc=>Int.le_refl _,fun x hx=>absurd hx (by omega)⟩
 | k + 1, hk => by
   obtain ⟨h1,h2,h3⟩:=PI.lrun hd h k (by omega)
   obtain ⟨g1,g2,g3⟩:=h1.lstep hd (x:=k) (by omega)
   refine ⟨g1,fun c hc=>Int.le_trans (g2 c hc) (h2 c hc),fun x hx hg=>?_⟩
   have hx4:x<4 * d.n:=by omega
   have hmx:=hd.lt x hx4
   by_cases e:x=k
   ·subst e
    intro b hb hc
    have a1:=hg b hb ((comp_m hd hx4).trans hc)
    have a2:=h2 (x / 4) (by omega)
    exact Int.le_trans g3 (Int.le_trans a2 a1)
   ·intro b hb hc
    have a1:=h3 x (by omega) hg b hb hc
    exact Int.le_trans (g2 _ (by omega)) a1
theorem PI.lpass (hd:Wf d):∀p,PI d (lpass d p)
 | 0=>PI.start d
 | p+1=>(PI.lrun hd (PI.lpass hd p) _ (Nat.le_refl _)).1
theorem cnt_all {p:Nat→Prop}:∀N,cnt p N=N→∀x,x<N→p x
 | 0,_,x,hx=>absurd hx (by omega)
 | N + 1, h, x, hx => by
   have t:=cnt_top p N
   by_cases e:p N
   ·rw [cnt_step_pos e] at h
    by_cases e2:x=N
    ·rw [e2];exact e
    ·exact cnt_all N (by omega) x (by omega)
   ·rw [cnt_step_neg e] at h;omega
theorem cnt_imp {p q:Nat→Prop}:∀N,(∀x,x<N→p x→q x)→cnt p N≤cnt q N
 | 0,_=>Nat.le_refl _
 | N + 1, h => by
   have a:=cnt_imp N (fun x hx=>h x (by omega))
   by_cases e:p N
   ·rw [cnt_step_pos e,cnt_step_pos (h N (by omega) e)];omega
   ·rw [cnt_step_neg e]
    have:=cnt_mono q (Nat.le_succ N)
    exact Nat.le_trans a this
theorem cnt_imp_lt {p q:Nat→Prop}:∀N,(∀x,x<N→p x→q x)→∀y,y<N→¬p y→q y→cnt p N<cnt q N
 | 0,_,y,hy,_,_=>absurd hy (by omega)
 | N + 1, h, y, hy, h1, h2 => by
   by_cases e:y=N
   ·subst e
    rw [cnt_step_neg h1,cnt_step_pos h2]
    have:=cnt_imp y (fun x hx=>h x (by omega))
    omega
   ·have a:=cnt_imp_lt N (fun x hx=>h x (by omega)) y (by omega) h1 h2
    by_cases e:p N
    ·rw [cnt_step_pos e,cnt_step_pos (h N (by omega) e)];omega
    ·rw [cnt_step_neg e]
     have:=cnt_mono q (Nat.le_succ N)
     exact Nat.lt_of_lt_of_le a this
theorem comp_least {c:Nat}(hc:c<d.n):∃r,r<d.n∧Comp d c r∧∀b,b<d.n→Comp d c b→r≤b:=by
 have:∀k c',c'<k→c'<d.n→Comp d c c'→∃r,r<d.n∧Comp d c r∧∀b,b<d.n→Comp d c b→r≤b:=by
  intro k
  induction k with
  | zero=>intro c' h;omega
  | succ k ih =>
    intro c' h1 h2 h3
    rcases Classical.em (∃b,b<c'∧b<d.n∧Comp d c b) with ⟨b,e1,e2,e3⟩ | e
    ·exact ih b (by omega) e2 e3
    ·exact ⟨c',h2,h3,fun b hb hcb=>Classical.byContradiction fun q=>e ⟨b,by omega,hb,hcb⟩⟩
 exact this (c+1) c (by omega) hc .refl
theorem Gd.closed (hd:Wf d){ps:List Int}(h:PI d ps)(hcl:∀x,x<4 * d.n→Gd d ps (x / 4)→Gd d ps (d.m x / 4)):∀c,c<d.n→Gd d ps c:=by
 intro c hc
 obtain ⟨r,r1,r2,r3⟩:=comp_least hc
 have gr:Gd d ps r:=fun b hb hcb=>by
  have a:=(h.nat r1).2
  have b':=r3 b hb (r2.trans hcb)
  omega
 have:=con_sub hd.hm (R:=fun x y=>Gd d ps (x / 4)↔Gd d ps (y / 4)) ⟨fun _ _=>Iff.rfl,fun _ _ _ _ e=>e.symm,fun _ _ _ _ _ _ e e'=>e.trans e'⟩
  (fun x _ => by show Gd d ps (x / 4) ↔ Gd d ps (rot x / 4); unfold rot; rw [tn_div]) (fun x hx => ⟨hcl x hx, fun g => by
    have:=hcl (d.m x) (hd.lt x hx) g
    rwa [hd.inv x hx] at this⟩) (x:=4 * r) (y:=4 * c) (by unfold dart;omega) (comp_sym hd hc r2)
 simp only [Nat.mul_div_cancel_left _ (show 0<4 by omega)] at this
 exact this.1 gr
theorem Gd.count (hd:Wf d):∀p,p≤d.n→p≤cnt (Gd d (lpass d p)) d.n∨∀c,c<d.n→Gd d (lpass d p) c
 | 0,_ => .inl (Nat.zero_le _)
 | p + 1, hp => by
   have h:=PI.lpass hd p
   obtain ⟨h1,h2,h3⟩:=h.lrun hd (4 * d.n) (Nat.le_refl _)
   have hk:∀c,c<d.n→Gd d (lpass d p) c→Gd d (lpass d (p+1)) c:=fun c hc g b hb hcb=>Int.le_trans (h2 c hc) (g b hb hcb)
   rcases Gd.count hd p (by omega) with a | a
   ·rcases Classical.em (∀x,x<4 * d.n→Gd d (lpass d p) (x / 4)→Gd d (lpass d p) (d.m x / 4)) with e | e
    ·exact .inr fun c hc=>hk c hc (Gd.closed hd h e c hc)
    ·have:∃x,x<4 * d.n∧Gd d (lpass d p) (x / 4)∧¬Gd d (lpass d p) (d.m x / 4):=Classical.byContradiction fun q=>e fun x hx g=>Classical.byContradiction fun q'=>q ⟨x,hx,g,q'⟩
     obtain ⟨x,x1,x2,x3⟩:=this
     have hm:=hd.lt x x1
     have:=cnt_imp_lt (p:=Gd d (lpass d p)) (q:=Gd d (lpass d (p+1))) d.n hk (d.m x / 4) (by omega) x3 (h3 x x1 x2)
     exact .inl (by omega)
   ·exact .inr fun c hc=>hk c hc (a c hc)
theorem lpass_done (hd:Wf d):PB d (lpass d d.n):=by
 have h:=PI.lpass hd d.n
 have hg:∀c,c<d.n→Gd d (lpass d d.n) c:=by
  rcases Gd.count hd d.n (Nat.le_refl _) with a | a
  ·exact cnt_all d.n (Nat.le_antisymm (cnt_top _ _) a)
  ·exact a
 refine h.done hd fun x hx=>?_
 have hm:=hd.lt x hx
 obtain ⟨b,e1,e2,e3⟩:=h.is (d.m x / 4) (by omega)
 have:=hg (x / 4) (by omega) b (by omega) ((comp_m hd hx).trans e3)
 omega
end Go.Proofs.Ytobbepmlmbbamaa.Pl
end
section
namespace Go.Proofs.Ytobbepmlmbbamaa.Pl
open Classical in
noncomputable def cl (p:Nat→Prop):List Nat→Nat
 | []=>0
 | x :: l=>(if p x then 1 else 0)+cl p l
open Classical in
theorem cl_append (p:Nat→Prop):∀l m:List Nat,cl p (l++m)=cl p l+cl p m
 | [],m=>by simp [cl]
 | x :: l, m => by
   have:=cl_append p l m
   show (if p x then 1 else 0)+cl p (l++m)=(if p x then 1 else 0)+cl p l+cl p m
   omega
open Classical in
theorem cl_le (p:Nat→Prop):∀l:List Nat,cl p l≤l.length
 | []=>Nat.le_refl _
 | x :: l => by
   have:=cl_le p l
   show (if p x then 1 else 0)+cl p l≤l.length+1
   split <;> omega
open Classical in
theorem cl_pos {p:Nat→Prop}{x:Nat}(h:p x):cl p [x]=1:=by show (if p x then 1 else 0)+0=1;rw [if_pos h]
open Classical in
theorem cl_neg {p:Nat→Prop}{x:Nat}(h:¬p x):cl p [x]=0:=by show (if p x then 1 else 0)+0=0;rw [if_neg h]
theorem cl_take {p:Nat→Prop}{l:List Nat}{i:Nat}(hi:i<l.length):cl p (l.take (i+1))=cl p (l.take i)+cl p [l.getD i 0]:=by
 rw [List.take_succ_eq_append_getElem hi,cl_append,List.getD_eq_getElem?_getD,List.getElem?_eq_getElem hi]
 rfl
open Classical in
noncomputable def hds (d:Dg):Nat→List Nat
 | 0=>[]
 | k+1=>if Least (nx d) k then hds d k++[k] else hds d k
theorem hds_pos {d:Dg}{k:Nat}(h:Least (nx d) k):hds d (k+1)=hds d k++[k]:=if_pos h
theorem hds_neg {d:Dg}{k:Nat}(h:¬Least (nx d) k):hds d (k+1)=hds d k:=if_neg h
theorem hds_lt (d:Dg):∀k x,x ∈ hds d k→x<k
 | 0,x,h=>by simp [hds] at h
 | k + 1, x, h => by
   by_cases e:Least (nx d) k
   ·rw [hds_pos e] at h
    rcases List.mem_append.1 h with h | h
    ·have:=hds_lt d k x h;omega
    ·rw [List.mem_singleton] at h;omega
   ·rw [hds_neg e] at h
    have:=hds_lt d k x h;omega
theorem hds_len (d:Dg):∀k,(hds d k).length≤k
 | 0=>Nat.le_refl _
 | k + 1 => by
   have:=hds_len d k
   by_cases e:Least (nx d) k
   ·rw [hds_pos e,List.length_append];simp;omega
   ·rw [hds_neg e];omega
theorem hds_nf (d:Dg)(ps:List Int)(c:Nat):∀k,cl (fun h=>pv ps (h / 4)=c) (hds d k)=nf d ps c k
 | 0=>by show 0=cnt _ 0;rfl
 | k + 1 => by
   have ih:=hds_nf d ps c k
   by_cases e:Least (nx d) k
   ·rw [hds_pos e,cl_append,ih]
    by_cases e2:pv ps (k / 4)=c
    ·rw [cl_pos e2];unfold nf;rw [cnt_step_pos ⟨e,e2⟩]
    ·rw [cl_neg e2];unfold nf;rw [cnt_step_neg (fun h=>e2 h.2)];omega
   ·rw [hds_neg e,ih];unfold nf;rw [cnt_step_neg (fun h=>e h.1)]
theorem least_cyc {d:Dg}(hd:Wf d){h p:Nat}(hh:h<4 * d.n)(hp:Per (nx d) h p):Least (nx d) h↔∀i,i<p→h≤it (nx d) i h:=by
 constructor
 ·intro hl i _
  exact hl i
 ·intro hi i
  have hm:it (nx d) i h ∈ cyc (nx d) h p:=(mem_cyc hp).2 ⟨i,rfl⟩
  unfold cyc at hm
  obtain ⟨j,h1,h2⟩:=List.mem_map.1 hm
  rw [←h2]
  exact hi j (List.mem_range.1 h1)
theorem lrun_pi {d:Dg}(hd:Wf d)(p k:Nat)(hk:k≤4 * d.n):PI d (lrun d (lpass d p) k):=((PI.lpass hd p).lrun hd k hk).1
end Go.Proofs.Ytobbepmlmbbamaa.Pl
end
section
namespace Go.Proofs.Ytobbepmlmbbamaa
open Go Go.RowKit
theorem r1turn3 (h:Nat)(w:World)(hh:h≤1000000) :
 Calls Try.prog 118 #[.int .i64 (h:Int),.int .i64 (-1)] w fun e w'=>e = .returned (.int .i64 (Pl.tn h 3:Nat))∧w'=w:=by
 have t1:decide ((h:Int)<0)=false:=by simp
 have h4:h % 4=0∨h % 4=1∨h % 4=2∨h % 4=3:=by omega
 go_enter Try.func118,Try.ntmps118
 go_wp2
 go_ret
 refine ⟨ret_int ?_,rfl⟩
 rcases h4 with h4 | h4 | h4 | h4
 ·have e:(h:Int) % 4=0:=by omega
  rw [e,show (wrap64 (((0:Int) + -1).tmod 4+4)).tmod 4=3 by simp [wrap64]]
  unfold Pl.tn wrap64;omega
 ·have e:(h:Int) % 4=1:=by omega
  rw [e,show (wrap64 (((1:Int) + -1).tmod 4+4)).tmod 4=0 by simp [wrap64]]
  unfold Pl.tn wrap64;omega
 ·have e:(h:Int) % 4=2:=by omega
  rw [e,show (wrap64 (((2:Int) + -1).tmod 4+4)).tmod 4=1 by simp [wrap64]]
  unfold Pl.tn wrap64;omega
 ·have e:(h:Int) % 4=3:=by omega
  rw [e,show (wrap64 (((3:Int) + -1).tmod 4+4)).tmod 4=2 by simp [wrap64]]
  unfold Pl.tn wrap64;omega
set_option maxRecDepth 100000 in
set_option maxHeartbeats 2000000 in
theorem r1face_any (d:Pl.Dg)(hd:Pl.Wf d)(B:Option Addr)(cq m:Nat)(h p:Nat)(w:World)(hm:m=4 * d.n)(hb:IntsAt w B m (nats d.mt))(hh:h<4 * d.n)(hp:Pl.Per (Pl.nx d) h p)(hpN:p≤4 * d.n) :
 Calls Try.prog 76 #[.slice B m cq,.int .i64 (h:Int)] w (fun e w'=>∃(A5:Option Addr) (c5:Nat),e = .returned (.slice A5 p c5)∧w'.ownsRow w.heap.size 3 1 (.slice A5 p c5) p ((Pl.cyc (Pl.nx d) h p).map (fun k:Nat=>Value.int .i64 k))∧Below w.heap.size w w'):=by
 have hn:=hd.few
 have HD:=hide hd
 have HP:=hide hp
 have HM:=hide hm
 have HB:=hide hb
 have hp0:=hp.1
 have HPN:=hide hpN
 have hp4:p≤256:=by omega
 have hm4:m≤256:=by omega
 have hpm:p≤m:=by omega
 clear hp hm hb hd hpN
 obtain ⟨W1,hW1⟩:∃W1:World,W1=w.alloc (.cells #[.int .i64 (h:Int)] 3):=⟨_,rfl⟩
 have B1:=hide (show Below w.heap.size w W1 by rw [hW1];exact (Below.refl _ _).alloc (Nat.le_refl _) _)
 have O1:=hide (show W1.ownsRow w.heap.size 3 1 (.slice (some ⟨w.heap.size,0,none⟩) 1 1) 1 [.int .i64 (h:Int)] by
  rw [hW1]
  have:=own_one w (.int .i64 (h:Int))
  simpa using this)
 have lth:=HD.out.lt h hh
 obtain ⟨mb,mo,rfl,mc⟩:=mate_at (by rw [←HM.out];exact HB.out.keep B1.out) hh
 obtain ⟨u,hu⟩:∃u,u=d.m h:=⟨_,rfl⟩
 have HU:=hide hu
 rw [←hu] at mc lth
 clear hu
 have hhm:h<m:=by rw [HM.out];exact hh
 go_enter Try.func76,Try.ntmps76
 rw [hW1] at mc
 go_wp2_with fail
 rw [←hW1]
 clear hW1 mc
 refine (r1turn3 u _ (by omega)).mono ?_
 rintro e w2 ⟨rfl,rfl⟩
 go_wp2_with fail
 go_loopg [5,6] (p - 1) (fun g v i wx=>∃j:Nat,j+1+g=p∧i = .int .i64 (Pl.it (Pl.nx d) (j+1) h:Nat)∧wx.ownsRow w.heap.size 3 1 v (j+1) ((Pl.cyc (Pl.nx d) h (j+1)).map (fun k:Nat=>Value.int .i64 k))∧Below w.heap.size w wx)
 case atStart=>exact ⟨0,by omega,by rw [HU.out];rfl,O1.out,B1.out⟩
 case round =>
  clear B1 O1
  obtain ⟨j,hjg,rfl,own,hb⟩:=hrel
  have HJ:=hide hjg
  have hjp:j+1≤p:=by omega
  have OWN:=hide own
  have HBL:=hide hb
  have hbs:=hb.size
  obtain ⟨x,hx⟩:∃x,x=Pl.it (Pl.nx d) (j+1) h:=⟨_,rfl⟩
  rw [←hx]
  have HX:=hide hx
  have hxN:x<4 * d.n:=by rw [hx];exact it_lt (fun y hy=>HD.out.nxb.maps y hy) hh (j+1)
  clear hjg own hb hx
  obtain ⟨A0,c0,hv0⟩:=owns_slice OWN.out
  by_cases he:x=h
  ·have hjj:¬j+1<p:=fun hlt=>HP.out.2.2 (j+1) (by omega) hlt (by rw [←HX.out,he])
   have t1:((x:Int) != (h:Int))=false:=by rw [bne_eq_false_iff_eq];omega
   have HE:=hide he
   obtain rfl:j+1=p:=by omega
   subst hv0
   clear he hjj
   go_wp2
   go_ret
   exact ⟨A0,c0,rfl,own_keep OWN.out (Below.refl _ _) (by omega),HBL.out⟩
  ·have t1:((x:Int) != (h:Int))=true:=by rw [bne_iff_ne];omega
   have hjj:j+1<p:=by
    rcases Nat.lt_or_ge (j+1) p with h1 | h1
    ·exact h1
    ·have:j+1=p:=by omega
     exact absurd (by rw [HX.out,this];exact HP.out.2.1) he
   clear he
   subst hv0
   obtain ⟨i0,hi0,hz0,hz1,hz2⟩:=info_parts intInfo
   have hwz1:w.heap.size≤wr.heap.size:=hbs
   go_wp2_with (at_builtin;refine wpList_append_lies _ (by rfl) _ _ 22 (by rfl) w.heap.size 3 i0 (.int .i64 0) 1 8 Try.underlying22 hi0 hz0 hz1 hz2 rfl (by omega) _ (j+1) _ (by rfl) (OWN.out.alloc _) ⟨wr.heap.size,0,none⟩ 1 1 [.int .i64 (x:Int)] (by rfl) (by rfl) (one_news wr (.int .i64 (x:Int))) (by simp [Value.oneCell']) (by omega) (by unfold maxLen;omega) (by omega) (by simp;omega) (wr.heap.size+1) (by simp) ?_;intro g3 c3 w3 own3 grow3 at3 lt3;have OWN3:=hide own3;have GR3:=hide grow3;have B3:=hide ((HBL.out.alloc hbs (.cells #[.int .i64 (x:Int)] 3)).grown GR3.out (by simp;omega) (fun k hk=>by have:=(OWN.out.lt k hk).1;omega));obtain ⟨mb',mo',e',mc⟩:=mate_at (by rw [←HM.out];exact HB.out.keep B3.out) hxN;injection e' with e';injection e' with e1' e2';subst e1';subst e2';have ltx:=HD.out.lt x hxN;obtain ⟨y,hy⟩:∃y,y=d.m x:=⟨_,rfl⟩;have HY:=hide hy;rw [←hy] at mc ltx;have hxm:x<m:=(by rw [HM.out];exact hxN);clear own3 grow3 at3 hy)
   refine (r1turn3 y _ (by omega)).mono ?_
   rintro e w4 ⟨rfl,rfl⟩
   clear mc
   go_wp2_with fail
   go_roundg (gk - 1)
   case measure=>have:=HJ.out;omega
   case rel =>
    refine ⟨j+1,by have:=HJ.out;omega,?_,?_,B3.out⟩
    ·rw [HY.out,HX.out];rfl
    ·have:=OWN3.out
     rw [Pl.cyc_succ,List.map_append,←HX.out]
     exact this
def FcL (d:Pl.Dg)(k:Nat)(fs:List (List Nat)):Prop:=fs.map (fun l=>l.getD 0 0)=Pl.hds d k∧∀l,l ∈ fs→0<l.length
theorem FcL.len {d:Pl.Dg}{k:Nat}{fs:List (List Nat)}(h:FcL d k fs):fs.length=(Pl.hds d k).length:=by rw [←h.1,List.length_map]
theorem FcL.add {d:Pl.Dg}{k p:Nat}{fs:List (List Nat)}(h:FcL d k fs)(hl:Pl.Least (Pl.nx d) k)(hp:0<p):FcL d (k+1) (fs++[Pl.cyc (Pl.nx d) k p]):=by
 refine ⟨?_,fun l hl2=>?_⟩
 ·rw [List.map_append,h.1,Pl.hds_pos hl,List.map_singleton,Pl.cyc_get hp]
  rfl
 ·rcases List.mem_append.1 hl2 with h2 | h2
  ·exact h.2 l h2
  ·rw [List.mem_singleton] at h2;subst h2;rw [Pl.cyc_len];exact hp
theorem FcL.skip {d:Pl.Dg}{k:Nat}{fs:List (List Nat)}(h:FcL d k fs)(hl:¬Pl.Least (Pl.nx d) k):FcL d (k+1) fs:=⟨by rw [h.1,Pl.hds_neg hl],h.2⟩
set_option maxRecDepth 100000 in
set_option maxHeartbeats 4000000 in
theorem r1faces_any (d:Pl.Dg)(hd:Pl.Wf d)(B:Option Addr)(cq m:Nat)(w:World)(hm:m=4 * d.n)(hb:IntsAt w B m (nats d.mt)) :
 Calls Try.prog 43 #[.slice B m cq] w (fun e w'=>∃(A5:Option Addr) (c5:Nat) (vs:List Value) (fs:List (List Nat)),e = .returned (.slice A5 fs.length c5)∧FcL d (4 * d.n) fs∧RowT w' 22 A5 fs.length vs∧Vs w' vs fs∧Below w.heap.size w w'):=by
 have hn:=hd.few
 have HD:=hide hd
 have HM:=hide hm
 have HB:=hide hb
 have hm4:m≤256:=by omega
 clear hm hb hd
 go_enter Try.func43,Try.ntmps43
 go_wp2
 go_loopg [3,4] m (fun g v i wx=>∃(k:Nat) (vs:List Value) (fs:List (List Nat)),k+g=m∧i = .int .i64 k∧FcL d k fs∧wx.ownsRow w.heap.size 22 1 v fs.length vs∧Vs wx vs fs∧Below w.heap.size w wx)
 case atStart=>exact ⟨0,[],[],by omega,rfl,⟨rfl,fun l h=>by simp at h⟩,World.ownsRow_nil _ _ _ _,Vs.nil _,Below.refl _ _⟩
 case round =>
  obtain ⟨k,vs,fs,hkg,rfl,hfl,hown,hvs,hb⟩:=hrel
  have HKG:=hide hkg
  have hkm:k≤m:=by omega
  have HFL:=hide hfl
  have OWN:=hide hown
  have HVS:=hide hvs
  have HBL:=hide hb
  have hbs:=hb.size
  obtain ⟨A7,c7,rfl⟩:=owns_slice hown
  have hfn:fs.length≤256:=by have:=hfl.len;have:=Pl.hds_len d k;omega
  clear hkg hfl hown hvs hb
  by_cases hlt:k<m
  ·have hk4:k<4 * d.n:=by have:=HM.out;omega
   obtain ⟨p,hpN,hper⟩:=HD.out.nxb.per (x:=k) hk4
   have HPER:=hide hper
   have HL:=hide (Pl.least_cyc HD.out hk4 hper)
   have hp0:=hper.1
   clear hper
   go_wp2_with fail
   refine (r1face_any d HD.out B cq m k p _ HM.out (HB.out.keep HBL.out) hk4 HPER.out hpN).mono ?_
   rintro e w2 ⟨A5,c5,rfl,own5,hb5⟩
   have FA:=hide (show FaceAt w2 (.slice A5 p c5) (Pl.cyc (Pl.nx d) k p) from ⟨A5,c5,by rw [Pl.cyc_len],by rw [Pl.cyc_len];exact own_rowT own5⟩)
   have O2:=hide (own_keep OWN.out hb5 (Nat.le_refl _))
   have V2:=hide (HVS.out.below hb5)
   have B2:=hide (HBL.out.trans (hb5.mono hbs))
   clear own5 hb5
   go_wp2_with fail
   obtain ⟨b5,o5,rfl,_⟩:=nats_at FA.out.ints.2 (k:=0) hp0
   go_loopg [6,7] p (fun g b i wx=>∃j:Nat,j+g=p∧i = .int .i64 j∧b = .bool (Pl.vb (∀i,i<j→k≤Pl.it (Pl.nx d) i k))∧wx=w2)
   case atStart=>exact ⟨0,by omega,rfl,by rw [Pl.vb_true (fun i hi=>absurd hi (by omega))],rfl⟩
   case round =>
    obtain ⟨j,hjg,rfl,rfl,rfl⟩:=hrel
    have HJG:=hide hjg
    have hjp:j≤p:=by omega
    clear hjg
    by_cases hlj:j<p
    ·obtain ⟨b',o',e',hcj⟩:=nats_at FA.out.ints.2 (k:=j) hlj
     injection e' with e'
     injection e' with e1 e2
     subst e1
     subst e2
     rw [Pl.cyc_get hlj] at hcj
     obtain ⟨y,hy⟩:∃y,y=Pl.it (Pl.nx d) j k:=⟨_,rfl⟩
     rw [←hy] at hcj
     have HS:=hide (vb_step (P:=fun i=>k≤Pl.it (Pl.nx d) i k) j)
     have HY:=hide hy
     clear hy
     cases hv:Pl.vb (∀i,i<j→k≤Pl.it (Pl.nx d) i k) with
     | false =>
       have HV:=hide hv
       clear hv
       go_wp2
       go_roundg (gk - 1)
       case measure=>have:=HJG.out;omega
       case rel=>exact ⟨j+1,by have:=HJG.out;omega,by go_num,by rw [HS.out,HV.out];rfl,rfl⟩
     | true =>
       have HV:=hide hv
       clear hv
       by_cases hky:k≤y
       ·have t1:decide ((k:Int)≤(y:Int))=true:=by simp;omega
        go_wp2
        go_roundg (gk - 1)
        case measure=>have:=HJG.out;omega
        case rel=>exact ⟨j+1,by have:=HJG.out;omega,by go_num,by rw [HS.out,HV.out,Pl.vb_true (show k≤Pl.it (Pl.nx d) j k by rw [←HY.out];exact hky)];rfl,rfl⟩
       ·have t1:decide ((k:Int)≤(y:Int))=false:=by simp;omega
        go_wp2
        go_roundg (gk - 1)
        case measure=>have:=HJG.out;omega
        case rel=>exact ⟨j+1,by have:=HJG.out;omega,by go_num,by rw [HS.out,HV.out,Pl.vb_false (show ¬k≤Pl.it (Pl.nx d) j k by rw [←HY.out];exact hky)];rfl,rfl⟩
    ·have hjj:j=p:=by omega
     have HE:=hide hjj
     obtain ⟨b,hb⟩:∃b,b=Pl.vb (∀i,i<j→k≤Pl.it (Pl.nx d) i k):=⟨_,rfl⟩
     rw [←hb]
     have HBB:=hide (show (b=true↔Pl.Least (Pl.nx d) k) by rw [hb,Pl.vb_iff,HE.out];exact HL.out.symm)
     clear hb hjj
     cases b with
     | false =>
       have HN:=hide (HFL.out.skip (fun h=>absurd (HBB.out.2 h) (by decide)))
       go_wp2
       go_roundg (m - (k+1))
       case measure=>have:=HKG.out;omega
       case rel=>exact ⟨k+1,vs,fs,by have:=HKG.out;omega,by go_num,HN.out,O2.out,V2.out,B2.out⟩
     | true =>
       have HN:=hide (HFL.out.add (HBB.out.1 rfl) hp0)
       obtain ⟨i0,hi0,hz0,hz1,hz2⟩:=info_parts rowInfo
       have P1:∀u ∈ [Value.slice (some ⟨b5,o5,none⟩) p c5],u.oneCell'=true:=by simp [Value.oneCell']
       have hb2s:=B2.out.size
       go_wp2_with (at_builtin;refine wpList_append_lies _ (by rfl) _ _ 57 (by rfl) w.heap.size 22 i0 (.slice none 0 0) 1 24 Try.underlying57 hi0 hz0 hz1 hz2 rfl (by omega) _ fs.length vs (by rfl) (O2.out.alloc _) ⟨wr.heap.size,0,none⟩ 1 1 [.slice (some ⟨b5,o5,none⟩) p c5] (by rfl) (by rfl) (World.news_of_block (cs:=#[.slice (some ⟨b5,o5,none⟩) p c5]) (t:=22) (fr:=(0,0)) (heap_alloc_new wr _)) P1 (by omega) (by unfold maxLen;omega) (by omega) (by simp;omega) (wr.heap.size+1) (by simp) ?_;intro g3 c3 w3 own3 grow3 at3 lt3)
       go_roundg (m - (k+1))
       case measure=>have:=HKG.out;omega
       case rel =>
        have hbk:=fun g (hg:(Value.slice A7 fs.length c7).ownBlock=some g)=>ownsRow_block (O2.out.alloc (.cells #[.slice (some ⟨b5,o5,none⟩) p c5] 22)) g hg
        have hba:Below wr.heap.size wr (wr.alloc (.cells #[.slice (some ⟨b5,o5,none⟩) p c5] 22)):=(Below.refl _ _).alloc (Nat.le_refl _) _
        refine ⟨k+1,vs++[.slice (some ⟨b5,o5,none⟩) p c5],fs++[Pl.cyc (Pl.nx d) k p],by have:=HKG.out;omega,by go_num,HN.out,by simpa using own3,?_,?_⟩
        ·exact ((V2.out.below hba).grown grow3 hbk (by decide)).add ((FA.out.below hba).grown grow3 hbk (by decide))
        ·exact (B2.out.alloc hb2s _).grown grow3 (by simp;omega) (fun k hk=>by have:=(O2.out.lt k hk).1;omega)
  ·have hkm':k=m:=by omega
   have E:=hide (show FcL d (4 * d.n) fs by rw [←HM.out,←hkm'];exact HFL.out)
   go_wp2
   go_ret
   exact ⟨A7,c7,vs,fs,rfl,E.out,own_rowT OWN.out,HVS.out,HBL.out⟩
end Go.Proofs.Ytobbepmlmbbamaa
end
section
namespace Go.Proofs.Ytobbepmlmbbamaa
open Go Go.RowKit
set_option maxRecDepth 100000 in
set_option maxHeartbeats 4000000 in
theorem rlabel_any (d:Pl.Dg)(hd:Pl.Wf d)(B:Option Addr)(cq m:Nat)(w:World)(hm:m=4 * d.n)(hb:IntsAt w B m (nats d.mt)) :
 Calls Try.prog 42 #[.slice B m cq] w fun e w' =>
  e = .returned (.slice (some ⟨w.heap.size,0,none⟩) d.n d.n)∧IRow w' w.heap.size (Pl.lpass d d.n)∧Below w.heap.size w w':=by
 have hn:=hd.few
 have HF:=hide hd
 have HM:=hide hm
 have hm2:m≤256:=by omega
 have HB:=hide hb
 have hdiv:(m:Int) / 4=(d.n:Int):=by omega
 have hdiv2:(m:Int).tdiv 4=(d.n:Int):=by rw [hm];show ((4 * d.n:Nat):Int).tdiv 4=_;rw [Int.tdiv_eq_ediv_of_nonneg (by omega)];omega
 clear hd hm hb
 have hmk:=run_ints d.n (by omega) w
 go_enter Try.func42,Try.ntmps42
 go_wp2
 clear hmk
 obtain ⟨W1,hW1⟩:∃W1:World,W1=w.alloc (.cells (Array.replicate d.n (Value.int .i64 0)) 3):=⟨_,rfl⟩
 have B1:=hide (show Below w.heap.size w W1 by rw [hW1];exact (Below.refl _ _).alloc (Nat.le_refl _) _)
 have R1:=hide (show IRow W1 w.heap.size (Pl.ids d.n 0) by
  rw [hW1,Pl.ids_zero]
  exact IRow.made w d.n)
 rw [←hW1]
 clear hW1
 go_loopg [5] d.n (fun g i wx=>∃k:Nat,k+g=d.n∧i = .int .i64 k∧Below w.heap.size w wx∧IRow wx w.heap.size (Pl.ids d.n k))
 case atStart=>exact ⟨0,by omega,rfl,B1.out,R1.out⟩
 case round =>
  obtain ⟨k,hkg,rfl,b2,r2⟩:=hrel
  have HK:=hide hkg
  have hks:k≤d.n:=by omega
  clear hkg
  by_cases hlt:k<d.n
  ·have c1:=r2.cell (i:=k) (by rw [Pl.ids_len];exact hlt)
   have f1:=Row.free r2 k
   have B2:=hide b2
   have R2:=hide r2
   clear b2 r2
   go_wp2
   go_roundg (gk - 1)
   case measure=>have:=HK.out;omega
   case rel =>
    refine ⟨k+1,by have:=HK.out;omega,by go_num,?_,?_⟩
    ·exact B2.out.setCell (Nat.le_refl _) _
    ·have:=R2.out.set k k
     rwa [Pl.ids_set hlt] at this
  ·have hkn:k=d.n:=by omega
   have B2:=hide b2
   have R2:=hide (show IRow wr w.heap.size (Pl.lpass d 0) by subst hkn;exact r2)
   clear b2 r2 hkn
   go_wp2
   go_loopg [6] d.n (fun g p wx=>∃k:Nat,k+g=d.n∧p = .int .i64 k∧Below w.heap.size w wx∧IRow wx w.heap.size (Pl.lpass d k))
   case atStart=>exact ⟨0,by omega,rfl,B2.out,R2.out⟩
   case round =>
    clear B2 R2 B1 R1 HK hks hlt
    obtain ⟨p,hkg,rfl,b3,r3⟩:=hrel
    have HP:=hide hkg
    have hpn:p≤d.n:=by omega
    have B3:=hide b3
    have R3:=hide r3
    clear hkg b3 r3
    by_cases hlt:p<d.n
    ·go_wp2
     go_loopg [7] m (fun g i wx=>∃k:Nat,k+g=m∧i = .int .i64 k∧Below w.heap.size w wx∧IRow wx w.heap.size (Pl.lrun d (Pl.lpass d p) k))
     case atStart=>exact ⟨0,by omega,rfl,B3.out,R3.out⟩
     case round =>
      clear B3 R3
      obtain ⟨k,hkg,rfl,b4,r4⟩:=hrel
      have HK:=hide hkg
      have hkm:k≤m:=by omega
      have B4:=hide b4
      have R4:=hide r4
      clear hkg b4 r4
      by_cases hlk:k<m
      ·have hk4:k<4 * d.n:=by have:=HM.out;omega
       have hmk4:=HF.out.lt k hk4
       have HI:=hide (Pl.lrun_pi HF.out p k (by omega))
       obtain ⟨bb,bo,rfl,hmc⟩:=mate_at (by rw [←HM.out];exact HB.out.keep B4.out) hk4
       obtain ⟨qs,hqs⟩:∃qs,qs=Pl.lrun d (Pl.lpass d p) k:=⟨_,rfl⟩
       have HQS:=hide hqs
       rw [←hqs] at R4 HI
       clear hqs
       have hk5:k / 4<d.n:=by omega
       have c1:=R4.out.cell (i:=k / 4) (by rw [HI.out.len];exact hk5)
       obtain ⟨u,hu⟩:∃u,u=d.m k:=⟨_,rfl⟩
       rw [←hu] at hmc hmk4
       have HU:=hide hu
       have hu5:u / 4<d.n:=by omega
       have c2:=R4.out.cell (i:=u / 4) (by rw [HI.out.len];exact hu5)
       have f1:=Row.free R4.out (k / 4)
       have f2:=Row.free R4.out (u / 4)
       have l1:=HI.out.nat hk5
       have l2:=HI.out.nat hu5
       obtain ⟨x,hx⟩:∃x,x=Pl.pv qs (k / 4):=⟨_,rfl⟩
       obtain ⟨y,hy⟩:∃y,y=Pl.pv qs (u / 4):=⟨_,rfl⟩
       have HX:=hide hx
       have HY:=hide hy
       rw [←hx] at c1 l1
       rw [←hy] at c2 l2
       clear hu hx hy
       go_wp2
       go_quiet (fail)
       go_wp2
       go_cut [10] from 43 to 51 (fun s10 wx=>s10 = .int .i64 (min x y)∧IRow wx w.heap.size qs∧Below w.heap.size w wx)
       case first =>
        go_region
        all_goals (go_wp2_with fail;go_meet)
        all_goals exact ⟨rfl,Row.drewN R4.out _,Below.drewN' B4.out _⟩
       case rest =>
        obtain ⟨rfl,r6,b6⟩:=hcut
        have c1:=r6.cell (i:=k / 4) (by rw [HI.out.len];exact hk5)
        have c2:=r6.cell (i:=u / 4) (by rw [HI.out.len];exact hu5)
        have f1:=Row.free r6 (k / 4)
        have f2:=Row.free r6 (u / 4)
        have R6:=hide r6
        have B6:=hide b6
        have MU:=hide (rfl:min x y=min x y)
        obtain ⟨z,hz⟩:∃z,z=min x y:=⟨_,rfl⟩
        rw [←hz]
        have HZ:=hide hz
        have f3:=Row.free (R6.out.set (k / 4) z) (u / 4)
        have c3:=(R6.out.set (k / 4) z).cell (i:=u / 4) (by rw [List.length_set,HI.out.len];exact hu5)
        clear r6 b6 hz MU
        go_wp2
        go_roundg (gk - 1)
        case measure=>have:=HK.out;omega
        case rel =>
         refine ⟨k+1,by have:=HK.out;omega,by go_num,(B6.out.setCell (Nat.le_refl _) _).setCell (Nat.le_refl _) _,?_⟩
         have h:=(R6.out.set (k / 4) z).set (u / 4) z
         have e:Pl.lrun d (Pl.lpass d p) (k+1)=(qs.set (k / 4) z).set (u / 4) z:=by
          show Pl.lstep d (Pl.lrun d (Pl.lpass d p) k) k=_
          unfold Pl.lstep
          rw [←HQS.out,←HU.out,←HX.out,←HY.out,←HZ.out]
         rw [e]
         exact h
      ·have hkm':k=m:=by omega
       have R5:=hide (show IRow wr w.heap.size (Pl.lpass d (p+1)) by
        have h:=R4.out
        rw [hkm',HM.out] at h
        exact h)
       clear hkm'
       go_wp2
       go_roundg (d.n - (p+1))
       case measure=>have:=HP.out;omega
       case rel=>exact ⟨p+1,by omega,by go_num,B4.out,R5.out⟩
    ·have hpn':p=d.n:=by omega
     have E:=hide (show IRow wr w.heap.size (Pl.lpass d d.n) by rw [←hpn'];exact R3.out)
     clear hpn'
     go_wp2
     go_ret
     exact ⟨rfl,E.out,B3.out⟩
end Go.Proofs.Ytobbepmlmbbamaa
end
section
namespace Go.Proofs.Ytobbepmlmbbamaa
open Go Go.RowKit
theorem rlabel_n (d:Pl.Dg)(hd:Pl.Wf d)(B:Option Addr)(cq n m:Nat)(w:World)(e:n=d.n)(hm:m=4 * d.n)(hb:IntsAt w B m (nats d.mt)) :
 Calls Try.prog 42 #[.slice B m cq] w fun e w' =>
  e = .returned (.slice (some ⟨w.heap.size,0,none⟩) n n)∧IRow w' w.heap.size (Pl.lpass d d.n)∧Below w.heap.size w w':=by
 subst e
 exact rlabel_any d hd B cq m w hm hb
theorem vs_head {d:Pl.Dg}{k j:Nat}{w:World}{vs:List Value}{fs:List (List Nat)}(h:FcL d k fs)(hv:Vs w vs fs)(hj:j<fs.length) :
 ∃(x b o n c:Nat),vs[j]'(by rw [hv.1];exact hj) = .slice (some ⟨b,o,none⟩) n c∧x<k∧w.cell? ⟨b,o,none⟩=some (.int .i64 (x:Int))∧0<n∧x=(Pl.hds d k).getD j 0:=by
 obtain ⟨v,h1,A,c,rfl,h2⟩:=hv.2 j _ (List.getElem?_eq_getElem hj)
 have hp:=h.2 _ (List.getElem_mem hj)
 obtain ⟨b,o,rfl,hc⟩:=h2.row.at_ (k:=0) hp
 have e1:(Pl.hds d k).getD j 0=fs[j].getD 0 0:=by
  rw [←h.1,List.getD_eq_getElem?_getD,List.getElem?_map,List.getElem?_eq_getElem hj];rfl
 have e2:fs[j].getD 0 0=fs[j][0]:=by rw [List.getD_eq_getElem?_getD,List.getElem?_eq_getElem hp];rfl
 refine ⟨fs[j][0],b,o,fs[j].length,c,?_,?_,?_,hp,by rw [e1,e2]⟩
 ·rw [List.getElem?_eq_getElem (by rw [hv.1];exact hj)] at h1
  injection h1
 ·rw [←e2,←e1]
  have hl:j<(Pl.hds d k).length:=by rw [←h.len];exact hj
  rw [List.getD_eq_getElem?_getD,List.getElem?_eq_getElem hl]
  exact Pl.hds_lt d k _ (List.getElem_mem hl)
 ·rw [List.getElem_map] at hc
  simpa using hc
set_option maxRecDepth 100000 in
set_option maxHeartbeats 4000000 in
theorem r1valid_any (sg mt:List Int)(lp:Int)(A B:Option Addr)(n q cp cq:Nat)(w:World)(hs:IntsAt w A n sg)(hm:IntsAt w B q mt)(hn:n≤maxLen)(hq:q≤maxLen)(hlp:-9223372036854775808≤lp∧lp≤9223372036854775807) :
 Calls Try.prog 17 #[.agg #[.slice A n cp,.slice B q cq,.int .i64 lp]] w fun e w'=>e = .returned (.bool (Pl.vb (Pl.VL sg mt lp)))∧Below w.heap.size w w':=by
 unfold maxLen at hn hq
 have HLS:=hide hs.len
 have HLM:=hide hm.len
 have b0:Below w.heap.size w (w.alloc (.cells #[.slice A n cp,.slice B q cq,.int .i64 lp] 24)):=(Below.refl _ _).alloc (Nat.le_refl _) _
 by_cases h1:64<n
 ·have HV:=hide (fun h:Pl.VL sg mt lp=>show False by have:=h.few;have:=HLS.out;omega)
  go_enter Try.func17,Try.ntmps17
  go_wp2
  go_ret
  exact ⟨ret_bool (Pl.vb_false HV.out).symm,b0⟩
 ·have h1':decide (64<(n:Int))=false:=by simp;omega
  by_cases h2:q=4 * n
  ·by_cases h3:0≤lp∧lp≤64
   ·have h2':(((q:Nat):Int) != 4 * (n:Int))=false:=by simp;omega
    have h3a:decide (lp<0)=false:=by simp;omega
    have h3b:decide (64<lp)=false:=by simp;omega
    have HQ4:=hide h2
    have hq6:q≤256:=by omega
    clear h2
    have x0:Row (w.alloc (.cells #[.slice A n cp,.slice B q cq,.int .i64 lp] 24)) w.heap.size 24 (boxV A B n cp q cq (.int .i64 lp)):=Row.new w _ _
    go_enter Try.func17,Try.ntmps17
    go_wp2
    have B0:=hide b0
    have X0:=hide x0
    clear b0 x0 h1' h2' h3a h3b
    go_loopg [4] n (fun g i wx=>∃k:Nat,k+g=n∧i = .int .i64 k∧(∀c,c<k→Pl.pv sg c=1∨Pl.pv sg c = -1)∧Below w.heap.size w wx∧Row wx w.heap.size 24 (boxV A B n cp q cq (.int .i64 lp)))
    case atStart=>exact ⟨0,by omega,rfl,fun c hc=>absurd hc (by omega),B0.out,X0.out⟩
    case round =>
     clear B0 X0
     obtain ⟨k,hkg,rfl,hsg,b1,x1⟩:=hrel
     have HG:=hide hkg
     have HSG:=hide hsg
     have hkn:k≤n:=by omega
     clear hkg hsg
     by_cases hlt:k<n
     ·obtain ⟨ab,ao,rfl,hc⟩:=ints_pv hs hlt
      have hc1:=cell_below hc b1
      obtain ⟨y0,y1,y2,_⟩:=box3 x1
      have B1:=hide b1
      have X1:=hide x1
      clear b1 x1 hc
      by_cases hz:Pl.pv sg k=1
      ·have HZ:=hide hz
       rw [hz] at hc1
       clear hz
       go_wp2
       go_roundg (gk - 1)
       case measure=>have:=HG.out;omega
       case rel =>
        refine ⟨k+1,by have:=HG.out;omega,by go_num,fun c hc=>?_,B1.out,X1.out⟩
        by_cases e:c=k
        ·rw [e];exact .inl HZ.out
        ·exact HSG.out c (by omega)
      ·by_cases hz2:Pl.pv sg k = -1
       ·have HZ:=hide hz2
        rw [hz2] at hc1
        clear hz hz2
        go_wp2
        go_roundg (gk - 1)
        case measure=>have:=HG.out;omega
        case rel =>
         refine ⟨k+1,by have:=HG.out;omega,by go_num,fun c hc=>?_,B1.out,X1.out⟩
         by_cases e:c=k
         ·rw [e];exact .inr HZ.out
         ·exact HSG.out c (by omega)
       ·have HV := hide (fun h : Pl.VL sg mt lp => show False by
         rcases h.sign (c:=k) (by have:=HLS.out;omega) with e | e
         ·exact hz e
         ·exact hz2 e)
        have t1:(Pl.pv sg k != 1)=true:=by rw [bne_iff_ne];exact hz
        have t2:(Pl.pv sg k != -1)=true:=by rw [bne_iff_ne];exact hz2
        clear hz hz2
        go_wp2
        go_ret
        exact ⟨ret_bool (Pl.vb_false HV.out).symm,B1.out⟩
     ·have HSG':=hide (fun (c:Nat) (hc:c<sg.length)=>HSG.out c (by have:=HLS.out;omega))
      have B1:=hide b1
      have X1:=hide x1
      clear b1 x1 HSG HG
      go_wp2
      go_loopg [5] q (fun g i wx=>∃k:Nat,k+g=q∧i = .int .i64 k∧(∀h,h<k→0≤Pl.pv mt h∧Pl.pv mt h<mt.length∧Pl.pv mt h≠h∧Pl.pv mt (Pl.pv mt h).toNat=h∧Pl.out (Pl.mk sg mt lp) h≠Pl.out (Pl.mk sg mt lp) (Pl.pv mt h).toNat)∧Below w.heap.size w wx∧Row wx w.heap.size 24 (boxV A B n cp q cq (.int .i64 lp)))
      case atStart=>exact ⟨0,by omega,rfl,fun c hc=>absurd hc (by omega),B1.out,X1.out⟩
      case round =>
       clear B1 X1
       obtain ⟨j,hjg,rfl,hmo,b2,x2⟩:=hrel
       have HG:=hide hjg
       have HMO:=hide hmo
       have hjq:j≤q:=by omega
       clear hjg hmo
       obtain ⟨y0,y1,y2,_⟩:=box3 x2
       by_cases hlt2:j<q
       ·obtain ⟨bb,bo,rfl,hc⟩:=ints_pv hm hlt2
        have hj4n:(j:Int)<4 * (n:Int):=by have:=HQ4.out;omega
        have hc1:=cell_below hc b2
        have hjl:j<mt.length:=by have:=HLM.out;omega
        have B2:=hide b2
        have X2:=hide x2
        clear b2 x2 hc
        by_cases hz0:Pl.pv mt j<0
        ·have HV:=hide (fun h:Pl.VL sg mt lp=>show False by have:=(h.mate hjl).1;omega)
         have t1:decide (Pl.pv mt j<0)=true:=by simpa using hz0
         clear hz0
         go_wp2
         go_quiet (fail)
         go_wp2
         go_ret
         exact ⟨ret_bool (Pl.vb_false HV.out).symm,Below.drewN' B2.out _⟩
        ·have t1:decide (Pl.pv mt j<0)=false:=by simpa using hz0
         by_cases hz1:Pl.pv mt j<q
         ·obtain ⟨t,ht⟩:∃t:Nat,Pl.pv mt j=t:=⟨(Pl.pv mt j).toNat,by omega⟩
          have htq:t<q:=by omega
          have t2:decide (4 * (n:Int)≤(t:Int))=false:=by have:=HQ4.out;simp;omega
          rw [ht] at hc1 t1
          have HT:=hide ht
          have hj4:j<4 * n:=by have:=HQ4.out;omega
          have ht4:t<4 * n:=by have:=HQ4.out;omega
          clear hz0 hz1 ht
          by_cases htj:t=j
          ·have HV:=hide (fun h:Pl.VL sg mt lp=>show False by have:=(h.mate hjl).2.2.1;rw [HT.out] at this;omega)
           have t3:(((t:Nat):Int) == (j:Int))=true:=by simp;omega
           clear htj
           go_wp2
           go_quiet (fail)
           go_wp2
           go_ret
           exact ⟨ret_bool (Pl.vb_false HV.out).symm,Below.drewN' B2.out _⟩
          ·have t3:(((t:Nat):Int) == (j:Int))=false:=by simp;omega
           obtain ⟨bb',bo',ebb,hcb⟩:=ints_pv hm htq
           injection ebb with ebb
           injection ebb with ebb1 ebb2
           subst ebb1;subst ebb2
           have hc2:=cell_below hcb B2.out
           clear hcb
           by_cases hinv:Pl.pv mt t=j
           ·have HI:=hide hinv
            rw [hinv] at hc2
            have t4:((j:Int) != (j:Int))=false:=by simp
            clear hinv
            have SGN:=hide (hs.keep B2.out)
            go_wp2
            go_quiet ((go_at_call 41;exact Calls.quiet_of_same (r1out_any (Pl.mk sg mt lp) A n cp _ _ HLS.out.symm (by omega) (by omega) SGN.out)))
            go_wp2
            ·have t5:(Pl.out (Pl.mk sg mt lp) j == Pl.out (Pl.mk sg mt lp) t)=true:=by assumption
             go_ret
             refine ⟨ret_bool (Pl.vb_false fun h=>?_).symm,(Below.drewN' B2.out _)⟩
             have h5:=(h.mate hjl).2.2.2.2
             rw [HT.out,Int.toNat_natCast] at h5
             exact h5 (beq_iff_eq.1 t5)
            ·have t5:(Pl.out (Pl.mk sg mt lp) j == Pl.out (Pl.mk sg mt lp) t)=false:=by assumption
             go_roundg (gk - 1)
             case measure=>have:=HG.out;omega
             case rel =>
              refine ⟨j+1,by have:=HG.out;omega,by go_num,fun h hh=>?_,(Below.drewN' B2.out _),Row.drewN X2.out _⟩
              by_cases e:h=j
              ·subst e
               rw [HT.out,Int.toNat_natCast]
               exact ⟨by omega,by have:=HLM.out;omega,by omega,HI.out,beq_eq_false_iff_ne.1 t5⟩
              ·exact HMO.out h (by omega)
           ·have HV := hide (fun h : Pl.VL sg mt lp => show False by
             have:=(h.mate hjl).2.2.2.1
             rw [HT.out,Int.toNat_natCast] at this
             exact hinv this)
            have t4:(Pl.pv mt t != (j:Int))=true:=by rw [bne_iff_ne];exact hinv
            clear hinv
            go_wp2
            go_quiet (fail)
            go_wp2
            go_ret
            exact ⟨ret_bool (Pl.vb_false HV.out).symm,Below.drewN' B2.out _⟩
         ·have HV:=hide (fun h:Pl.VL sg mt lp=>show False by have:=(h.mate hjl).2.1;have:=HLM.out;omega)
          have t2:decide (4 * (n:Int)≤Pl.pv mt j)=true:=by have:=HQ4.out;simp;omega
          clear hz0 hz1
          go_wp2
          go_quiet (fail)
          go_wp2
          go_ret
          exact ⟨ret_bool (Pl.vb_false HV.out).symm,Below.drewN' B2.out _⟩
       ·have hjq':j=q:=by omega
        have hj4n:¬((j:Int)<4 * (n:Int)):=by have:=HQ4.out;omega
        have hw:=Pl.wf_of (sg:=sg) (mt:=mt) (lp:=lp) (by have:=HLS.out;omega) (by have:=HLS.out;have:=HLM.out;have:=HQ4.out;omega) h3 HSG'.out (fun k hk=>HMO.out k (by have:=HLM.out;omega))
        have hpos:∀z,z ∈ mt→0≤z:=fun z hz=>by
         obtain ⟨k,hk,rfl⟩:=Pl.mem_pv hz
         exact (HMO.out k (by have:=HLM.out;omega)).1
        have HW:=hide hw
        have HR:=hide (Pl.VL.of hw hpos h3.1)
        have HN:=hide (Pl.nats_mk (sg:=sg) (lp:=lp) hpos)
        have B2:=hide b2
        have X2:=hide x2
        clear b2 x2 hw hpos hjq'
        obtain ⟨d,hd⟩:∃d,d=Pl.mk sg mt lp:=⟨_,rfl⟩
        have HD:=hide hd
        have HWd:=hide (show Pl.Wf d by rw [hd];exact HW.out)
        have HNd:=hide (show n=d.n by rw [hd];exact HLS.out.symm)
        have HQd:=hide (show q=4 * d.n by have:=HQ4.out;have:=HNd.out;omega)
        have HSd:=hide (show IntsAt w A n d.sg by rw [hd];exact hs)
        have HMd:=hide (show IntsAt w B q (nats d.mt) by rw [hd];unfold nats;rw [HN.out];exact hm)
        clear hd
        have hn64:n≤64:=by omega
        go_wp2_with fail
        refine (rlabel_n d HWd.out B cq n q _ HNd.out HQd.out (HMd.out.keep B2.out)).mono ?_
        rintro e w3 ⟨rfl,hlb,hb3⟩
        have B3:=hide (B2.out.trans (hb3.mono B2.out.size))
        have X3:=hide (X2.out.below hb3)
        obtain ⟨gl,hgl⟩:∃g,g=wr.heap.size:=⟨_,rfl⟩
        rw [←hgl] at hlb ⊢
        have L3:=hide hlb
        obtain ⟨ps,hps⟩:∃ps,ps=Pl.lpass d d.n:=⟨_,rfl⟩
        have HPB:=hide (show Pl.PB d ps by rw [hps];exact Pl.lpass_done HWd.out)
        rw [←hps] at L3
        clear hb3 hlb hgl hps y0 y1 y2
        obtain ⟨y0,y1,y2,_⟩:=box3 X3.out
        go_wp2_with fail
        refine (r1faces_any d HWd.out B cq q _ HQd.out (HMd.out.keep B3.out)).mono ?_
        rintro e w4 ⟨A5,c5,vs,fs,rfl,hfl,hrow,hvs,hb4⟩
        have B4:=hide (B3.out.trans (hb4.mono B3.out.size))
        have L4:=hide (show IRow w4 gl ps from Row.below L3.out hb4)
        have HFL:=hide hfl
        have HRW:=hide hrow
        have HVS:=hide hvs
        have hfn:fs.length≤256:=by have:=hfl.len;have:=Pl.hds_len d (4 * d.n);have:=HNd.out;omega
        have HRU:=hide (HPB.out.rule HWd.out)
        obtain ⟨NF,hNF⟩:∃k,k=fs.length:=⟨_,rfl⟩
        rw [←hNF] at hfn ⊢
        have HNF:=hide hNF
        clear hfl hrow hvs hb4 hNF y0 y1 y2 X3 B3 L3 X2 B2 HMd HSd
        go_wp2_with fail
        go_loopg [9] n (fun g i wx=>∃k:Nat,k+g=n∧i = .int .i64 k∧(∀c,c<k→Pl.pv ps c=c→Pl.nf d ps c (4 * d.n)=Pl.nv ps c d.n+2)∧wx=w4)
        case atStart=>exact ⟨0,by omega,rfl,fun c hc=>absurd hc (by omega),rfl⟩
        case round =>
         obtain ⟨k,hkg,rfl,hok,rfl⟩:=hrel
         have HKG:=hide hkg
         have HOK:=hide hok
         have hkn:k≤n:=by omega
         clear hkg hok
         by_cases hlk:k<n
         ·have hkd:k<d.n:=by rw [←HNd.out];exact hlk
          have c1:=L4.out.cell (i:=k) (by rw [HPB.out.len];exact hkd)
          obtain ⟨z,hz⟩:∃z,z=Pl.pv ps k:=⟨_,rfl⟩
          rw [←hz] at c1
          by_cases hzk:z=k
          ·have t1:(z != (k:Int))=false:=by simpa using hzk
           have HZ:=hide (show Pl.pv ps k=k by rw [←hz];exact hzk)
           clear hz hzk
           go_wp2
           go_loopg [10,12] n (fun g v b wx=>∃j:Nat,j+g=n∧b = .int .i64 j∧v = .int .i64 (Pl.nv ps k j:Nat)∧wx=wr)
           case atStart=>exact ⟨0,by omega,rfl,rfl,rfl⟩
           case round =>
            obtain ⟨j,hjg,rfl,rfl,rfl⟩:=hrel
            have HJG:=hide hjg
            have hjn:j≤n:=by omega
            have hvl:=Pl.nv_le ps k j
            clear hjg
            by_cases hlj:j<n
            ·have c2:=L4.out.cell (i:=j) (by rw [HPB.out.len,←HNd.out];exact hlj)
             obtain ⟨x,hx⟩:∃x,x=Pl.pv ps j:=⟨_,rfl⟩
             rw [←hx] at c2
             by_cases hxk:x=k
             ·have t2:(x == (k:Int))=true:=by simpa using hxk
              have EN:=hide (show Pl.nv ps k (j+1)=Pl.nv ps k j+1 from Pl.cnt_step_pos (p:=fun a=>Pl.pv ps a=k) (by rw [←hx];exact hxk))
              clear hx hxk
              go_wp2
              go_roundg (gk - 1)
              case measure=>have:=HJG.out;omega
              case rel=>exact ⟨j+1,by have:=HJG.out;omega,by go_num,by rw [EN.out];go_num,rfl⟩
             ·have t2:(x == (k:Int))=false:=by simpa using hxk
              have EN:=hide (show Pl.nv ps k (j+1)=Pl.nv ps k j from Pl.cnt_step_neg (p:=fun a=>Pl.pv ps a=k) (by rw [←hx];exact hxk))
              clear hx hxk
              go_wp2
              go_roundg (gk - 1)
              case measure=>have:=HJG.out;omega
              case rel=>exact ⟨j+1,by have:=HJG.out;omega,by go_num,by rw [EN.out],rfl⟩
            ·have hjn':j=n:=by omega
             have EV:=hide (show Pl.nv ps k j=Pl.nv ps k d.n by rw [hjn',HNd.out])
             obtain ⟨nv,hnv⟩:∃x,x=Pl.nv ps k j:=⟨_,rfl⟩
             rw [←hnv] at hvl EV ⊢
             clear hjn' hnv
             go_wp2
             go_loopg [11,13] NF (fun g f i wx=>∃j:Nat,j+g=NF∧i = .int .i64 j∧f = .int .i64 (Pl.cl (fun h=>Pl.pv ps (h / 4)=k) ((Pl.hds d (4 * d.n)).take j):Nat)∧wx=wr)
             case atStart=>exact ⟨0,by omega,rfl,rfl,rfl⟩
             case round =>
              obtain ⟨j,hjg,rfl,rfl,rfl⟩:=hrel
              have HJG:=hide hjg
              have hjn:j≤NF:=by omega
              have hcl:=Pl.cl_le (fun h=>Pl.pv ps (h / 4)=k) ((Pl.hds d (4 * d.n)).take j)
              rw [List.length_take] at hcl
              obtain ⟨f,hf⟩:∃x,x=Pl.cl (fun h=>Pl.pv ps (h / 4)=k) ((Pl.hds d (4 * d.n)).take j):=⟨_,rfl⟩
              rw [←hf] at hcl ⊢
              have HF:=hide hf
              have hf2:f≤256:=by omega
              clear hjg hcl hf
              by_cases hlj:j<NF
              ·obtain ⟨fb,fo,rfl,hfc⟩:=HRW.out.row.at_ (k:=j) (by rw [←HNF.out];exact hlj)
               obtain ⟨x,fb2,fo2,fn2,fc2,hv,hxd,hx0,hpos,hxl⟩:=vs_head HFL.out HVS.out (by rw [←HNF.out];exact hlj)
               rw [hv] at hfc
               have HXL:=hide hxl
               have hp0:(0:Int)<(fn2:Int):=by omega
               have hx4:x / 4<d.n:=by omega
               have c2:=L4.out.cell (i:=x / 4) (by rw [HPB.out.len];exact hx4)
               have hx4n:x / 4<n:=by rw [HNd.out];exact hx4
               have hx256:x<256:=by have:=HNd.out;omega
               have HST:=hide (Pl.cl_take (p:=fun h=>Pl.pv ps (h / 4)=k) (l:=Pl.hds d (4 * d.n)) (i:=j) (by rw [←HFL.out.len,←HNF.out];exact hlj))
               obtain ⟨y,hy⟩:∃y,y=Pl.pv ps (x / 4):=⟨_,rfl⟩
               rw [←hy] at c2
               clear hv hxl hxd
               by_cases hyk:y=k
               ·have t2:(y == (k:Int))=true:=by simpa using hyk
                have EN:=hide (show Pl.cl (fun h=>Pl.pv ps (h / 4)=k) ((Pl.hds d (4 * d.n)).take (j+1))=f+1 by rw [HST.out,HF.out,←HXL.out,Pl.cl_pos (by rw [←hy];exact hyk)])
                clear hy hyk
                go_wp2
                go_roundg (gk - 1)
                case measure=>have:=HJG.out;omega
                case rel=>exact ⟨j+1,by have:=HJG.out;omega,by go_num,by rw [EN.out];go_num,rfl⟩
               ·have t2:(y == (k:Int))=false:=by simpa using hyk
                have EN:=hide (show Pl.cl (fun h=>Pl.pv ps (h / 4)=k) ((Pl.hds d (4 * d.n)).take (j+1))=f by rw [HST.out,HF.out,←HXL.out,Pl.cl_neg (by rw [←hy];exact hyk)];rfl)
                clear hy hyk
                go_wp2
                go_roundg (gk - 1)
                case measure=>have:=HJG.out;omega
                case rel=>exact ⟨j+1,by have:=HJG.out;omega,by go_num,by rw [EN.out],rfl⟩
              ·have hjn':j=NF:=by omega
               have EF:=hide (show f=Pl.nf d ps k (4 * d.n) by rw [HF.out,hjn',HNF.out,HFL.out.len,List.take_length];exact Pl.hds_nf d ps k _)
               clear hjn'
               by_cases hbad:f=nv+2
               ·have t2:((f:Int) != (nv:Int)+2)=false:=by rw [bne_eq_false_iff_eq];omega
                have HBAD:=hide hbad
                clear hbad
                go_wp2
                go_roundg (n - (k+1))
                case measure=>have:=HKG.out;omega
                case rel =>
                 refine ⟨k+1,by omega,by go_num,fun c hc e=>?_,rfl⟩
                 by_cases e2:c=k
                 ·subst e2;rw [←EF.out,←EV.out];exact HBAD.out
                 ·exact HOK.out c (by omega) e
               ·have t2:((f:Int) != (nv:Int)+2)=true:=by rw [bne_iff_ne];omega
                have HV:=hide (show ¬Pl.VL sg mt lp from fun h=>hbad (by
                 have h2:=HR.out.1 h
                 rw [←HD.out] at h2
                 have h3:=HRU.out.2 h2 k hkd HZ.out
                 rw [←EF.out,←EV.out] at h3
                 exact h3))
                clear hbad
                go_wp2
                go_ret
                exact ⟨ret_bool (Pl.vb_false HV.out).symm,B4.out⟩
          ·have t1:(z != (k:Int))=true:=by rw [bne_iff_ne];exact hzk
           have HZ:=hide (show ¬Pl.pv ps k=k by rw [←hz];exact hzk)
           clear hz hzk
           go_wp2
           go_roundg (n - (k+1))
           case measure=>have:=HKG.out;omega
           case rel =>
            refine ⟨k+1,by omega,by go_num,fun c hc e=>?_,rfl⟩
            by_cases e2:c=k
            ·subst e2;exact absurd e HZ.out
            ·exact HOK.out c (by omega) e
         ·have HV := hide (show Pl.VL sg mt lp from HR.out.2 (by
           rw [←HD.out]
           exact HRU.out.1 (fun c hc e=>HOK.out c (by rw [←HNd.out] at hc;omega) e)))
          go_wp2
          go_ret
          exact ⟨ret_bool (Pl.vb_true HV.out).symm,B4.out⟩
   ·have HV:=hide (fun h:Pl.VL sg mt lp=>show False by have:=h.loops;omega)
    have h2':(((q:Nat):Int) != 4 * (n:Int))=false:=by simp;omega
    have HQ2:=hide h2
    clear h2
    by_cases h3a:lp<0
    ·have t1:decide (lp<0)=true:=by simpa using h3a
     go_enter Try.func17,Try.ntmps17
     go_wp2
     go_ret
     exact ⟨ret_bool (Pl.vb_false HV.out).symm,b0⟩
    ·have t1:decide (lp<0)=false:=by simpa using h3a
     have t2:decide (64<lp)=true:=by simp;omega
     go_enter Try.func17,Try.ntmps17
     go_wp2
     go_ret
     exact ⟨ret_bool (Pl.vb_false HV.out).symm,b0⟩
  ·have HV:=hide (fun h:Pl.VL sg mt lp=>show False by have:=h.len;have:=HLS.out;have:=HLM.out;omega)
   have h2':(((q:Nat):Int) != 4 * (n:Int))=true:=by simp;omega
   go_enter Try.func17,Try.ntmps17
   go_wp2
   go_ret
   exact ⟨ret_bool (Pl.vb_false HV.out).symm,b0⟩
end Go.Proofs.Ytobbepmlmbbamaa
end
