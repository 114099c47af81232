/-
  The texts Wy, Xb.
-/
import Derived.Test.YtdgliimmnnhhjaaGreatDoorU17
set_option linter.unusedVariables false
set_option linter.unusedSimpArgs false
section
namespace Go.Proofs.YtdgliimmnnhhjaaGreatDoor
open Go Go.RowKit
theorem pF_any (n u0 u1 gn gf t:Nat)(s:Int)(w:World)(hs:s=t)(ht:t<4)(hn:n≤64)(hu:u0<4)(h1:Row w gn 3 [.int .i64 (n:Int)])(h2:Row w gf 120 [.int .i64 (u0:Int),.int .i64 (u1:Int)]) :
 Calls Tryz.prog 78 #[.int .i64 s,.pointer (some ⟨gn,0,none⟩),.pointer (some ⟨gf,0,none⟩)] w fun e w'=>e = .returned (.int .i64 (plc n u0 t:Nat))∧w'=w:=by
 subst hs
 have c0:=h1.cell (i:=0) (by simp)
 obtain ⟨a0,a1,a2⟩:=box2 h2
 simp only [List.getElem_cons_zero] at c0
 go_enter Tryz.func78,Tryz.ntmps78
 go_wp2_with fail
 refine (place_any n u0 t _ (by omega) hu ht).mono ?_
 rintro e w1 ⟨rfl,rfl⟩
 go_wp2
 go_ret
 exact ⟨rfl,rfl⟩
theorem qF_any (n u0 u1 gn gf t:Nat)(s:Int)(w:World)(hs:s=t)(ht:t<4)(hn:n≤64)(hu:u1<4)(h1:Row w gn 3 [.int .i64 (n:Int)])(h2:Row w gf 120 [.int .i64 (u0:Int),.int .i64 (u1:Int)]) :
 Calls Tryz.prog 80 #[.int .i64 s,.pointer (some ⟨gn,0,none⟩),.pointer (some ⟨gf,0,none⟩)] w fun e w'=>e = .returned (.int .i64 (plc (n+1) u1 t:Nat))∧w'=w:=by
 subst hs
 have c0:=h1.cell (i:=0) (by simp)
 obtain ⟨a0,a1,a2⟩:=box2 h2
 simp only [List.getElem_cons_zero] at c0
 have e1:((n+1:Nat):Int).toNat=n+1:=by omega
 go_enter Tryz.func80,Tryz.ntmps80
 clear e1
 go_wp2_with fail
 refine (place_i ((n:Int)+1) (u1:Int) (t:Int) _ (by omega) (by omega) (by omega)).mono ?_
 rintro e w1 ⟨rfl,rfl⟩
 go_wp2
 go_ret
 exact ⟨rfl,rfl⟩
theorem row_far {W:World}{g t:Nat}{vs:List Value}{base:Nat}{v:Value}{n:Nat}{xs:List Value}(h:Row W g t vs)(ht:t≠3)(ho:W.ownsRow base 3 1 v n xs):some g≠v.ownBlock:=by
 intro e
 obtain ⟨cs,fr,h3⟩:=ownsRow_block ho g e.symm
 rw [h] at h3
 injection h3 with h3
 injection h3 with _ h4
 exact ht h4
def leadM (d:Pl.Dg)(mt:List Nat)(x:Int)(i o:Nat):List Nat:=if x<0 then jn mt i o else jn (jn mt x.toNat i) o (d.m x.toNat)
structure PK (w:World) (gd gn gr gf g1 c1 n1 g2 c2 n2 base n u0 u1:Nat) (s5 m5 dv ss:List Value) (lpr:Int) (mt:List Nat) (W:World):Prop where
 s:Row W w.heap.size 91 s5
 m:Row W (w.heap.size+1) 43 m5
 rd:∃vs,Row W (w.heap.size+1+1) 24 vs∧vs.length=3
 rm:∃us,Row W (w.heap.size+1+1+1) 43 us∧us.length=5
 d:Row W gd 24 dv
 nb:Row W gn 3 [.int .i64 (n:Int)]
 f:Row W gf 120 [.int .i64 (u0:Int),.int .i64 (u1:Int)]
 r:Row W gr 24 [.slice (some ⟨g1,0,none⟩) n1 c1,.slice (some ⟨g2,0,none⟩) n2 c2,.int .i64 lpr]
 o1:W.ownsRow base 3 1 (.slice (some ⟨g1,0,none⟩) n1 c1) n1 ss
 o2:OwnN W base g2 n2 c2 mt
 ne:g1≠g2
 bel:Below w.heap.size w W
 a1:w.heap.size+1+1+1<gd
 a2:w.heap.size+1+1+1<gn
 a3:w.heap.size+1+1+1<gr
 a5:gn<base
 a6:gr≠gd
section
variable {w:World} {gd gn gr gf g1 c1 n1 g2 c2 n2 base n u0 u1:Nat} {s5 m5 dv ss:List Value} {lpr:Int} {mt:List Nat} {W W2:World}
theorem PK.drew (h:PK w gd gn gr gf g1 c1 n1 g2 c2 n2 base n u0 u1 s5 m5 dv ss lpr mt W):PK w gd gn gr gf g1 c1 n1 g2 c2 n2 base n u0 u1 s5 m5 dv ss lpr mt W.drew :=
 ⟨h.s,h.m,h.rd,h.rm,h.d,h.nb,h.f,h.r,h.o1,h.o2,h.ne,h.bel.drew,h.a1,h.a2,h.a3,h.a5,h.a6⟩
theorem PK.cast (h:PK w gd gn gr gf g1 c1 n1 g2 c2 n2 base n u0 u1 s5 m5 dv ss lpr mt W)(e:W2=W):PK w gd gn gr gf g1 c1 n1 g2 c2 n2 base n u0 u1 s5 m5 dv ss lpr mt W2:=e ▸ h
theorem PK.lob (h:PK w gd gn gr gf g1 c1 n1 g2 c2 n2 base n u0 u1 s5 m5 dv ss lpr mt W)(hn2:0<n2):base≤g2∧g2<W.heap.size:=by
 obtain ⟨g,e,h1,h2⟩:=owns_pos hn2 h.o2
 injection e with e
 injection e with e
 subst e
 exact ⟨h1,h2⟩
theorem PK.join {mt':List Nat}(h:PK w gd gn gr gf g1 c1 n1 g2 c2 n2 base n u0 u1 s5 m5 dv ss lpr mt W)(own:OwnN W2 base g2 n2 c2 mt')(gw:W.grownBy W2 (some g2)):PK w gd gn gr gf g1 c1 n1 g2 c2 n2 base n u0 u1 s5 m5 dv ss lpr mt' W2:=by
 have f1:∀{g:Nat} {t:TypeId} {vs:List Value},t≠3→Row W g t vs→Row W2 g t vs:=fun ht hr=>hr.grown gw (row_far hr ht h.o2)
 have hb:∀k,some g2=some k→w.heap.size≤k:=fun k hk=>by
  injection hk with hk
  have h1:=h.a5
  have h2:=h.a2
  have h3:=World.ownsRow.lt h.o2 g2 rfl
  omega
 obtain ⟨vs,r1,l1⟩:=h.rd
 obtain ⟨us,r2,l2⟩:=h.rm
 refine ⟨f1 (by decide) h.s,f1 (by decide) h.m,⟨vs,f1 (by decide) r1,l1⟩,⟨us,f1 (by decide) r2,l2⟩,f1 (by decide) h.d,h.nb.grown gw ?_,f1 (by decide) h.f,f1 (by decide) h.r,own_grown h.o1 gw h.ne,own,h.ne,h.bel.grown gw h.bel.size hb,h.a1,h.a2,h.a3,h.a5,h.a6⟩
 intro e
 injection e with e
 have h1:=h.a5
 have h3:=World.ownsRow.lt h.o2 g2 rfl
 omega
theorem PK.loops (h:PK w gd gn gr gf g1 c1 n1 g2 c2 n2 base n u0 u1 s5 m5 dv ss lpr mt W)(v:Int):PK w gd gn gr gf g1 c1 n1 g2 c2 n2 base n u0 u1 s5 m5 dv ss v mt (W.setCell ⟨gr,2,none⟩ (.int .i64 v)):=by
 have h3:=h.a3
 have e1:=row_far h.r (by decide) h.o1
 have e2:=row_far h.r (by decide) h.o2
 have e3:gn≠gr:=fun e=>by
  have h5:=h.nb
  rw [e] at h5
  have h6:=h.r
  unfold Row at h5 h6
  rw [h5] at h6
  injection h6 with h6
  injection h6 with _ h7
  exact absurd h7 (by decide)
 have e4:gf≠gr:=fun e=>by
  have h5:=h.f
  rw [e] at h5
  have h6:=h.r
  unfold Row at h5 h6
  rw [h5] at h6
  injection h6 with h6
  injection h6 with _ h7
  exact absurd h7 (by decide)
 obtain ⟨vs,r1,l1⟩:=h.rd
 obtain ⟨us,r2,l2⟩:=h.rm
 refine ⟨h.s.other (by show _≠gr;omega) _,h.m.other (by show _≠gr;omega) _,⟨vs,r1.other (by show _≠gr;omega) _,l1⟩,⟨us,r2.other (by show _≠gr;omega) _,l2⟩,h.d.other (by show _≠gr;exact Ne.symm h.a6) _,h.nb.other e3 _,h.f.other e4 _,h.r.set 2 _,own_set h.o1 (fun e=>e1 (by rw [e];rfl)),own_set h.o2 (fun e=>e2 (by rw [e];rfl)),h.ne,h.bel.setCell (by show _≤gr;omega) _,h.a1,h.a2,h.a3,h.a5,h.a6⟩
end
set_option maxRecDepth 100000 in
set_option maxHeartbeats 2000000 in
theorem lead_any (d:Pl.Dg)(hd:Pl.Wf d)(A B:Option Addr)(cp cq m i o:Nat)(gd gn gr gf g1 c1 n1 g2 c2 n2 base n u0 u1:Nat)(s5 m5 ss:List Value)(x lp:Int)(mt:List Nat)(w W:World)(hm:m=4 * d.n)(hg:DgAt w A B d)(hx:x<4 * (d.n:Int))(hlp:-10≤lp∧lp≤1000)
 (hp:PK w gd gn gr gf g1 c1 n1 g2 c2 n2 base n u0 u1 s5 m5 [.slice A d.n cp,.slice B m cq,.int .i64 (d.lp:Int)] ss lp mt W) (hi:i<n2) (hoo:o<n2) (hmn:m≤n2) (hn:n2≤1000) :
 Calls Tryz.prog 81 #[.int .i64 x,.int .i64 (i:Int),.int .i64 (o:Int),.pointer (some ⟨gr,0,none⟩),.pointer (some ⟨gd,0,none⟩)] W fun e w'=>e = .returned (.tuple #[])∧PK w gd gn gr gf g1 c1 n1 g2 c2 n2 base n u0 u1 s5 m5 [.slice A d.n cp,.slice B m cq,.int .i64 (d.lp:Int)] ss (if x<0 then lp - 1 else lp) (leadM d mt x i o) w':=by
 have HM:=hide hm
 have HG:=hide hg
 have HP:=hide hp
 clear hm hg hp
 obtain ⟨r0,r1,r2,r3⟩:=box3 HP.out.r
 obtain ⟨d0,d1,d2,d3⟩:=box3 HP.out.d
 by_cases hx0:x<0
 ·have HE:=hide (show leadM d mt x i o=jn mt i o by unfold leadM;rw [if_pos hx0])
  go_enter Tryz.func81,Tryz.ntmps81
  go_wp2_with fail
  refine (join_any base g2 n2 c2 i o mt _ HP.out.o2 hi hoo (by omega)).mono ?_
  rintro e w1 ⟨rfl,own1,gr1⟩
  have HP1:=hide (HP.out.join own1 gr1)
  clear own1 gr1 r0 r1 r2 r3 d0 d1 d2 d3
  obtain ⟨r0,r1,r2,r3⟩:=box3 HP1.out.r
  go_wp2
  refine bodyPost_ret (results_none rfl _ _ _) rfl ?_
  refine ⟨rfl,?_⟩
  rw [HE.out]
  exact HP1.out.loops _
 ·obtain ⟨q,rfl⟩:=Int.eq_ofNat_of_zero_le (show 0≤x by omega)
  have HE:=hide (show leadM d mt (q:Int) i o=jn (jn mt q i) o (d.m q) by unfold leadM;rw [if_neg (by omega),Int.toNat_natCast])
  have hq:q<4 * d.n:=by omega
  have hqm:q<m:=by have:=HM.out;omega
  have iq:(0:Int)≤(q:Int):=by omega
  have jq:(q:Int)<(m:Int):=by omega
  have hmq:=hd.lt q hq
  have hmq2:d.m q<n2:=by have:=HM.out;omega
  go_enter Tryz.func81,Tryz.ntmps81
  go_wp2_with fail
  refine (join_any base g2 n2 c2 q i mt _ HP.out.o2 (by omega) hi (by omega)).mono ?_
  rintro e w1 ⟨rfl,own1,gr1⟩
  have HP1:=hide (HP.out.join own1 gr1)
  clear own1 gr1 r0 r1 r2 r3 d0 d1 d2 d3
  obtain ⟨r0,r1,r2,r3⟩:=box3 HP1.out.r
  obtain ⟨d0,d1,d2,d3⟩:=box3 HP1.out.d
  have HG1:=hide (HG.out.keep HP1.out.bel)
  obtain ⟨mb,mo,rfl,cm⟩:=mate_at HG1.out.m hq
  obtain ⟨u,hu⟩:∃u,u=d.m q:=⟨_,rfl⟩
  rw [←hu] at cm hmq2
  have HU:=hide hu
  clear hu hmq
  go_upto_region 4 with fail
  go_still_tail 8,(by kernel_rfl)
  change wpList _ _ _ _ _ w1.drew
  obtain ⟨W6,hW6⟩:∃W6:World,W6=w1.drew:=⟨_,rfl⟩
  rw [←hW6]
  have HP6:=hide (HP1.out.drew.cast hW6)
  clear hW6 r0 r1 r2 r3 d0 d1 d2 d3 cm
  go_wp2_with fail
  refine (join_any base g2 n2 c2 o u _ W6 HP6.out.o2 hoo hmq2 (by omega)).mono ?_
  rintro e w7 ⟨rfl,own7,gr7⟩
  have HP7:=hide (HP6.out.join own7 gr7)
  clear own7 gr7
  go_wp2
  go_end0
  refine ⟨rfl,?_⟩
  first
   | (rw [HE.out,←HU.out];exact HP7.out)
   | (rw [if_neg (show ¬((q:Int)<0) by omega),HE.out,←HU.out];exact HP7.out)
end Go.Proofs.YtdgliimmnnhhjaaGreatDoor
end
section
namespace Go.Proofs.YtdgliimmnnhhjaaGreatDoor
open Go Go.RowKit
def lpv (d:Pl.Dg)(h:Nat):Int:=if Pl.out d h then -2 else -1
def oldv (d:Pl.Dg)(x y h:Nat):Int:=(Pl.shf [x,y] (d.m h):Nat)
theorem loopF_any (d:Pl.Dg)(hd:Pl.Wf d)(A B:Option Addr)(cp cq m g h:Nat)(w:World)(hr:Row w g 24 [.slice A d.n cp,.slice B m cq,.int .i64 (d.lp:Int)])(hg:DgAt w A B d)(hh:h<4 * d.n) :
 Calls Tryz.prog 107 #[.int .i64 (h:Int),.pointer (some ⟨g,0,none⟩)] w fun e w'=>e = .returned (.int .i64 (lpv d h))∧Below w.heap.size w w':=by
 obtain ⟨d0,d1,d2,d3⟩:=box3 hr
 have hn:=hd.few
 go_enter Tryz.func107,Tryz.ntmps107
 go_wp2_with fail
 refine (out2_n d A B d.n cp m cq (.int .i64 (d.lp:Int)) h _ rfl hh (by omega) hg.s).mono ?_
 rintro e w1 ⟨rfl,hb1⟩
 cases ho:Pl.out d h with
 | true =>
   have E:=hide (show lpv d h = -2 by unfold lpv;rw [ho];rfl)
   clear ho
   go_wp2
   go_ret
   exact ⟨ret_int E.out.symm,hb1⟩
 | false =>
   have E:=hide (show lpv d h = -1 by unfold lpv;rw [ho];rfl)
   clear ho
   go_wp2
   go_ret
   exact ⟨ret_int E.out.symm,hb1⟩
set_option maxRecDepth 100000 in
set_option maxHeartbeats 1000000 in
theorem oldF_any (d:Pl.Dg)(hd:Pl.Wf d)(A B:Option Addr)(cp cq m g gm x y h:Nat)(k sg:Int)(ov:Bool)(w:World)(hm:m=4 * d.n)(hr:Row w g 24 [.slice A d.n cp,.slice B m cq,.int .i64 (d.lp:Int)])(hrm:Row w gm 43 [.int .i64 k,.int .i64 (x:Int),.int .i64 (y:Int),.int .i64 sg,.bool ov])(hg:DgAt w A B d)(hh:h<4 * d.n)(hxy:x<y) :
 Calls Tryz.prog 108 #[.int .i64 (h:Int),.pointer (some ⟨g,0,none⟩),.pointer (some ⟨gm,0,none⟩)] w fun e w'=>e = .returned (.int .i64 (oldv d x y h))∧Below w.heap.size w w':=by
 obtain ⟨d0,d1,d2,d3⟩:=box3 hr
 obtain ⟨m0,m1,m2,m3,m4,m5⟩:=box5 hrm
 have hn:=hd.few
 have l1:=hr.lt
 have l2:=hrm.lt
 have hmh:h<m:=by omega
 have ih0:(0:Int)≤(h:Int):=by omega
 have ih1:(h:Int)<(m:Int):=by omega
 obtain ⟨mb,mo,rfl,cm⟩:=mate_at hg.m hh
 have l3:mb<w.heap.size:=lt_of_cell cm
 have hmm:=hd.lt h hh
 have E:=hide (show oldv d x y h=(Pl.shf [x,y] (d.m h):Nat) from rfl)
 obtain ⟨u,hu⟩:∃u,u=d.m h:=⟨_,rfl⟩
 rw [←hu] at cm hmm E
 clear hu
 have HM:=hide hm
 have HG:=hide hg
 clear hm hg hr hrm
 go_enter Tryz.func108,Tryz.ntmps108
 go_wp2_with fail
 go_region_held3 (fun w'=>w'.cell? ⟨g,1,none⟩=some (.slice (some ⟨mb,mo,none⟩) m cq)∧w'.cell? ⟨mb,mo+h,none⟩=some (.int .i64 (u:Int))∧w'.cell? ⟨gm,1,none⟩=some (.int .i64 (x:Int))∧w'.cell? ⟨gm,2,none⟩=some (.int .i64 (y:Int)))
  (first | go_keep | assumption | (exact ⟨by simpa [l1] using d1,by simpa [l3] using cm,by simpa [l2] using m1,by simpa [l2] using m2⟩))
  (first
    | (go_at_call 74
       refine Calls.mono (shifted_any [x,y] (some ⟨w.heap.size,0,none⟩) 2 2 u _ (by exact two_ints w (x:Int) (y:Int)) (by omega) (by omega) (Pl.few_two hxy)) ?_
       rintro e w4 ⟨rfl,rfl⟩))
 all_goals
  go_wp2
  go_ret
  refine ⟨ret_int ?_,?_⟩
  ·rw [E.out]
  ·exact ((Below.refl _ _).alloc (Nat.le_refl _) _).drew
end Go.Proofs.YtdgliimmnnhhjaaGreatDoor
end
