/-
 The texts Rw, Rapa.
-/
import Derived.Test.YtghdiolnonejaaaS10
import Derived.Test.YtghdiolnonejaaaS12
import Derived.Test.YtghdiolnonejaaaS13
set_option linter.unusedVariables false
set_option linter.unusedSimpArgs false
section
namespace Go.Proofs.Ytghdiolnonejaaa
open Go Go.RowKit
attribute [local go_sem ↓] Go.wp_at_zero Go.wp_at_succ
theorem left_len1 {n y:Nat} (hy:y < n):(Pl.left n [y]).length = n - 1 := by
 obtain ⟨k,rfl⟩:∃ k,n = k + 1 := ⟨n - 1,by omega⟩
 rw [Pl.left_up k (by omega)]
 simp
theorem shrS_len (gs:List Nat) (sg:List Int):(Pl.shrS gs sg).length = (Pl.left sg.length gs).length := by unfold Pl.shrS; simp
theorem shrM_small {gs:List Nat} {n:Nat} {l:List Nat} (h:∀ k,l.getD k 0 ≤ 1000):∀ k,(Pl.shrM gs n l).getD k 0 ≤ 1000 := by
 intro k
 have key:∀ z,z ∈ Pl.shrM gs n l → z ≤ 1000:=fun z hz => by
  unfold Pl.shrM at hz
  obtain ⟨c,_,hc⟩:=List.mem_flatMap.1 hz
  have sm:∀ j,Pl.shf gs (l.getD j 0) ≤ 1000:=fun j => by
   have:=h j
   unfold Pl.shf
   omega
  unfold Pl.four at hc
  simp only [List.mem_cons,List.not_mem_nil,or_false] at hc
  rcases hc with e | e | e | e <;> (rw [e]; exact sm _)
 rw [List.getD_eq_getElem?_getD]
 cases e:(Pl.shrM gs n l)[k]? with
 | none => exact Nat.zero_le _
 | some z => exact key z (List.mem_of_getElem? e)
structure RB (base:Nat) (w:World) (vS vM:Value) (n q:Nat) (lp:Int) (mv:List Value) (ss:List Int) (l:List Nat) (gK:Nat) (bk:List Value) (W:World):Prop where
 k:RK base w vS vM n q lp mv ss l W
 b:Row W gK 37 bk
 lo:w.heap.size + 4 ≤ gK
section
variable {base:Nat} {w W W' W2:World} {vS vM:Value} {n q gK:Nat} {lp:Int} {mv bk:List Value} {ss:List Int} {l:List Nat}
theorem RB.drew (h:RB base w vS vM n q lp mv ss l gK bk W):RB base w vS vM n q lp mv ss l gK bk W.drew := ⟨h.k.drew,h.b,h.lo⟩
theorem RB.drewN (h:RB base w vS vM n q lp mv ss l gK bk W) (j:Nat):RB base w vS vM n q lp mv ss l gK bk (W.drewN j) := ⟨h.k.drewN j,h.b.drewN j,h.lo⟩
theorem RB.below (h:RB base w vS vM n q lp mv ss l gK bk W) (hb:Below W.heap.size W W'):RB base w vS vM n q lp mv ss l gK bk W' := ⟨h.k.below hb,h.b.below hb,h.lo⟩
theorem RB.setD (h:RB base w vS vM n q lp mv ss l gK bk W) (o:Nat) (v:Value):RB base w vS vM n q lp mv ss l gK bk (W.setCell ⟨w.heap.size + 1 + 1,o,none⟩ v) := ⟨h.k.setD o v,h.b.other (by have := h.lo; show gK ≠ w.heap.size + 1 + 1; omega) v,h.lo⟩
theorem RB.setM (h:RB base w vS vM n q lp mv ss l gK bk W) (o:Nat) (v:Value):RB base w vS vM n q lp mv ss l gK bk (W.setCell ⟨w.heap.size + 1 + 1 + 1,o,none⟩ v) := ⟨h.k.setM o v,h.b.other (by have := h.lo; show gK ≠ w.heap.size + 1 + 1 + 1; omega) v,h.lo⟩
theorem RB.setL (h:RB base w vS vM n q lp mv ss l gK bk W) (lp':Int):RB base w vS vM n q lp' mv ss l gK bk (W.setCell ⟨w.heap.size,2,none⟩ (.int .i64 lp')) := ⟨h.k.setL lp',h.b.other (by have := h.lo; show gK ≠ w.heap.size; omega) _,h.lo⟩
theorem RB.setB (h:RB base w vS vM n q lp mv ss l gK bk W) (o:Nat) (v:Value):RB base w vS vM n q lp mv ss l gK (bk.set o v) (W.setCell ⟨gK,o,none⟩ v) := ⟨h.k.setO h.b (by decide) h.lo o v,h.b.set o v,h.lo⟩
theorem RB.kept (h:RB base w vS vM n q lp mv ss l gK bk W) (gr:W.grownBy W2 vM.ownBlock) {l':List Nat} (own:W2.ownsRow base 3 1 vM q (l'.map (fun k:Nat => Value.int .i64 k))):RB base w vS vM n q lp mv ss l' gK bk W2 :=
 ⟨h.k.kept gr own,h.b.grown gr (own_row_ne h.k.o h.b (by decide)),h.lo⟩
theorem RB.all {k x y s o b0 b1 b2 b3 b4 lpv:Value} {lp:Int} (h:RB base w vS vM n q lp [k,x,y,s,o] ss l gK [b0,b1,b2,b3,b4] W) (e:lpv = .int .i64 lp) :
 W.cell? ⟨w.heap.size,0,none⟩ = some vS ∧ W.cell? ⟨w.heap.size,1,none⟩ = some vM ∧ W.cell? ⟨w.heap.size,2,none⟩ = some lpv ∧ W.cell? ⟨w.heap.size + 1,1,none⟩ = some x ∧ W.cell? ⟨w.heap.size + 1,2,none⟩ = some y ∧
 W.cell? ⟨gK,0,none⟩ = some b0 ∧ W.cell? ⟨gK,1,none⟩ = some b1 ∧ W.cell? ⟨gK,2,none⟩ = some b2 ∧ W.cell? ⟨gK,3,none⟩ = some b3 ∧ W.cell? ⟨gK,4,none⟩ = some b4 ∧
 W.cell? ⟨w.heap.size + 1 + 1,0,none⟩ = some (cv W ⟨w.heap.size + 1 + 1,0,none⟩) ∧ W.cell? ⟨w.heap.size + 1 + 1,1,none⟩ = some (cv W ⟨w.heap.size + 1 + 1,1,none⟩) ∧ W.cell? ⟨w.heap.size + 1 + 1,2,none⟩ = some (cv W ⟨w.heap.size + 1 + 1,2,none⟩) ∧
 W.cell? ⟨w.heap.size + 1 + 1 + 1,0,none⟩ = some (cv W ⟨w.heap.size + 1 + 1 + 1,0,none⟩) ∧ W.cell? ⟨w.heap.size + 1 + 1 + 1,1,none⟩ = some (cv W ⟨w.heap.size + 1 + 1 + 1,1,none⟩) ∧ W.cell? ⟨w.heap.size + 1 + 1 + 1,2,none⟩ = some (cv W ⟨w.heap.size + 1 + 1 + 1,2,none⟩) ∧ W.cell? ⟨w.heap.size + 1 + 1 + 1,3,none⟩ = some (cv W ⟨w.heap.size + 1 + 1 + 1,3,none⟩) ∧ W.cell? ⟨w.heap.size + 1 + 1 + 1,4,none⟩ = some (cv W ⟨w.heap.size + 1 + 1 + 1,4,none⟩) ∧
 (∀ o,W.frozen? ⟨w.heap.size + 1 + 1,o,none⟩ = false) ∧ (∀ o,W.frozen? ⟨w.heap.size + 1 + 1 + 1,o,none⟩ = false) ∧ RB base w vS vM n q lp [k,x,y,s,o] ss l gK [b0,b1,b2,b3,b4] W := by
 subst e
 obtain ⟨vs,r1,l1⟩:=h.k.rd
 obtain ⟨us,r2,l2⟩:=h.k.rm
 obtain ⟨d0,d1,d2,_⟩:=box3 h.k.d
 obtain ⟨m0,m1,m2,m3,m4,_⟩:=box5 h.k.m
 obtain ⟨e0,e1,e2,e3,e4,_⟩:=box5 h.b
 exact ⟨d0,d1,d2,m1,m2,e0,e1,e2,e3,e4,cv_some (r1.cell (i := 0) (by omega)),cv_some (r1.cell (i := 1) (by omega)),cv_some (r1.cell (i := 2) (by omega)),cv_some (r2.cell (i := 0) (by omega)),cv_some (r2.cell (i := 1) (by omega)),cv_some (r2.cell (i := 2) (by omega)),cv_some (r2.cell (i := 3) (by omega)),cv_some (r2.cell (i := 4) (by omega)),r1.free,r2.free,h⟩
end
def RBx (base:Nat) (w:World) (vS vM:Value) (n q:Nat) (lp:Int) (k x y s o:Value) (ss:List Int) (l:List Nat) (gK:Nat) (b0 b3 b4:Value) (W:World):Prop := ∃ b c,RB base w vS vM n q lp [k,x,y,s,o] ss l gK [b0,b,c,b3,b4] W
section
variable {base:Nat} {w W:World} {vS vM k x y s o b0 b3 b4:Value} {n q gK:Nat} {lp:Int} {ss:List Int} {l:List Nat}
theorem RBx.all (h:RBx base w vS vM n q lp k x y s o ss l gK b0 b3 b4 W):W.cell? ⟨w.heap.size + 1,1,none⟩ = some x ∧ W.cell? ⟨w.heap.size + 1,2,none⟩ = some y ∧ W.cell? ⟨gK,1,none⟩ = some (cv W ⟨gK,1,none⟩) ∧ W.cell? ⟨gK,2,none⟩ = some (cv W ⟨gK,2,none⟩) ∧ (∀ o,W.frozen? ⟨gK,o,none⟩ = false) ∧ RBx base w vS vM n q lp k x y s o ss l gK b0 b3 b4 W := by
 obtain ⟨b,c,h2⟩:=h
 obtain ⟨m0,m1,m2,m3,m4,_⟩:=box5 h2.k.m
 obtain ⟨e0,e1,e2,e3,e4,e5⟩:=box5 h2.b
 exact ⟨m1,m2,cv_some e1,cv_some e2,e5,⟨b,c,h2⟩⟩
end
theorem unp_done {d:Pl.Dg} {x y base b N c2 d2 lp:Nat} {A2 B2:Option Addr} {w W:World} {X Y S:Int} {ov:Bool} {mt:List Nat} (h0:unpC d x y = 0) (hN:N = (Pl.left (Pl.shrS [y] d.sg).length [x]).length) (hD:unpD d x y = ⟨Pl.shrS [x] (Pl.shrS [y] d.sg),Pl.shrM [x] (Pl.shrS [y] d.sg).length (Pl.shrM [y] d.sg.length mt),lp⟩) (hI:unpI d x y = ⟨3,X,Y,S,ov⟩) (hb:Below base w W)
 (hS:W.ownsRow b 3 1 (.slice A2 N c2) N ((Pl.shrS [x] (Pl.shrS [y] d.sg)).map (.int .i64))) (hM:W.ownsRow b 3 1 (.slice B2 (4 * N) d2) (4 * N) ((Pl.shrM [x] (Pl.shrS [y] d.sg).length (Pl.shrM [y] d.sg.length mt)).map (fun k:Nat => Value.int .i64 k))) :
 RC base (unpC d x y) (unpD d x y) (unpI d x y) w (.returned (.tuple #[.agg #[.slice A2 N c2,.slice B2 (4 * N) d2,.int .i64 (lp:Int)],.agg #[.int .i64 3,.int .i64 X,.int .i64 Y,.int .i64 S,.bool ov],.int .i64 0])) W := by
 have hn:(unpD d x y).n = N:=by rw [hN,hD]; exact shrS_len _ _
 refine ⟨fun h => absurd h0 h,fun _ => ⟨A2,B2,c2,d2,?_,?_⟩,hb⟩
 ·rw [hn,hI,hD]
  rfl
 ·refine ⟨?_,?_⟩
  ·rw [hn,hD]
   exact own_intsT hS
  ·rw [hn,hD]
   refine own_intsT (base := b) (e := 3) (c := d2) ?_
   unfold nats
   rw [List.map_map]
   exact hM
set_option maxRecDepth 100000 in
set_option maxHeartbeats 64000000 in
theorem runpoke_in (d:Pl.Dg) (hd:Pl.Wf d) (base cp cq m:Nat) (A B:Option Addr) (k:Int) (x y:Nat) (w:World) (hm:m = 4 * d.n) (h:Own2 base w (.slice A d.n cp) (.slice B m cq) d.n m d.sg d.mt) (hxy:x < y) (hy:y < d.n) :
 Calls Try.prog 73 #[.agg #[.slice A d.n cp,.slice B m cq,.int .i64 d.lp],.agg #[.int .i64 k,.int .i64 (x:Int),.int .i64 (y:Int),.int .i64 0,.bool false]] w (RC base (unpC d x y) (unpD d x y) (unpI d x y) w) := by
 have hn:=hd.few
 have hlp:=hd.lp
 have HD:=hide hd
 have HM:=hide hm
 have hm4:m ≤ 256:=by omega
 obtain ⟨gB,rfl⟩:=own_form0 h.o (by omega)
 obtain ⟨gA,rfl⟩:=own_form0 h.s (by omega)
 have K0:=hide (RK.start h d.lp (.int .i64 k) (.int .i64 (x:Int)) (.int .i64 (y:Int)) (.int .i64 0) (.bool false))
 unfold W4 at K0
 have hle:=h.le
 have t1:decide ((x:Int) < 0) = false:=by simp
 have t2:decide ((d.n:Int) ≤ (y:Int)) = false:=by simp; omega
 have t3:decide ((y:Int) ≤ (x:Int)) = false:=by simp; omega
 have t2':decide (d.n ≤ y) = false:=by simp; omega
 have t3':decide (y ≤ x) = false:=by simp; omega
 clear hm h hd
 go_enter Try.func73,Try.ntmps73
 go_wp2_with fail
 refine (rbigon_any d HD.out _ _ cp cq m (.int .i64 d.lp) x y _ HM.out (ownN_ints K0.out.o) hxy hy).mono ?_
 rintro e w1 ⟨rfl,hb1⟩
 have K1:=hide (K0.out.below hb1)
 clear hb1 K0
 obtain ⟨d0,d1,d2,d3⟩:=box3 K1.out.d
 obtain ⟨m0,m1,m2,m3,m4,m5⟩:=box5 K1.out.m
 obtain ⟨_,r3,l3⟩:=K1.out.rd
 obtain ⟨_,r4,l4⟩:=K1.out.rm
 obtain ⟨p0,p1,p2',p3'⟩:=cells3 r3 l3
 obtain ⟨q0',q1,q2',q3',q4,q5⟩:=cells5 r4 l4
 clear r3 l3 r4 l4
 rcases hL:lensI d x y with _ | i
 ·have E:=hide (show unpC d x y = 6 by unfold unpC; rw [hL])
  rw [show bigV d x y = -1 by unfold bigV; rw [hL]]
  clear hL
  go_wp2_with fail
  go_region
  go_wp2_with fail
  refine bodyPost_ret (v := .tuple #[.agg #[.slice (some ⟨gA,0,none⟩) d.n cp,.slice (some ⟨gB,0,none⟩) m cq,.int .i64 d.lp],.agg #[.int .i64 k,.int .i64 (x:Int),.int .i64 (y:Int),.int .i64 0,.bool false],.int .i64 6]) ?_ rfl ?_
  ·obtain ⟨e0,e1,e2,e3,e4,e5,e6,e7⟩:=RK.cells K1.out (.slice (some ⟨gA,0,none⟩) d.n cp) (.slice (some ⟨gB,0,none⟩) m cq) (.int .i64 d.lp) (.int .i64 k) (.int .i64 (x:Int)) (.int .i64 (y:Int)) (.int .i64 0) (.bool false)
   unfold st8 at e0 e1 e2 e3 e4 e5 e6 e7
   simp [results,Try.results73,go_sem,e0,e1,e2,e3,e4,e5,e6,e7]
  ·rw [E.out]
   refine rc_err (by decide) ⟨some ⟨gA,0,none⟩,some ⟨gB,0,none⟩,d.n,m,cp,cq,d.lp,k,(x:Int),(y:Int),0,false,rfl⟩ ?_
   have:=(RK.fin K1.out (.slice (some ⟨gA,0,none⟩) d.n cp) (.slice (some ⟨gB,0,none⟩) m cq) (.int .i64 d.lp) (.int .i64 k) (.int .i64 (x:Int)) (.int .i64 (y:Int)) (.int .i64 0) (.bool false)).drew.bel
   unfold st8 at this
   exact this
 ·rw [show bigV d x y = ((lnH x y i:Nat):Int) by unfold bigV; rw [hL]]
  obtain ⟨h,hh⟩:∃ h,h = lnH x y i := ⟨_,rfl⟩
  have hil:=lens_lt hL
  have hl:h < 4 * d.n:=by rw [hh]; unfold lnH; split <;> omega
  have hE:=unp_ref HD.out hxy hy hL
  have EC:unpC d x y = if 64 < unpL d (lensOf d (lnH x y i)) then 5 else 0:=by unfold unpC; rw [hL]
  have ED:unpD d x y = unpDl d (lensOf d (lnH x y i)) x y:=by unfold unpD; rw [hL]
  have EI:unpI d x y = pusI d (lensOf d (lnH x y i)) x y:=by unfold unpI; rw [hL]
  have hLL:unpL d (lensOf d (lnH x y i)) = upL d (lensOf d (lnH x y i)):=congrArg Pl.Dg.lp hE
  rw [hLL] at EC
  rw [hE] at ED
  rw [← hh] at EC ED EI ⊢
  clear hh hil hE hLL hL
  obtain ⟨ln,hln⟩:∃ ln,ln = lensOf d h := ⟨_,rfl⟩
  rw [← hln] at EC ED EI
  obtain ⟨u,hu⟩:∃ u,u = d.m h := ⟨_,rfl⟩
  obtain ⟨z,hz⟩:∃ z,z = Pl.nx d h := ⟨_,rfl⟩
  obtain ⟨v,hv⟩:∃ v,v = d.m z := ⟨_,rfl⟩
  have hul:u < 4 * d.n:=by rw [hu]; exact HD.out.lt _ hl
  have hzl:z < 4 * d.n:=by rw [hz]; exact Pl.tn_lt (HD.out.lt _ hl)
  have hvl:v < 4 * d.n:=by rw [hv]; exact HD.out.lt _ hzl
  obtain ⟨p2,hp2⟩:∃ p,p = Pl.tn h 2 := ⟨_,rfl⟩
  obtain ⟨q0,hq0⟩:∃ p,p = Pl.tn u 2 := ⟨_,rfl⟩
  obtain ⟨q3,hq3⟩:∃ p,p = Pl.tn z 2 := ⟨_,rfl⟩
  obtain ⟨p3,hp3⟩:∃ p,p = Pl.tn v 2 := ⟨_,rfl⟩
  have k2:p2 < 4 * d.n:=by rw [hp2]; exact Pl.tn_lt hl
  have j0:q0 < 4 * d.n:=by rw [hq0]; exact Pl.tn_lt hul
  have j3:q3 < 4 * d.n:=by rw [hq3]; exact Pl.tn_lt hzl
  have k3:p3 < 4 * d.n:=by rw [hp3]; exact Pl.tn_lt hvl
  obtain ⟨a0,ha0⟩:∃ a,a = d.m p3 := ⟨_,rfl⟩
  obtain ⟨b0,hb0⟩:∃ a,a = d.m q0 := ⟨_,rfl⟩
  obtain ⟨c0,hc0⟩:∃ a,a = d.m q3 := ⟨_,rfl⟩
  obtain ⟨e0,he0⟩:∃ a,a = d.m p2 := ⟨_,rfl⟩
  have a0l:a0 < 4 * d.n:=by rw [ha0]; exact HD.out.lt _ k3
  have b0l:b0 < 4 * d.n:=by rw [hb0]; exact HD.out.lt _ j0
  obtain ⟨ov,hov⟩:∃ o,o = decide (z % 2 = 1) := ⟨_,rfl⟩
  have l2:ln.p2 = p2:=by rw [hln,hp2]; rfl
  have l0:ln.q0 = q0:=by rw [hln,hq0,hu]; rfl
  have l3:ln.q3 = q3:=by rw [hln,hq3,hz]; rfl
  have l3':ln.p3 = p3:=by rw [hln,hp3,hv,hz]; rfl
  have l1:ln.q1 = z:=by rw [hln,hz]; rfl
  obtain ⟨X,hX⟩:∃ X,X = ruX d ln := ⟨_,rfl⟩
  obtain ⟨Y,hY⟩:∃ X,X = ruY d ln := ⟨_,rfl⟩
  obtain ⟨S,hS⟩:∃ X,X = pusS d ln := ⟨_,rfl⟩
  have EI2:unpI d x y = ⟨3,sh1 (sh1 X y) x,sh1 (sh1 Y y) x,S,ov⟩:=by
   rw [EI,hX,hY,hS,hov,ruX_eq d ln hxy,ruY_eq d ln hxy,← l1]; rfl
  have HX:=hide (show X = if c0 = q0 then (if e0 = p3 then lpv d p3 else (a0:Int)) else if e0 = p3 then (b0:Int) else if a0 = q3 then lpv d p3 else (a0:Int) by
   rw [hX]; unfold ruX; rw [l2,l0,l3,l3',← ha0,← hb0,← hc0,← he0])
  have HY:=hide (show Y = if c0 = q0 then (if e0 = p3 then lpv d p3 else (a0:Int)) else if e0 = p3 then (b0:Int) else if b0 = p2 then lpv d q0 else (b0:Int) by
   rw [hY]; unfold ruY; rw [l2,l0,l3,l3',← ha0,← hb0,← hc0,← he0])
  have HS:=hide (show S = if c0 = q0 then 1 else if e0 = p3 then -1 else 0 by
   rw [hS]; unfold pusS; rw [l2,l0,l3,l3',← hc0,← he0])
  have hlv:∀ z,-2 ≤ lpv d z ∧ lpv d z ≤ -1:=fun z => by unfold lpv; split <;> omega
  have hXb:-2 ≤ X ∧ X ≤ 1000:=by
   have:=hlv p3
   rw [HX.out]; (repeat' split) <;> omega
  have hYb:-2 ≤ Y ∧ Y ≤ 1000:=by
   have:=hlv p3
   have:=hlv q0
   rw [HY.out]; (repeat' split) <;> omega
  obtain ⟨L1,hL1⟩:∃ l,l = clo d.mt p3 q3 := ⟨_,rfl⟩
  obtain ⟨L2,hL2⟩:∃ l,l = clo L1 q0 p2 := ⟨_,rfl⟩
  obtain ⟨n1,hn1⟩:∃ n,n = clk d.mt p3 q3 := ⟨_,rfl⟩
  obtain ⟨n2,hn2⟩:∃ n,n = clk L1 q0 p2 := ⟨_,rfl⟩
  have hn12:n1 ≤ 1 ∧ n2 ≤ 1:=by rw [hn1,hn2]; unfold clk; constructor <;> split <;> omega
  have EM:upM d ln = L2:=by unfold upM; rw [l2,l0,l3,l3',← hL1,← hL2]
  have EL:upL d ln = d.lp + n1 + n2:=by unfold upL; rw [l2,l0,l3,l3',← hL1,← hn1,← hn2]
  have hlen:d.mt.length = m:=by rw [HM.out]; exact HD.out.len
  have hlt0:∀ j,j < d.mt.length → d.mt.getD j 0 < d.mt.length:=fun j hj => by
   rw [m_get HD.out (by rw [← HM.out,← hlen]; exact hj),hlen,HM.out]; exact HD.out.lt _ (by rw [← HM.out,← hlen]; exact hj)
  have hlt1:∀ j,j < L1.length → L1.getD j 0 < L1.length:=by
   rw [hL1]; exact clo_lt hlt0 (by rw [hlen,HM.out]; exact k3) (by rw [hlen,HM.out]; exact j3)
  have hlen1:L1.length = m:=by rw [hL1,clo_len,hlen]
  have hlt2:∀ j,j < L2.length → L2.getD j 0 < L2.length:=by
   rw [hL2]; exact clo_lt hlt1 (by rw [hlen1,HM.out]; exact j0) (by rw [hlen1,HM.out]; exact k2)
  have hlen2:L2.length = m:=by rw [hL2,clo_len,hlen1]
  have HSM:=hide (show ∀ j,L2.getD j 0 ≤ 1000 from fun j => by
   rcases Nat.lt_or_ge j m with q | q
   ·have:=hlt2 j (by omega)
    omega
   ·rw [List.getD_eq_getElem?_getD,List.getElem?_eq_none (by omega)]
    exact Nat.zero_le _)
  rw [EL] at EC
  rw [EM,EL] at ED
  have HLT0:=hide (show ∀ j,j < m → d.mt.getD j 0 < m from fun j hj => by rw [← hlen] at hj ⊢; exact hlt0 j hj)
  have HLT1:=hide (show ∀ j,j < m → L1.getD j 0 < m from fun j hj => by rw [← hlen1] at hj ⊢; exact hlt1 j hj)
  have GP3:=hide (show d.mt.getD p3 0 = a0 by rw [m_get HD.out k3,ha0])
  have EC':=hide EC
  have ED':=hide ED
  have EI':=hide EI2
  have HL1:=hide hL1
  have HL2:=hide hL2
  have HN1:=hide hn1
  have HN2:=hide hn2
  clear EC ED EI EI2 hX hY hS l2 l0 l3 l3' l1 hln hlt0 hlt1 hlt2 hlen hlen1 hlen2 EM EL hL1 hL2 hn1 hn2 hlv
  have hhm:(h:Int) < (m:Int):=by have := HM.out; omega
  have hh0:(0:Int) ≤ (h:Int):=by omega
  have hzm:(z:Int) < (m:Int):=by have := HM.out; omega
  have hz0:(0:Int) ≤ (z:Int):=by omega
  have p2m:(p2:Int) < (m:Int):=by have := HM.out; omega
  have p20:(0:Int) ≤ (p2:Int):=by omega
  have q0m:(q0:Int) < (m:Int):=by have := HM.out; omega
  have q00:(0:Int) ≤ (q0:Int):=by omega
  have q3m:(q3:Int) < (m:Int):=by have := HM.out; omega
  have q30:(0:Int) ≤ (q3:Int):=by omega
  have p3m:(p3:Int) < (m:Int):=by have := HM.out; omega
  have p30:(0:Int) ≤ (p3:Int):=by omega
  go_wp2_with fail
  refine (rnext_any d HD.out _ _ cp cq m (.int .i64 d.lp) h _ HM.out (ownN_ints K1.out.o) hl).mono ?_
  rintro e w2 ⟨rfl,hb2⟩
  rw [← hz]
  have K2:=hide (K1.out.below hb2)
  clear hb2 K1
  clear d0 d1 d2 d3 m0 m1 m2 m3 m4 m5 p0 p1 p2' p3' q0' q1 q2' q3' q4 q5
  obtain ⟨d0,d1,d2,d3⟩:=box3 K2.out.d
  obtain ⟨m0,m1,m2,m3,m4,m5⟩:=box5 K2.out.m
  obtain ⟨_,r3,l3⟩:=K2.out.rd
  obtain ⟨_,r4,l4⟩:=K2.out.rm
  obtain ⟨p0,p1,p2',p3'⟩:=cells3 r3 l3
  obtain ⟨q0',q1,q2',q3',q4,q5⟩:=cells5 r4 l4
  clear r3 l3 r4 l4
  have ch:=OwnN.cell K2.out.o (k := h) (by have := HM.out; omega)
  rw [m_get HD.out hl,← hu] at ch
  have cz:=OwnN.cell K2.out.o (k := z) (by have := HM.out; omega)
  rw [m_get HD.out hzl,← hv] at cz
  have HU:=hide hu
  have HZ:=hide hz
  have HV:=hide hv
  have HP2:=hide hp2
  have HQ0:=hide hq0
  have HQ3:=hide hq3
  have HP3:=hide hp3
  have HA0:=hide ha0
  have HB0:=hide hb0
  have HC0:=hide hc0
  have HE0:=hide he0
  have HOV:=hide hov
  clear hu hz hv hp2 hq0 hq3 hp3 ha0 hb0 hc0 he0 hov
  go_upto_region 8 with fail
  go_quiet ((go_at_call 117; exact Calls.quiet_of_same (ropp_s _ _ (by omega))))
  rw [← HP2.out,← HQ0.out]
  have K3:=hide (K2.out.drewN nq)
  obtain ⟨w3,hw3⟩:∃ W,W = w2.drewN nq := ⟨_,rfl⟩
  rw [← hw3] at K3 ⊢
  have cz3:w3.cell? ⟨gB,z,none⟩ = some (.int .i64 (v:Int)):=by rw [hw3]; exact cz
  clear hw3 K2 ch cz
  clear d0 d1 d2 d3 m0 m1 m2 m3 m4 m5 p0 p1 p2' p3' q0' q1 q2' q3' q4 q5
  obtain ⟨d0,d1,d2,d3⟩:=box3 K3.out.d
  obtain ⟨m0,m1,m2,m3,m4,m5⟩:=box5 K3.out.m
  obtain ⟨_,r3,l3⟩:=K3.out.rd
  obtain ⟨_,r4,l4⟩:=K3.out.rm
  obtain ⟨p0,p1,p2',p3'⟩:=cells3 r3 l3
  obtain ⟨q0',q1,q2',q3',q4,q5⟩:=cells5 r4 l4
  clear r3 l3 r4 l4
  go_upto_region 9 with fail
  go_quiet ((go_at_call 117; exact Calls.quiet_of_same (ropp_s _ _ (by omega))))
  rw [← HQ3.out,← HP3.out]
  have K4:=hide (K3.out.drewN nq)
  obtain ⟨w4,hw4⟩:∃ W,W = w3.drewN nq := ⟨_,rfl⟩
  rw [← hw4] at K4 ⊢
  clear hw4 K3 cz3
  clear d0 d1 d2 d3 m0 m1 m2 m3 m4 m5 p0 p1 p2' p3' q0' q1 q2' q3' q4 q5
  obtain ⟨d0,d1,d2,d3⟩:=box3 K4.out.d
  obtain ⟨m0,m1,m2,m3,m4,m5⟩:=box5 K4.out.m
  obtain ⟨_,r3,l3⟩:=K4.out.rd
  obtain ⟨_,r4,l4⟩:=K4.out.rm
  obtain ⟨p0,p1,p2',p3'⟩:=cells3 r3 l3
  obtain ⟨q0',q1,q2',q3',q4,q5⟩:=cells5 r4 l4
  clear r3 l3 r4 l4
  have cp3:=OwnN.cell K4.out.o (k := p3) (by have := HM.out; omega)
  rw [m_get HD.out k3,← HA0.out] at cp3
  have cq0:=OwnN.cell K4.out.o (k := q0) (by have := HM.out; omega)
  rw [m_get HD.out j0,← HB0.out] at cq0
  have ho1:((z:Int) % 2 == 1) = ov:=by rw [HOV.out,Bool.eq_iff_iff,beq_iff_eq,decide_eq_true_iff]; omega
  have ho2:((z:Int).tmod 2 == 1) = ov:=by rw [Int.tmod_eq_emod_of_nonneg (by omega)]; exact ho1
  go_upto_region 10 with fail
  have hbig:=K4.out.big
  go_cut [14] from 77 to 90 (fun s14 wx => ∃ g5:Nat,s14 = .pointer (some ⟨g5,0,none⟩) ∧ RB base w (.slice (some ⟨gA,0,none⟩) d.n cp) (.slice (some ⟨gB,0,none⟩) m cq) d.n m d.lp [.int .i64 k,.int .i64 (x:Int),.int .i64 (y:Int),.int .i64 0,.bool false] d.sg d.mt g5 [.int .i64 3,.int .i64 (a0:Int),.int .i64 (b0:Int),.int .i64 0,.bool ov] wx)
  case first =>
   have hgB0:=(World.ownsRow.lt K4.out.o gB rfl).2
   have hw00:w.heap.size < w4.heap.size:=by omega
   have X5:=hide (row_at (W := w4) (g := w4.heap.size) (t := 37) (vs := [.int .i64 3,.int .i64 (a0:Int),.int .i64 (b0:Int),.int .i64 0,.bool ov]) rfl)
   go_region
   all_goals (go_wp2_with fail; go_meet)
   all_goals exact ⟨w4.heap.size,rfl,⟨(K4.out.alloc _).drew,X5.out.drew,by omega⟩⟩
  case rest =>
   obtain ⟨g5,rfl,hcut'⟩:=hcut
   have R6:=hide hcut'
   clear hcut' K4 cp3 cq0 ho1 ho2 hbig
   clear d0 d1 d2 d3 m0 m1 m2 m3 m4 m5 p0 p1 p2' p3' q0' q1 q2' q3' q4 q5
   obtain ⟨w6,hw6⟩:∃ W,W = wc := ⟨_,rfl⟩
   rw [← hw6] at R6 ⊢
   clear hw6
   obtain ⟨d0,d1,d2,d3⟩:=box3 R6.out.k.d
   have cq3:=OwnN.cell R6.out.k.o (k := q3) (by have := HM.out; omega)
   rw [m_get HD.out j3,← HC0.out] at cq3
   have cp2:=OwnN.cell R6.out.k.o (k := p2) (by have := HM.out; omega)
   rw [m_get HD.out k2,← HE0.out] at cp2
   obtain ⟨f1,hf1⟩:∃ f,f = ((c0:Int) == (q0:Int)) := ⟨_,rfl⟩
   obtain ⟨f2,hf2⟩:∃ f,f = ((e0:Int) == (p3:Int)) := ⟨_,rfl⟩
   have F1:=hide (show f1 = decide (c0 = q0) by rw [hf1,Bool.eq_iff_iff,beq_iff_eq,decide_eq_true_iff]; omega)
   have F2:=hide (show f2 = decide (e0 = p3) by rw [hf2,Bool.eq_iff_iff,beq_iff_eq,decide_eq_true_iff]; omega)
   go_upto_region 11 with fail
   go_quiet (fail)
   rw [← hf1,← hf2]
   clear hf1 hf2
   have R7:=hide (R6.out.drewN nq)
   obtain ⟨w7,hw7⟩:∃ W,W = w6.drewN nq := ⟨_,rfl⟩
   rw [← hw7] at R7 ⊢
   clear hw7 R6 cq3 cp2 d0 d1 d2 d3
   obtain ⟨d0,d1,d2,d3⟩:=box3 R7.out.k.d
   go_wp2_with fail
   refine (rout_any d _ _ d.n cp m cq (.int .i64 d.lp) p3 _ rfl (by omega) (by omega) (own_intsR R7.out.k.s)).mono ?_
   rintro e w8 ⟨rfl,hb8⟩
   have R8:=hide (R7.out.below hb8)
   clear hb8 R7 d0 d1 d2 d3
   obtain ⟨o3,ho3⟩:∃ o,o = Pl.out d p3 := ⟨_,rfl⟩
   rw [← ho3]
   have HO3:=hide (show lpv d p3 = if o3 = true then -2 else -1 by unfold lpv; rw [ho3])
   clear ho3
   go_upto_if 108 with fail
   go_cut [17] from 107 to 108 (fun s17 wx => s17 = .int .i64 (lpv d p3) ∧ wx = w8)
   case first =>
    cases o3 with
    | true =>
      have E3:=hide (show lpv d p3 = -2 by rw [HO3.out]; rfl)
      go_wp2_with fail
      go_meet
      exact ⟨by rw [E3.out],rfl⟩
    | false =>
      have E3:=hide (show lpv d p3 = -1 by rw [HO3.out]; rfl)
      go_wp2_with fail
      go_meet
      exact ⟨by rw [E3.out],rfl⟩
   case rest =>
    obtain ⟨rfl,hwc⟩:=hcut
    rw [hwc]
    clear hwc HO3
    obtain ⟨l3,hl3⟩:∃ l,l = lpv d p3 := ⟨_,rfl⟩
    rw [← hl3]
    go_upto_block 0 with fail
    go_cut [] from 109 to 152 (fun wx => RB base w (.slice (some ⟨gA,0,none⟩) d.n cp) (.slice (some ⟨gB,0,none⟩) m cq) d.n m d.lp [.int .i64 k,.int .i64 (x:Int),.int .i64 (y:Int),.int .i64 0,.bool false] d.sg d.mt g5 [.int .i64 3,.int .i64 X,.int .i64 Y,.int .i64 S,.bool ov] wx)
    case first =>
     obtain ⟨d0,d1,d2,d3⟩:=box3 R8.out.k.d
     obtain ⟨x0,x1,x2,x3,x4,x5⟩:=box5 R8.out.b
     rw [← hl3] at HX HY
     have HL3:=hide hl3
     clear hl3
     by_cases h1:c0 = q0
     ·have e1:f1 = true:=by rw [F1.out]; simpa using h1
      subst e1
      by_cases h2:e0 = p3
      ·have e2:f2 = true:=by rw [F2.out]; simpa using h2
       subst e2
       have EX:=hide (show X = l3 by rw [HX.out,if_pos h1,if_pos h2])
       have EY:=hide (show Y = l3 by rw [HY.out,if_pos h1,if_pos h2])
       have ES:=hide (show S = 1 by rw [HS.out,if_pos h1])
       clear h1 h2
       go_wp2_with fail
       go_meet
       rw [EX.out,EY.out,ES.out]
       exact ((R8.out.setB 1 (.int .i64 l3)).setB 2 (.int .i64 l3)).setB 3 (.int .i64 1)
      ·have e2:f2 = false:=by rw [F2.out]; simpa using h2
       subst e2
       have EX:=hide (show X = a0 by rw [HX.out,if_pos h1,if_neg h2])
       have EY:=hide (show Y = a0 by rw [HY.out,if_pos h1,if_neg h2])
       have ES:=hide (show S = 1 by rw [HS.out,if_pos h1])
       clear h1 h2
       go_wp2_with fail
       go_meet
       rw [EX.out,EY.out,ES.out]
       exact (R8.out.setB 2 (.int .i64 (a0:Int))).setB 3 (.int .i64 1)
     ·have e1:f1 = false:=by rw [F1.out]; simpa using h1
      subst e1
      by_cases h2:e0 = p3
      ·have e2:f2 = true:=by rw [F2.out]; simpa using h2
       subst e2
       have EX:=hide (show X = b0 by rw [HX.out,if_neg h1,if_pos h2])
       have EY:=hide (show Y = b0 by rw [HY.out,if_neg h1,if_pos h2])
       have ES:=hide (show S = -1 by rw [HS.out,if_neg h1,if_pos h2])
       clear h1 h2
       go_wp2_with fail
       go_meet
       rw [EX.out,EY.out,ES.out]
       exact (R8.out.setB 1 (.int .i64 (b0:Int))).setB 3 (.int .i64 (-1))
      ·have e2:f2 = false:=by rw [F2.out]; simpa using h2
       subst e2
       have EX:=hide (show X = if a0 = q3 then l3 else (a0:Int) by rw [HX.out,if_neg h1,if_neg h2])
       have EY:=hide (show Y = if b0 = p2 then lpv d q0 else (b0:Int) by rw [HY.out,if_neg h1,if_neg h2])
       have ES:=hide (show S = 0 by rw [HS.out,if_neg h1,if_neg h2])
       clear h1 h2
       have cp3:=OwnN.cell R8.out.k.o (k := p3) (by have := HM.out; omega)
       rw [m_get HD.out k3,← HA0.out] at cp3
       go_upto_if 115 with fail
       go_cut [] from 116 to 117 (fun wx => RB base w (.slice (some ⟨gA,0,none⟩) d.n cp) (.slice (some ⟨gB,0,none⟩) m cq) d.n m d.lp [.int .i64 k,.int .i64 (x:Int),.int .i64 (y:Int),.int .i64 0,.bool false] d.sg d.mt g5 [.int .i64 3,.int .i64 X,.int .i64 (b0:Int),.int .i64 0,.bool ov] wx)
       case first =>
        by_cases h3:a0 = q3
        ·have t3:((a0:Int) == (q3:Int)) = true:=by rw [beq_iff_eq]; omega
         have EX2:=hide (show X = l3 by rw [EX.out,if_pos h3])
         clear h3
         go_wp2_with fail
         go_meet
         rw [EX2.out]
         exact R8.out.setB 1 (.int .i64 l3)
        ·have t3:((a0:Int) == (q3:Int)) = false:=by rw [beq_eq_false_iff_ne]; omega
         have EX2:=hide (show X = a0 by rw [EX.out,if_neg h3])
         clear h3
         go_wp2_with fail
         go_meet
         rw [EX2.out]
         exact R8.out
       case rest =>
        have R9:=hide hcut
        clear hcut d0 d1 d2 d3 x0 x1 x2 x3 x4 x5 cp3
        obtain ⟨d0,d1,d2,d3⟩:=box3 R9.out.k.d
        obtain ⟨x0,x1,x2,x3,x4,x5⟩:=box5 R9.out.b
        have cq0:=OwnN.cell R9.out.k.o (k := q0) (by have := HM.out; omega)
        rw [m_get HD.out j0,← HB0.out] at cq0
        by_cases h3:b0 = p2
        ·have t3:((b0:Int) == (p2:Int)) = true:=by rw [beq_iff_eq]; omega
         have EY2:=hide (show Y = lpv d q0 by rw [EY.out,if_pos h3])
         clear h3
         go_upto_region 19 with fail
         obtain ⟨w9,hw9⟩:∃ W,W = wc.setCell ⟨g5,2,none⟩ (.int .i64 (-2)) := ⟨_,rfl⟩
         have R10:=hide (R9.out.setB 2 (.int .i64 (-2)))
         rw [← hw9] at R10 ⊢
         clear hw9 d0 d1 d2 d3 x0 x1 x2 x3 x4 x5 cq0
         obtain ⟨d0,d1,d2,d3⟩:=box3 R10.out.k.d
         go_wp2_with fail
         refine (rout_any d _ _ d.n cp m cq (.int .i64 d.lp) q0 _ rfl (by omega) (by omega) (own_intsR R10.out.k.s)).mono ?_
         rintro e w10 ⟨rfl,hb10⟩
         have R11:=hide (R10.out.below hb10)
         clear hb10 R10 d0 d1 d2 d3
         obtain ⟨x0,x1,x2,x3,x4,x5⟩:=box5 R11.out.b
         obtain ⟨oq,hoq⟩:∃ o,o = Pl.out d q0 := ⟨_,rfl⟩
         rw [← hoq]
         have HOQ:=hide (show lpv d q0 = if oq = true then -2 else -1 by unfold lpv; rw [hoq])
         clear hoq
         cases oq with
         | true =>
           have E3:=hide (show Y = -2 by rw [EY2.out,HOQ.out]; rfl)
           go_wp2_with fail
           go_meet
           rw [E3.out,ES.out]
           exact R11.out
         | false =>
           have E3:=hide (show Y = -1 by rw [EY2.out,HOQ.out]; rfl)
           go_wp2_with fail
           go_meet
           rw [E3.out,ES.out]
           exact R11.out.setB 2 (.int .i64 (-1))
        ·have t3:((b0:Int) == (p2:Int)) = false:=by rw [beq_eq_false_iff_ne]; omega
         have EY2:=hide (show Y = b0 by rw [EY.out,if_neg h3])
         clear h3
         go_wp2_with fail
         go_meet
         rw [EY2.out,ES.out]
         exact R9.out
    case rest =>
     have R12:=hide hcut
     clear hcut R8 F1 F2 HX HY
     obtain ⟨d0,d1,d2,d3⟩:=box3 R12.out.k.d
     go_wp2_with fail
     refine (rclosed_any base gB m cq p3 q3 d.n cp (some ⟨gA,0,none⟩) (.int .i64 (d.lp:Int)) d.mt _ R12.out.k.o (by have := HM.out; omega) (by have := HM.out; omega) (by omega) HLT0.out).mono ?_
     rintro e w13 ⟨rfl,ownw13,grw13⟩
     have R13:=hide (show RB base w (.slice (some ⟨gA,0,none⟩) d.n cp) (.slice (some ⟨gB,0,none⟩) m cq) d.n m (d.lp:Int) [.int .i64 k,.int .i64 (x:Int),.int .i64 (y:Int),.int .i64 0,.bool false] d.sg L1 g5 [.int .i64 3,.int .i64 X,.int .i64 Y,.int .i64 S,.bool ov] w13 by
      rw [HL1.out]
      exact R12.out.kept grw13 ownw13)
     clear ownw13 grw13 R12 d0 d1 d2 d3
     obtain ⟨d0,d1,d2,d3⟩:=box3 R13.out.k.d
     obtain ⟨fc,hfc⟩:∃ f,f = decide (d.mt.getD p3 0 ≠ q3) := ⟨_,rfl⟩
     rw [← hfc]
     have FC:=hide hfc
     clear hfc
     go_upto_if 157 with fail
     go_cut [] from 158 to 161 (fun wx => RB base w (.slice (some ⟨gA,0,none⟩) d.n cp) (.slice (some ⟨gB,0,none⟩) m cq) d.n m ((d.lp:Int) + (n1:Int)) [.int .i64 k,.int .i64 (x:Int),.int .i64 (y:Int),.int .i64 0,.bool false] d.sg L1 g5 [.int .i64 3,.int .i64 X,.int .i64 Y,.int .i64 S,.bool ov] wx)
     case first =>
      by_cases hc:d.mt.getD p3 0 = q3
      ·have ec:fc = false:=by rw [FC.out]; simpa using hc
       subst ec
       have EN:=hide (show n1 = 1 by rw [HN1.out]; unfold clk; rw [if_pos hc])
       clear hc
       go_wp2_with fail
       go_meet
       rw [EN.out]
       exact R13.out.setL _
      ·have ec:fc = true:=by rw [FC.out]; simpa using hc
       subst ec
       have EN:=hide (show n1 = 0 by rw [HN1.out]; unfold clk; rw [if_neg hc])
       clear hc
       go_wp2_with fail
       go_meet
       rw [EN.out]
       simpa using R13.out
     case rest =>
      have R14:=hide hcut
      clear hcut R13 FC d0 d1 d2 d3
      obtain ⟨d0,d1,d2,d3⟩:=box3 R14.out.k.d
      go_wp2_with fail
      refine (rclosed_any base gB m cq q0 p2 d.n cp (some ⟨gA,0,none⟩) (.int .i64 ((d.lp:Int) + (n1:Int))) L1 _ R14.out.k.o (by have := HM.out; omega) (by have := HM.out; omega) (by omega) HLT1.out).mono ?_
      rintro e w15 ⟨rfl,ownw15,grw15⟩
      have R15:=hide (show RB base w (.slice (some ⟨gA,0,none⟩) d.n cp) (.slice (some ⟨gB,0,none⟩) m cq) d.n m ((d.lp:Int) + (n1:Int)) [.int .i64 k,.int .i64 (x:Int),.int .i64 (y:Int),.int .i64 0,.bool false] d.sg L2 g5 [.int .i64 3,.int .i64 X,.int .i64 Y,.int .i64 S,.bool ov] w15 by
       rw [HL2.out]
       exact R14.out.kept grw15 ownw15)
      clear ownw15 grw15 R14 d0 d1 d2 d3
      obtain ⟨d0,d1,d2,d3⟩:=box3 R15.out.k.d
      obtain ⟨fc,hfc⟩:∃ f,f = decide (L1.getD q0 0 ≠ p2) := ⟨_,rfl⟩
      rw [← hfc]
      have FC:=hide hfc
      clear hfc
      go_upto_if 166 with fail
      go_cut [] from 167 to 170 (fun wx => RB base w (.slice (some ⟨gA,0,none⟩) d.n cp) (.slice (some ⟨gB,0,none⟩) m cq) d.n m ((d.lp:Int) + (n1:Int) + (n2:Int)) [.int .i64 k,.int .i64 (x:Int),.int .i64 (y:Int),.int .i64 0,.bool false] d.sg L2 g5 [.int .i64 3,.int .i64 X,.int .i64 Y,.int .i64 S,.bool ov] wx)
      case first =>
       by_cases hc:L1.getD q0 0 = p2
       ·have ec:fc = false:=by rw [FC.out]; simpa using hc
        subst ec
        have EN:=hide (show n2 = 1 by rw [HN2.out]; unfold clk; rw [if_pos hc])
        clear hc
        go_wp2_with fail
        go_meet
        rw [EN.out]
        exact R15.out.setL _
       ·have ec:fc = true:=by rw [FC.out]; simpa using hc
        subst ec
        have EN:=hide (show n2 = 0 by rw [HN2.out]; unfold clk; rw [if_neg hc])
        clear hc
        go_wp2_with fail
        go_meet
        rw [EN.out]
        simpa using R15.out
      case rest =>
       have R16:=hide hcut
       clear hcut R15 FC d0 d1 d2 d3
       obtain ⟨d0,d1,d2,d3⟩:=box3 R16.out.k.d
       obtain ⟨m0,m1,m2,m3,m4,m5⟩:=box5 R16.out.k.m
       obtain ⟨_,r3,l3⟩:=R16.out.k.rd
       obtain ⟨_,r4,l4⟩:=R16.out.k.rm
       obtain ⟨p0,p1,p2',p3'⟩:=cells3 r3 l3
       obtain ⟨q0',q1,q2',q3',q4,q5⟩:=cells5 r4 l4
       clear r3 l3 r4 l4
       obtain ⟨lq,hlq⟩:∃ l:Nat,l = d.lp + n1 + n2 := ⟨_,rfl⟩
       have elq:(d.lp:Int) + (n1:Int) + (n2:Int) = (lq:Int):=by omega
       rw [elq] at R16 d2
       rw [← hlq] at EC' ED'
       have HLQ:=hide hlq
       clear elq hlq
       by_cases hf:64 < lq
       ·have tf:decide ((64:Int) < (lq:Int)) = true:=by simp; omega
        have E:=hide (show unpC d x y = 5 by rw [EC'.out,if_pos hf])
        clear hf
        go_wp2_with fail
        go_region
        go_wp2_with fail
        refine bodyPost_ret (v := .tuple #[.agg #[.slice (some ⟨gA,0,none⟩) d.n cp,.slice (some ⟨gB,0,none⟩) m cq,.int .i64 (lq:Int)],.agg #[.int .i64 k,.int .i64 (x:Int),.int .i64 (y:Int),.int .i64 0,.bool false],.int .i64 5]) ?_ rfl ?_
        ·obtain ⟨e0,e1,e2,e3,e4,e5,e6,e7⟩:=RK.cells R16.out.k (.slice (some ⟨gA,0,none⟩) d.n cp) (.slice (some ⟨gB,0,none⟩) m cq) (.int .i64 (lq:Int)) (.int .i64 k) (.int .i64 (x:Int)) (.int .i64 (y:Int)) (.int .i64 0) (.bool false)
         unfold st8 at e0 e1 e2 e3 e4 e5 e6 e7
         simp [results,Try.results73,go_sem,e0,e1,e2,e3,e4,e5,e6,e7]
        ·rw [E.out]
         refine rc_err (by decide) ⟨some ⟨gA,0,none⟩,some ⟨gB,0,none⟩,d.n,m,cp,cq,(lq:Int),k,(x:Int),(y:Int),0,false,rfl⟩ ?_
         have:=(RK.fin R16.out.k (.slice (some ⟨gA,0,none⟩) d.n cp) (.slice (some ⟨gB,0,none⟩) m cq) (.int .i64 (lq:Int)) (.int .i64 k) (.int .i64 (x:Int)) (.int .i64 (y:Int)) (.int .i64 0) (.bool false)).drew.bel
         unfold st8 at this
         exact this
       ·have tf:decide ((64:Int) < (lq:Int)) = false:=by simp; omega
        have E:=hide (show unpC d x y = 0 by rw [EC'.out,if_neg hf])
        clear hf
        obtain ⟨x0,x1,x2,x3,x4,x5⟩:=box5 R16.out.b
        obtain ⟨X2,hX2⟩:∃ z,z = sh1 X y := ⟨_,rfl⟩
        obtain ⟨Y2,hY2⟩:∃ z,z = sh1 Y y := ⟨_,rfl⟩
        obtain ⟨X3,hX3⟩:∃ z,z = sh1 X2 x := ⟨_,rfl⟩
        obtain ⟨Y3,hY3⟩:∃ z,z = sh1 Y2 x := ⟨_,rfl⟩
        have hX2b:-10 ≤ X2 ∧ X2 ≤ 1000:=by rw [hX2]; unfold sh1; split <;> omega
        have hY2b:-10 ≤ Y2 ∧ Y2 ≤ 1000:=by rw [hY2]; unfold sh1; split <;> omega
        have EI3:=hide (show unpI d x y = ⟨3,X3,Y3,S,ov⟩ by rw [EI'.out,hX3,hY3,hX2,hY2])
        have hX2':=hide hX2
        have hY2':=hide hY2
        have hX3':=hide hX3
        have hY3':=hide hY3
        have CS1:=hide (show ∀ W,Calls Try.prog 118 #[.int .i64 X,.int .i64 (y:Int)] W fun e w' => e = .returned (.int .i64 X2) ∧ w' = W from fun W => by rw [hX2]; exact rshift_any X y W (by omega))
        have CS2:=hide (show ∀ W,Calls Try.prog 118 #[.int .i64 X2,.int .i64 (x:Int)] W fun e w' => e = .returned (.int .i64 X3) ∧ w' = W from fun W => by rw [hX3]; exact rshift_any X2 x W (by omega))
        have CS3:=hide (show ∀ W,Calls Try.prog 118 #[.int .i64 Y,.int .i64 (y:Int)] W fun e w' => e = .returned (.int .i64 Y2) ∧ w' = W from fun W => by rw [hY2]; exact rshift_any Y y W (by omega))
        have CS4:=hide (show ∀ W,Calls Try.prog 118 #[.int .i64 Y2,.int .i64 (x:Int)] W fun e w' => e = .returned (.int .i64 Y3) ∧ w' = W from fun W => by rw [hY3]; exact rshift_any Y2 x W (by omega))
        clear hX2 hY2 hX3 hY3 hX2' hY2' hX3' hY3'
        go_upto_region 33 with fail
        go_cut [] from 176 to 193 (fun wx => RB base w (.slice (some ⟨gA,0,none⟩) d.n cp) (.slice (some ⟨gB,0,none⟩) m cq) d.n m (lq:Int) [.int .i64 k,.int .i64 (x:Int),.int .i64 (y:Int),.int .i64 0,.bool false] d.sg L2 g5 [.int .i64 3,.int .i64 X3,.int .i64 Y3,.int .i64 S,.bool ov] wx)
        case first =>
         have RX:=hide (show RBx base w (.slice (some ⟨gA,0,none⟩) d.n cp) (.slice (some ⟨gB,0,none⟩) m cq) d.n m (lq:Int) (.int .i64 k) (.int .i64 (x:Int)) (.int .i64 (y:Int)) (.int .i64 0) (.bool false) d.sg L2 g5 (.int .i64 3) (.int .i64 S) (.bool ov) wc from ⟨_,_,R16.out⟩)
         have cX:cv wc.drew ⟨g5,1,none⟩ = .int .i64 X:=by unfold cv; rw [show wc.drew.cell? ⟨g5,1,none⟩ = some (.int .i64 X) from x1]; rfl
         have cY:cv wc.drew ⟨g5,2,none⟩ = .int .i64 Y:=by unfold cv; rw [show wc.drew.cell? ⟨g5,2,none⟩ = some (.int .i64 Y) from x2]; rfl
         have cX':cv wc ⟨g5,1,none⟩ = .int .i64 X:=cX
         have cY':cv wc ⟨g5,2,none⟩ = .int .i64 Y:=cY
         clear d0 d1 d2 d3 m0 m1 m2 m3 m4 m5 p0 p1 p2' p3' q0' q1 q2' q3' q4 q5
         obtain ⟨s3,s4,s6,s7,fr,_⟩:=RX.out.all
         clear s6 s7 cX cY cX' cY' x0 x3 x4 x5
         refine wp_region_still_tail 17 (by kernel_rfl) (by kernel_rfl) ?_
         simp only [List.take_succ_cons,List.take_zero,List.drop_succ_cons,List.drop_zero]
         iterate 4 still_step
         still_call (CS1.out _)
         iterate 2 still_step
         still_call (CS2.out _)
         iterate 4 still_step
         still_call (CS3.out _)
         iterate 2 still_step
         still_call (CS4.out _)
         still_step
         refine wpStill_nil ?_
         change wpList _ _ _ _ _ (World.drew wc)
         go_wp2_with fail
         go_meet
         exact (R16.out.drew.setB 1 (.int .i64 X3)).setB 2 (.int .i64 Y3)
        case rest =>
        have R18:=hide hcut
        obtain ⟨w18,hw18⟩:∃ W:World,W = wc := ⟨_,rfl⟩
        rw [← hw18] at R18 ⊢
        clear hw18 hcut R16 CS1 CS2 CS3 CS4 x0 x1 x2 x3 x4 x5
        clear d0 d1 d2 d3 m0 m1 m2 m3 m4 m5 p0 p1 p2' p3' q0' q1 q2' q3' q4 q5
        go_upto_region 34 with fail
        obtain ⟨N1,hN1⟩:∃ n,n = (Pl.left d.sg.length [y]).length := ⟨_,rfl⟩
        obtain ⟨N2,hN2⟩:∃ n,n = (Pl.left (Pl.shrS [y] d.sg).length [x]).length := ⟨_,rfl⟩
        have hsl:d.sg.length = d.n:=rfl
        have hN1v:N1 = d.n - 1:=by rw [hN1]; exact left_len1 (by rw [hsl]; exact hy)
        have hSS:(Pl.shrS [y] d.sg).length = N1:=by rw [shrS_len,hN1]
        have ED3:=hide (show unpD d x y = ⟨Pl.shrS [x] (Pl.shrS [y] d.sg),Pl.shrM [x] (Pl.shrS [y] d.sg).length (Pl.shrM [y] d.sg.length L2),lq⟩ by rw [ED'.out,hSS,hN1v]; rfl)
        have CD1:=hide (show ∀ W,IntsAt W (some ⟨gA,0,none⟩) d.n d.sg → IntsAt W (some ⟨gB,0,none⟩) m (nats L2) → Calls Try.prog 119 #[.agg #[.slice (some ⟨gA,0,none⟩) d.n cp,.slice (some ⟨gB,0,none⟩) m cq,.int .i64 (lq:Int)],.int .i64 (y:Int)] W fun e w' => ∃ (A2 B2:Option Addr) (c2 d2:Nat),e = .returned (.agg #[.slice A2 N1 c2,.slice B2 (4 * N1) d2,.int .i64 (lq:Int)]) ∧ IntsAt w' A2 N1 (Pl.shrS [y] d.sg) ∧ IntsAt w' B2 (4 * N1) (nats (Pl.shrM [y] d.sg.length L2)) ∧ Below W.heap.size W w' from fun W h1 h2 => by
         refine (rdrop_any d.sg L2 (lq:Int) _ _ d.n m cp cq y W h1 h2 HM.out (by omega) HSM.out).mono ?_
         rintro e w' ⟨A2,B2,c2,d2,he,oS,oM,hb⟩
         rw [← hN1] at he oS oM
         exact ⟨A2,B2,c2,d2,he,own_intsR oS,ownN_ints oM,hb⟩)
        have CD2:=hide (show ∀ W A2 B2 c2 d2,IntsAt W A2 N1 (Pl.shrS [y] d.sg) → IntsAt W B2 (4 * N1) (nats (Pl.shrM [y] d.sg.length L2)) → Calls Try.prog 119 #[.agg #[.slice A2 N1 c2,.slice B2 (4 * N1) d2,.int .i64 (lq:Int)],.int .i64 (x:Int)] W fun e w' => ∃ (A3 B3:Option Addr) (c3 d3:Nat),e = .returned (.agg #[.slice A3 N2 c3,.slice B3 (4 * N2) d3,.int .i64 (lq:Int)]) ∧ w'.ownsRow W.heap.size 3 1 (.slice A3 N2 c3) N2 ((Pl.shrS [x] (Pl.shrS [y] d.sg)).map (.int .i64)) ∧ w'.ownsRow W.heap.size 3 1 (.slice B3 (4 * N2) d3) (4 * N2) ((Pl.shrM [x] (Pl.shrS [y] d.sg).length (Pl.shrM [y] d.sg.length L2)).map (fun k:Nat => Value.int .i64 k)) ∧ Below W.heap.size W w' from fun W A2 B2 c2 d2 h1 h2 => by
         refine (rdrop_any (Pl.shrS [y] d.sg) (Pl.shrM [y] d.sg.length L2) (lq:Int) _ _ N1 (4 * N1) c2 d2 x W h1 h2 rfl (by omega) (shrM_small HSM.out)).mono ?_
         rintro e w' ⟨A3,B3,c3,d3,he,oS,oM,hb⟩
         rw [← hN2] at he oS oM
         exact ⟨A3,B3,c3,d3,he,oS,oM,hb⟩)
        have HN2':=hide hN2
        clear hN1 hN2 hN1v hSS hsl
        obtain ⟨s0,s1,s2,s3,s4,s5,s6,s7,s8,s9,u0,u1,u2,u3,u4,u5,u6,u7,fr1,fr2,_⟩:=R18.out.all rfl
        go_region_held3 (fun w' => w'.cell? ⟨w.heap.size,0,none⟩ = some (.slice (some ⟨gA,0,none⟩) d.n cp) ∧ w'.cell? ⟨w.heap.size,1,none⟩ = some (.slice (some ⟨gB,0,none⟩) m cq) ∧ w'.cell? ⟨w.heap.size,2,none⟩ = some (.int .i64 (lq:Int)) ∧ w'.cell? ⟨w.heap.size + 1,1,none⟩ = some (.int .i64 (x:Int)) ∧ w'.cell? ⟨w.heap.size + 1,2,none⟩ = some (.int .i64 (y:Int)) ∧
         w'.cell? ⟨g5,0,none⟩ = some (.int .i64 3) ∧ w'.cell? ⟨g5,1,none⟩ = some (.int .i64 X3) ∧ w'.cell? ⟨g5,2,none⟩ = some (.int .i64 Y3) ∧ w'.cell? ⟨g5,3,none⟩ = some (.int .i64 S) ∧ w'.cell? ⟨g5,4,none⟩ = some (.bool ov) ∧
         w'.cell? ⟨w.heap.size + 1 + 1,0,none⟩ = some (cv w' ⟨w.heap.size + 1 + 1,0,none⟩) ∧ w'.cell? ⟨w.heap.size + 1 + 1,1,none⟩ = some (cv w' ⟨w.heap.size + 1 + 1,1,none⟩) ∧ w'.cell? ⟨w.heap.size + 1 + 1,2,none⟩ = some (cv w' ⟨w.heap.size + 1 + 1,2,none⟩) ∧
         w'.cell? ⟨w.heap.size + 1 + 1 + 1,0,none⟩ = some (cv w' ⟨w.heap.size + 1 + 1 + 1,0,none⟩) ∧ w'.cell? ⟨w.heap.size + 1 + 1 + 1,1,none⟩ = some (cv w' ⟨w.heap.size + 1 + 1 + 1,1,none⟩) ∧ w'.cell? ⟨w.heap.size + 1 + 1 + 1,2,none⟩ = some (cv w' ⟨w.heap.size + 1 + 1 + 1,2,none⟩) ∧ w'.cell? ⟨w.heap.size + 1 + 1 + 1,3,none⟩ = some (cv w' ⟨w.heap.size + 1 + 1 + 1,3,none⟩) ∧ w'.cell? ⟨w.heap.size + 1 + 1 + 1,4,none⟩ = some (cv w' ⟨w.heap.size + 1 + 1 + 1,4,none⟩) ∧
         (∀ o,w'.frozen? ⟨w.heap.size + 1 + 1,o,none⟩ = false) ∧ (∀ o,w'.frozen? ⟨w.heap.size + 1 + 1 + 1,o,none⟩ = false) ∧ RB base w (.slice (some ⟨gA,0,none⟩) d.n cp) (.slice (some ⟨gB,0,none⟩) m cq) d.n m (lq:Int) [.int .i64 k,.int .i64 (x:Int),.int .i64 (y:Int),.int .i64 0,.bool false] d.sg L2 g5 [.int .i64 3,.int .i64 X3,.int .i64 Y3,.int .i64 S,.bool ov] w')
         ((go_split_ands; refine RB.all ?_ rfl; (repeat (first | (with_reducible assumption) | (with_reducible exact R18.out) | (with_reducible refine RB.setD ?_ _ _) | (with_reducible refine RB.setM ?_ _ _) | (with_reducible refine RB.drew ?_) | (with_reducible refine RB.below ?_ hb7) | (with_reducible refine RB.below ?_ hb6)))))
         (first
           | (have hx6 := hb6
              clear hx6
              go_at_call 119
              refine Calls.mono (CD2.out _ _ _ _ _ ?_ ?_) ?_
              ·exact hs6
              ·exact hm6
              rintro e w20 ⟨A3,B3,c3,d3',rfl,oS,oM,hb7⟩)
           | (go_at_call 119
              refine Calls.mono (CD1.out _ ?_ ?_) ?_
              ·exact own_intsR R18.out.drew.k.s
              ·exact ownN_ints R18.out.drew.k.o
              rintro e w19 ⟨A2,B2,c2,d2',rfl,hs6,hm6,hb6⟩))
        have R19:=hide ((R18.out.drew.below hb6).below hb7)
        have OS:=hide oS
        have OM:=hide oM
        clear s0 s1 s2 s3 s4 s5 s6 s7 s8 s9 u0 u1 u2 u3 u4 u5 u6 u7 fr1 fr2 hs6 hm6 hb6 hb7 oS oM CD1 CD2 R18
        go_wp2_with fail
        refine bodyPost_ret (v := .tuple #[.agg #[.slice A3 N2 c3,.slice B3 (4 * N2) d3',.int .i64 (lq:Int)],.agg #[.int .i64 3,.int .i64 X3,.int .i64 Y3,.int .i64 S,.bool ov],.int .i64 0]) ?_ rfl ?_
        ·obtain ⟨e0,e1,e2,e3,e4,e5,e6,e7⟩:=RK.cells R19.out.k (.slice A3 N2 c3) (.slice B3 (4 * N2) d3') (.int .i64 (lq:Int)) (.int .i64 3) (.int .i64 X3) (.int .i64 Y3) (.int .i64 S) (.bool ov)
         unfold st8 at e0 e1 e2 e3 e4 e5 e6 e7
         simp [results,Try.results73,go_sem,e0,e1,e2,e3,e4,e5,e6,e7]
        ·have K11:=RK.fin R19.out.k (.slice A3 N2 c3) (.slice B3 (4 * N2) d3') (.int .i64 (lq:Int)) (.int .i64 3) (.int .i64 X3) (.int .i64 Y3) (.int .i64 S) (.bool ov)
         have O1:=R19.out.k.own8 OS.out (.slice A3 N2 c3) (.slice B3 (4 * N2) d3') (.int .i64 (lq:Int)) (.int .i64 3) (.int .i64 X3) (.int .i64 Y3) (.int .i64 S) (.bool ov)
         have O2:=R19.out.k.own8 OM.out (.slice A3 N2 c3) (.slice B3 (4 * N2) d3') (.int .i64 (lq:Int)) (.int .i64 3) (.int .i64 X3) (.int .i64 Y3) (.int .i64 S) (.bool ov)
         unfold st8 at K11 O1 O2
         exact unp_done E.out HN2'.out ED3.out EI3.out K11.bel O1 O2
end Go.Proofs.Ytghdiolnonejaaa
end
section
namespace Go.Proofs.Ytghdiolnonejaaa
open Go Go.RowKit
theorem runpoke_any (d:Pl.Dg) (hd:Pl.Valid d) (base cp cq m:Nat) (A B:Option Addr) (x y s:Int) (o:Bool) (w:World) (hm:m = 4 * d.n) (h:Own2 base w (.slice A d.n cp) (.slice B m cq) d.n m d.sg d.mt) :
 Calls Try.prog 73 #[.agg #[.slice A d.n cp,.slice B m cq,.int .i64 d.lp],.agg #[.int .i64 4,.int .i64 x,.int .i64 y,.int .i64 s,.bool o]] w (RC base (apC d ⟨4,x,y,s,o⟩) (apD d ⟨4,x,y,s,o⟩) (apI d ⟨4,x,y,s,o⟩) w) := by
 by_cases hin:inR d.n ⟨4,x,y,s,o⟩
 ·have hi : 0 ≤ x ∧ x < y ∧ y < d.n ∧ s = 0 ∧ o = false := by
   have:=hin
   unfold inR at this
   simpa using this
  obtain ⟨h0,h1,h2,rfl,rfl⟩:=hi
  obtain ⟨a,rfl⟩:=Int.eq_ofNat_of_zero_le h0
  obtain ⟨b,rfl⟩:=Int.eq_ofNat_of_zero_le (show 0 ≤ y by omega)
  have e:apC d ⟨4,(a:Int),(b:Int),0,false⟩ = unpC d a b:=by
   unfold apC
   rw [if_neg (by simp),if_neg (by rw [Pl.vb_true hin]; decide),if_neg (by simp),if_neg (by simp),if_neg (by simp),if_pos rfl]
   rfl
  rw [e]
  exact runpoke_in d hd.wf base cp cq m A B 4 a b w hm h (by omega) (by omega)
 ·have e : apC d ⟨4, x, y, s, o⟩ = 2 := by
   unfold apC
   rw [if_neg (by simp),if_pos (Pl.vb_false hin)]
  rw [e]
  exact runpoke_range base d.n m cp cq A B d.lp 4 x y s o d.sg d.mt _ _ w h (by have := hd.wf.few; omega) hin
end Go.Proofs.Ytghdiolnonejaaa
end
