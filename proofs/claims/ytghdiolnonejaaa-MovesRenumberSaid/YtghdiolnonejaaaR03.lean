/-
 The texts Xe, Wn, Wv.
-/
import Derived.Test.YtghdiolnonejaaaR02
set_option linter.unusedVariables false
set_option linter.unusedSimpArgs false
section
namespace Go.Proofs.Ytghdiolnonejaaa
open Go Go.RowKit
attribute [local go_sem ↓] Go.wp_at_zero Go.wp_at_succ
def eo (d:Pl.Dg) (o:Nat):Nat := if Pl.out d o = true then o else d.m o
def ei (d:Pl.Dg) (o:Nat):Nat := d.m (eo d o)
def pz (d:Pl.Dg) (o:Nat):List Value := [.int .i64 (Pl.tn (eo d o) 2:Nat),.int .i64 (eo d o:Nat),.int .i64 (ei d o:Nat),.int .i64 (Pl.tn (ei d o) 2:Nat)]
def zz:List Value := [.int .i64 0,.int .i64 0,.int .i64 0,.int .i64 0]
def isO (d:Pl.Dg) (o:Nat):Bool := eo d o % 2 == 1 && ei d o % 2 == 1
def isU (d:Pl.Dg) (o:Nat):Bool := eo d o % 2 == 0 && ei d o % 2 == 0
def th (d:Pl.Dg) (h k:Nat):Nat := if k = 0 then h else if k = 1 then Pl.nx d h else Pl.nx d (Pl.nx d h)
def is3 (d:Pl.Dg) (h:Nat):Prop := Pl.nx d (th d h 2) = h ∧ h / 4 ≠ th d h 1 / 4 ∧ th d h 1 / 4 ≠ th d h 2 / 4 ∧ h / 4 ≠ th d h 2 / 4
def cntO (d:Pl.Dg) (h k:Nat):Nat := ((List.range k).filter (fun i => isO d (th d h i))).length
def cntU (d:Pl.Dg) (h k:Nat):Nat := ((List.range k).filter (fun i => isU d (th d h i))).length
theorem cntO_s (d:Pl.Dg) (h k:Nat):cntO d h (k + 1) = cntO d h k + if isO d (th d h k) then 1 else 0 := by
 unfold cntO; rw [List.range_succ,List.filter_append,List.length_append]; congr 1; cases hh:isO d (th d h k) <;> simp [hh]
theorem cntU_s (d:Pl.Dg) (h k:Nat):cntU d h (k + 1) = cntU d h k + if isU d (th d h k) then 1 else 0 := by
 unfold cntU; rw [List.range_succ,List.filter_append,List.length_append]; congr 1; cases hh:isU d (th d h k) <;> simp [hh]
def isT (d:Pl.Dg) (h:Nat):Prop := is3 d h ∧ cntO d h 3 = 1 ∧ cntU d h 3 = 1
def edg (d:Pl.Dg) (h k:Nat):List Value := (if 0 < k then pz d (th d h 0) else zz) ++ (if 1 < k then pz d (th d h 1) else zz) ++ (if 2 < k then pz d (th d h 2) else zz)
theorem th_lt {d:Pl.Dg} (hd:Pl.Wf d) {h:Nat} (hh:h < 4 * d.n) (k:Nat):th d h k < 4 * d.n := by
 have a:∀ z,z < 4 * d.n → Pl.nx d z < 4 * d.n:=fun z hz => Pl.tn_lt (hd.lt z hz)
 unfold th
 split
 ·exact hh
 ·split
  ·exact a _ hh
  ·exact a _ (a _ hh)
theorem eo_lt {d:Pl.Dg} (hd:Pl.Wf d) {o:Nat} (hh:o < 4 * d.n):eo d o < 4 * d.n := by
 unfold eo; split
 ·exact hh
 ·exact hd.lt o hh
def TriPost (d:Pl.Dg) (h:Nat) (w:World) (e:Ending) (w':World):Prop :=
 (is3 d h → e = .returned (.tuple #[.agg (edg d h 3).toArray,.bool (Pl.vb (isT d h))])) ∧ (¬ is3 d h → e = .returned (.tuple #[.agg (edg d h 0).toArray,.bool false])) ∧ Below w.heap.size w w'
theorem box12 {W:World} {g:Nat} {t:TypeId} {a0 a1 a2 a3 a4 a5 a6 a7 a8 a9 a10 a11:Value} (h:Row W g t [a0,a1,a2,a3,a4,a5,a6,a7,a8,a9,a10,a11]) :
 W.cell? ⟨g,0,none⟩ = some a0 ∧ W.cell? ⟨g,1,none⟩ = some a1 ∧ W.cell? ⟨g,2,none⟩ = some a2 ∧ W.cell? ⟨g,3,none⟩ = some a3 ∧ W.cell? ⟨g,4,none⟩ = some a4 ∧ W.cell? ⟨g,5,none⟩ = some a5 ∧ W.cell? ⟨g,6,none⟩ = some a6 ∧ W.cell? ⟨g,7,none⟩ = some a7 ∧ W.cell? ⟨g,8,none⟩ = some a8 ∧ W.cell? ⟨g,9,none⟩ = some a9 ∧ W.cell? ⟨g,10,none⟩ = some a10 ∧ W.cell? ⟨g,11,none⟩ = some a11 ∧ ∀ o,W.frozen? ⟨g,o,none⟩ = false :=
 ⟨h.cell (i := 0) (by simp),h.cell (i := 1) (by simp),h.cell (i := 2) (by simp),h.cell (i := 3) (by simp),h.cell (i := 4) (by simp),h.cell (i := 5) (by simp),h.cell (i := 6) (by simp),h.cell (i := 7) (by simp),h.cell (i := 8) (by simp),h.cell (i := 9) (by simp),h.cell (i := 10) (by simp),h.cell (i := 11) (by simp),h.free⟩
theorem row12 {W:World} {g:Nat} {t:TypeId} {vs:List Value} (h:Row W g t vs) (l:vs.length = 12) (y0 y1 y2 y3 y4 y5 y6 y7 y8 y9 y10 y11:Value) :
 Row ((((((((((((W.setCell ⟨g,0,none⟩ y0).setCell ⟨g,1,none⟩ y1).setCell ⟨g,2,none⟩ y2).setCell ⟨g,3,none⟩ y3).setCell ⟨g,4,none⟩ y4).setCell ⟨g,5,none⟩ y5).setCell ⟨g,6,none⟩ y6).setCell ⟨g,7,none⟩ y7).setCell ⟨g,8,none⟩ y8).setCell ⟨g,9,none⟩ y9).setCell ⟨g,10,none⟩ y10).setCell ⟨g,11,none⟩ y11) g t [y0,y1,y2,y3,y4,y5,y6,y7,y8,y9,y10,y11] := by
 obtain ⟨a0,a1,a2,a3,a4,a5,a6,a7,a8,a9,a10,a11,rfl⟩:∃ a0 a1 a2 a3 a4 a5 a6 a7 a8 a9 a10 a11,vs = [a0,a1,a2,a3,a4,a5,a6,a7,a8,a9,a10,a11] := by
  match vs,l with
  | [a0,a1,a2,a3,a4,a5,a6,a7,a8,a9,a10,a11],_ => exact ⟨_,_,_,_,_,_,_,_,_,_,_,_,rfl⟩
 exact (((((((((((h.set 0 y0).set 1 y1).set 2 y2).set 3 y3).set 4 y4).set 5 y5).set 6 y6).set 7 y7).set 8 y8).set 9 y9).set 10 y10).set 11 y11
theorem below_set12 {w W:World} {g:Nat} (h:Below w.heap.size w W) (hg:w.heap.size ≤ g) (y0 y1 y2 y3 y4 y5 y6 y7 y8 y9 y10 y11:Value) :
 Below w.heap.size w ((((((((((((W.setCell ⟨g,0,none⟩ y0).setCell ⟨g,1,none⟩ y1).setCell ⟨g,2,none⟩ y2).setCell ⟨g,3,none⟩ y3).setCell ⟨g,4,none⟩ y4).setCell ⟨g,5,none⟩ y5).setCell ⟨g,6,none⟩ y6).setCell ⟨g,7,none⟩ y7).setCell ⟨g,8,none⟩ y8).setCell ⟨g,9,none⟩ y9).setCell ⟨g,10,none⟩ y10).setCell ⟨g,11,none⟩ y11) :=
 (((((((((((h.setCell hg _).setCell hg _).setCell hg _).setCell hg _).setCell hg _).setCell hg _).setCell hg _).setCell hg _).setCell hg _).setCell hg _).setCell hg _).setCell hg _
structure TB (w:World) (dv:List Value) (ev:List Value) (W:World):Prop where
 d:Row W w.heap.size 24 dv
 r:Row W (w.heap.size + 1) 107 (zz ++ zz ++ zz)
 e:Row W (w.heap.size + 1 + 1) 107 ev
 bel:Below w.heap.size w W
section
variable {w W W':World} {dv ev:List Value}
theorem TB.below (h:TB w dv ev W) (hb:Below W.heap.size W W'):TB w dv ev W' := ⟨h.d.below hb,h.r.below hb,h.e.below hb,h.bel.trans (hb.mono h.bel.size)⟩
theorem TB.set (h:TB w dv ev W) (o:Nat) (v:Value):TB w dv (ev.set o v) (W.setCell ⟨w.heap.size + 1 + 1,o,none⟩ v) :=
 ⟨h.d.other (by show _ ≠ w.heap.size + 1 + 1; omega) v,h.r.other (by show _ ≠ w.heap.size + 1 + 1; omega) v,h.e.set o v,h.bel.setCell (by show _ ≤ w.heap.size + 1 + 1; omega) v⟩
theorem TB.start (w:World) (x0 x1 x2:Value):TB w [x0,x1,x2] (zz ++ zz ++ zz) (((w.alloc (.cells #[x0,x1,x2] 24)).alloc (.cells #[.int .i64 0,.int .i64 0,.int .i64 0,.int .i64 0,.int .i64 0,.int .i64 0,.int .i64 0,.int .i64 0,.int .i64 0,.int .i64 0,.int .i64 0,.int .i64 0] 107)).alloc (.cells #[.int .i64 0,.int .i64 0,.int .i64 0,.int .i64 0,.int .i64 0,.int .i64 0,.int .i64 0,.int .i64 0,.int .i64 0,.int .i64 0,.int .i64 0,.int .i64 0] 107)) :=
 ⟨((row_at (vs := [_,_,_]) rfl).alloc _).alloc _,(row_at (vs := [_,_,_,_,_,_,_,_,_,_,_,_]) (by simp)).alloc _,row_at (vs := [_,_,_,_,_,_,_,_,_,_,_,_]) (by simp),(((Below.refl _ _).alloc (Nat.le_refl _) _).alloc (by simp) _).alloc (by simp; omega) _⟩
end
set_option maxRecDepth 100000 in
set_option maxHeartbeats 4000000 in
theorem triangle_any (d:Pl.Dg) (hd:Pl.Wf d) (A B:Option Addr) (cp cq m h:Nat) (w:World) (hm:m = 4 * d.n) (hg:DgAt w A B d) (hh:h < 4 * d.n) :
 Calls Try.prog 95 #[.agg #[.slice A d.n cp,.slice B m cq,.int .i64 d.lp],.int .i64 (h:Int)] w (TriPost d h w) := by
 have hn:=hd.few
 have HM:=hide hm
 have HG:=hide hg
 have hm2:m ≤ 256:=by omega
 clear hm hg
 have TB0:=hide (TB.start w (.slice A d.n cp) (.slice B m cq) (.int .i64 (d.lp:Int)))
 have h1:=th_lt hd hh 1
 have h2:=th_lt hd hh 2
 obtain ⟨i,hi⟩:∃ i,i = th d h 1 := ⟨_,rfl⟩
 obtain ⟨j,hj⟩:∃ j,j = th d h 2 := ⟨_,rfl⟩
 rw [← hi] at h1
 rw [← hj] at h2
 have HI:=hide (show Pl.nx d h = i by rw [hi]; rfl)
 have HJ:=hide (show Pl.nx d i = j by rw [hj,hi]; rfl)
 have IS:=hide (show is3 d h ↔ Pl.nx d j = h ∧ h / 4 ≠ i / 4 ∧ i / 4 ≠ j / 4 ∧ h / 4 ≠ j / 4 by unfold is3; rw [← hi,← hj])
 have HTI:=hide hi
 have HTJ:=hide hj
 clear hi hj
 have ih0:(0:Int) ≤ (h:Int) ∧ (h:Int) < (m:Int):=by have := HM.out; omega
 have ii0:(0:Int) ≤ (i:Int) ∧ (i:Int) < (m:Int):=by have := HM.out; omega
 have ij0:(0:Int) ≤ (j:Int) ∧ (j:Int) < (m:Int):=by have := HM.out; omega
 go_enter Try.func95,Try.ntmps95
 go_wp2_with fail
 have HGM:=hide (show ∀ W,Below w.heap.size w W → IntsAt W B m (nats d.mt) from fun W hb => by rw [HM.out]; exact (HG.out.keep hb).m)
 refine (next_i d hd B cq m (h:Int) _ HM.out ih0 (HGM.out _ TB0.out.bel)).mono ?_
 rintro e w1 ⟨rfl,rfl⟩
 rw [Int.toNat_natCast,HI.out]
 go_wp2_with fail
 refine (next_i d hd B cq m (i:Int) _ HM.out ii0 (HGM.out _ TB0.out.bel)).mono ?_
 rintro e w1 ⟨rfl,rfl⟩
 rw [Int.toNat_natCast,HJ.out]
 obtain ⟨v,hv⟩:∃ v,v = Pl.nx d j := ⟨_,rfl⟩
 rw [← hv] at IS
 have HV:=hide hv
 clear hv
 obtain ⟨W0,hW0⟩:∃ W0:World,W0 = ((w.alloc (.cells #[.slice A d.n cp,.slice B m cq,.int .i64 (d.lp:Int)] 24)).alloc (.cells #[.int .i64 0,.int .i64 0,.int .i64 0,.int .i64 0,.int .i64 0,.int .i64 0,.int .i64 0,.int .i64 0,.int .i64 0,.int .i64 0,.int .i64 0,.int .i64 0] 107)).alloc (.cells #[.int .i64 0,.int .i64 0,.int .i64 0,.int .i64 0,.int .i64 0,.int .i64 0,.int .i64 0,.int .i64 0,.int .i64 0,.int .i64 0,.int .i64 0,.int .i64 0] 107) := ⟨_,rfl⟩
 rw [← hW0] at TB0 ⊢
 clear hW0
 go_upto_region 4 with fail
 go_cut [48] (fun s48 wx => s48 = .bool (!Pl.vb (is3 d h)) ∧ wx = W0)
 case first =>
  obtain ⟨d0,d1,d2,d3⟩:=box3 TB0.out.d
  go_wp2_with fail
  refine (next_i d hd B cq m (j:Int) _ HM.out ij0 (HGM.out _ TB0.out.bel)).mono ?_
  rintro e w1 ⟨rfl,rfl⟩
  rw [Int.toNat_natCast,← HV.out]
  by_cases c1:v = h
  ·have t1:((v:Int) != (h:Int)) = false:=by rw [bne_eq_false_iff_eq]; omega
   by_cases c2:h / 4 = i / 4
   ·have t2:((h:Int) / 4 == (i:Int) / 4) = true:=by rw [beq_iff_eq]; omega
    have E:=hide (Pl.vb_false (fun h => (IS.out.1 h).2.1 c2))
    clear c1 c2
    go_wp2_with fail
    go_meet
    exact ⟨by rw [E.out]; rfl,rfl⟩
   ·have t2:((h:Int) / 4 == (i:Int) / 4) = false:=by rw [beq_eq_false_iff_ne]; omega
    by_cases c3:i / 4 = j / 4
    ·have t3:((i:Int) / 4 == (j:Int) / 4) = true:=by rw [beq_iff_eq]; omega
     have E:=hide (Pl.vb_false (fun h => (IS.out.1 h).2.2.1 c3))
     clear c1 c2 c3
     go_wp2_with fail
     go_meet
     exact ⟨by rw [E.out]; rfl,rfl⟩
    ·have t3:((i:Int) / 4 == (j:Int) / 4) = false:=by rw [beq_eq_false_iff_ne]; omega
     by_cases c4:h / 4 = j / 4
     ·have t4:((h:Int) / 4 == (j:Int) / 4) = true:=by rw [beq_iff_eq]; omega
      have E:=hide (Pl.vb_false (fun h => (IS.out.1 h).2.2.2 c4))
      clear c1 c2 c3 c4
      go_wp2_with fail
      go_meet
      exact ⟨by rw [E.out]; rfl,rfl⟩
     ·have t4:((h:Int) / 4 == (j:Int) / 4) = false:=by rw [beq_eq_false_iff_ne]; omega
      have E:=hide (Pl.vb_true (IS.out.2 ⟨c1,c2,c3,c4⟩))
      clear c1 c2 c3 c4
      go_wp2_with fail
      go_meet
      exact ⟨by rw [E.out]; rfl,rfl⟩
  ·have t1:((v:Int) != (h:Int)) = true:=by rw [bne_iff_ne]; omega
   have E:=hide (Pl.vb_false (fun h => c1 (IS.out.1 h).1))
   clear c1
   go_wp2_with fail
   go_meet
   exact ⟨by rw [E.out]; rfl,rfl⟩
 case rest =>
  obtain ⟨rfl,rfl⟩:=hcut
  by_cases h3:is3 d h
  ·have H3:=hide h3
   rw [Pl.vb_true h3]
   clear h3
   have HTH0:=hide (show h = th d h 0 from rfl)
   obtain ⟨d0,d1,d2,d3⟩:=box3 TB0.out.d
   go_wp2
   go_loopg [9,10,54] 3 (fun g s9 s10 s54 wx => ∃ k:Nat,k + g = 3 ∧ s54 = .int .i64 k ∧ s9 = .int .i64 (cntO d h k:Nat) ∧ s10 = .int .i64 (cntU d h k:Nat) ∧ TB w [.slice A d.n cp,.slice B m cq,.int .i64 (d.lp:Int)] (edg d h k) wx)
   case atStart => exact ⟨0,rfl,rfl,rfl,rfl,TB0.out⟩
   case round =>
    clear TB0 d0 d1 d2 d3
    obtain ⟨k,hkg,rfl,rfl,rfl,htb⟩:=hrel
    have HKG:=hide hkg
    have TBk:=hide htb
    clear htb
    have hk4:k = 0 ∨ k = 1 ∨ k = 2 ∨ k = 3:=by omega
    clear hkg
    have i0:∀ W,(Instr.index 134 (.agg #[.int .i64 (h:Int),.int .i64 (i:Int),.int .i64 (j:Int)]) (.int .i64 0)).run Try.prog W = .ok (.int .i64 (h:Int)) W:=fun _ => by kernel_rfl
    have i1:∀ W,(Instr.index 134 (.agg #[.int .i64 (h:Int),.int .i64 (i:Int),.int .i64 (j:Int)]) (.int .i64 1)).run Try.prog W = .ok (.int .i64 (i:Int)) W:=fun _ => by kernel_rfl
    have i2:∀ W,(Instr.index 134 (.agg #[.int .i64 (h:Int),.int .i64 (i:Int),.int .i64 (j:Int)]) (.int .i64 2)).run Try.prog W = .ok (.int .i64 (j:Int)) W:=fun _ => by kernel_rfl
    rcases hk4 with rfl | rfl | rfl | rfl
    ·-- round 0
     have hO:h < 4 * d.n:=by first | exact hh | exact h1 | exact h2
     have EO:=hide (eo_lt hd hO)
     obtain ⟨d0,d1,d2,d3⟩:=box3 TBk.out.d
     go_wp2_with fail
     refine (out2_n d A B d.n cp m cq (.int .i64 (d.lp:Int)) h _ rfl hO (by omega) (HG.out.keep TBk.out.bel).s).mono ?_
     rintro e w1 ⟨rfl,hb1⟩
     have TB1:=hide (TBk.out.below hb1)
     clear hb1 d0 d1 d2 d3
     go_upto_if 61 with fail
     go_cut [12] (fun s12 wx => s12 = .int .i64 (eo d h:Nat) ∧ TB w [.slice A d.n cp,.slice B m cq,.int .i64 (d.lp:Int)] (edg d h 0) wx)
     case first =>
      cases ho:Pl.out d h with
      | true =>
        have E:=hide (show eo d h = h by unfold eo; rw [if_pos ho])
        clear ho
        go_wp2_with fail
        go_meet
        exact ⟨by rw [E.out],TB1.out⟩
      | false =>
        have E:=hide (show eo d h = d.m h by unfold eo; rw [if_neg (by rw [ho]; decide)])
        clear ho
        obtain ⟨d0,d1,d2,d3⟩:=box3 TB1.out.d
        obtain ⟨mb,mo,rfl,cm⟩:=mate_at (HG.out.keep TB1.out.bel).m hO
        have io0:(0:Int) ≤ (h:Int):=by omega
        have io1:(h:Int) < (m:Int):=by have := HM.out; omega
        go_wp2_with fail
        go_meet
        exact ⟨by rw [E.out],TB1.out⟩
     case rest =>
      obtain ⟨rfl,htb⟩:=hcut
      have TB2:=hide htb
      clear htb TBk TB1
      have heo:=EO.out
      obtain ⟨e,he⟩:∃ e,e = eo d h := ⟨_,rfl⟩
      rw [← he] at heo ⊢
      have hei:=hd.lt e heo
      have HE:=hide he
      clear he
      obtain ⟨d0,d1,d2,d3⟩:=box3 TB2.out.d
      obtain ⟨mb,mo,rfl,cm⟩:=mate_at (HG.out.keep TB2.out.bel).m heo
      obtain ⟨u,hu⟩:∃ u,u = d.m e := ⟨_,rfl⟩
      rw [← hu] at cm hei
      have HU:=hide (show ei d h = u by unfold ei; rw [← HE.out,hu])
      clear hu
      have io0:(0:Int) ≤ (e:Int):=by omega
      have io1:(e:Int) < (m:Int):=by have := HM.out; omega
      go_wp2_with fail
      refine (opp_i (e:Int) _ (by omega)).mono ?_
      rintro en w1 ⟨rfl,rfl⟩
      go_wp2_with fail
      refine (opp_i (u:Int) _ (by omega)).mono ?_
      rintro en w1 ⟨rfl,rfl⟩
      try rw [Int.toNat_natCast]
      have EQ:=hide (show edg d h (0 + 1) = ((((edg d h 0).set (4 * 0) (.int .i64 (Pl.tn e 2:Nat))).set (4 * 0 + 1) (.int .i64 (e:Int))).set (4 * 0 + 2) (.int .i64 (u:Int))).set (4 * 0 + 3) (.int .i64 (Pl.tn u 2:Nat)) by
       have hz:pz d h = [.int .i64 (Pl.tn e 2:Nat),.int .i64 (e:Int),.int .i64 (u:Int),.int .i64 (Pl.tn u 2:Nat)]:=by unfold pz; rw [HU.out,← HE.out]
       simp only [edg,← HTH0.out,← HTI.out,← HTJ.out,hz]
       rfl)
      have CO:=hide (show cntO d h (0 + 1) = cntO d h 0 + if isO d h then 1 else 0 by rw [cntO_s]; simp only [← HTH0.out,← HTI.out,← HTJ.out])
      have CU:=hide (show cntU d h (0 + 1) = cntU d h 0 + if isU d h then 1 else 0 by rw [cntU_s]; simp only [← HTH0.out,← HTI.out,← HTJ.out])
      have IO:=hide (show isO d h = (e % 2 == 1 && u % 2 == 1) by unfold isO; rw [HU.out,← HE.out])
      have IU:=hide (show isU d h = (e % 2 == 0 && u % 2 == 0) by unfold isU; rw [HU.out,← HE.out])
      obtain ⟨kO,hkO⟩:∃ c,c = cntO d h 0 := ⟨_,rfl⟩
      obtain ⟨kU,hkU⟩:∃ c,c = cntU d h 0 := ⟨_,rfl⟩
      rw [← hkO] at CO ⊢
      rw [← hkU] at CU ⊢
      have bO:kO ≤ 3:=by rw [hkO]; unfold cntO; have := List.length_filter_le (fun i => isO d (th d h i)) (List.range 0); simp at this ⊢; try omega
      have bU:kU ≤ 3:=by rw [hkU]; unfold cntU; have := List.length_filter_le (fun i => isU d (th d h i)) (List.range 0); simp at this ⊢; try omega
      clear hkO hkU
      obtain ⟨e0,e1,e2,e3,e4,e5,e6,e7,e8,e9,e10,e11,ef⟩:=box12 TB2.out.e
      by_cases q0:e % 2 = 1 ∧ u % 2 = 1
      ·obtain ⟨qa,qb⟩:=q0
       have t1:((e:Int) % 2 == 1) = true:=by rw [beq_iff_eq]; omega
       have t2:((u:Int) % 2 == 1) = true:=by rw [beq_iff_eq]; omega
       have t3:((e:Int) % 2 == 0) = false:=by rw [beq_eq_false_iff_ne]; omega
       have t4:((u:Int) % 2 == 0) = false:=by rw [beq_eq_false_iff_ne]; omega
       have FO:=hide (show cntO d h (0 + 1) = kO + 1 by rw [CO.out,IO.out,qa,qb]; rfl)
       have FU:=hide (show cntU d h (0 + 1) = kU + 0 by rw [CU.out,IU.out,qa,qb]; rfl)
       clear qa qb
       go_wp2_with fail
       go_roundg (gk - 1)
       case measure => have := HKG.out; omega
       case rel =>
        refine ⟨0 + 1,by have := HKG.out; omega,by go_num,by rw [FO.out]; (try first | rfl | go_num),by rw [FU.out]; (try first | rfl | go_num),?_⟩
        rw [EQ.out]
        exact (((TB2.out.set _ _).set _ _).set _ _).set _ _
      by_cases q1:e % 2 = 1 ∧ u % 2 = 0
      ·obtain ⟨qa,qb⟩:=q1
       have t1:((e:Int) % 2 == 1) = true:=by rw [beq_iff_eq]; omega
       have t2:((u:Int) % 2 == 1) = false:=by rw [beq_eq_false_iff_ne]; omega
       have t3:((e:Int) % 2 == 0) = false:=by rw [beq_eq_false_iff_ne]; omega
       have t4:((u:Int) % 2 == 0) = true:=by rw [beq_iff_eq]; omega
       have FO:=hide (show cntO d h (0 + 1) = kO + 0 by rw [CO.out,IO.out,qa,qb]; rfl)
       have FU:=hide (show cntU d h (0 + 1) = kU + 0 by rw [CU.out,IU.out,qa,qb]; rfl)
       clear qa qb
       go_wp2_with fail
       go_roundg (gk - 1)
       case measure => have := HKG.out; omega
       case rel =>
        refine ⟨0 + 1,by have := HKG.out; omega,by go_num,by rw [FO.out]; (try first | rfl | go_num),by rw [FU.out]; (try first | rfl | go_num),?_⟩
        rw [EQ.out]
        exact (((TB2.out.set _ _).set _ _).set _ _).set _ _
      by_cases q2:e % 2 = 0 ∧ u % 2 = 1
      ·obtain ⟨qa,qb⟩:=q2
       have t1:((e:Int) % 2 == 1) = false:=by rw [beq_eq_false_iff_ne]; omega
       have t2:((u:Int) % 2 == 1) = true:=by rw [beq_iff_eq]; omega
       have t3:((e:Int) % 2 == 0) = true:=by rw [beq_iff_eq]; omega
       have t4:((u:Int) % 2 == 0) = false:=by rw [beq_eq_false_iff_ne]; omega
       have FO:=hide (show cntO d h (0 + 1) = kO + 0 by rw [CO.out,IO.out,qa,qb]; rfl)
       have FU:=hide (show cntU d h (0 + 1) = kU + 0 by rw [CU.out,IU.out,qa,qb]; rfl)
       clear qa qb
       go_wp2_with fail
       go_roundg (gk - 1)
       case measure => have := HKG.out; omega
       case rel =>
        refine ⟨0 + 1,by have := HKG.out; omega,by go_num,by rw [FO.out]; (try first | rfl | go_num),by rw [FU.out]; (try first | rfl | go_num),?_⟩
        rw [EQ.out]
        exact (((TB2.out.set _ _).set _ _).set _ _).set _ _
      by_cases q3:e % 2 = 0 ∧ u % 2 = 0
      ·obtain ⟨qa,qb⟩:=q3
       have t1:((e:Int) % 2 == 1) = false:=by rw [beq_eq_false_iff_ne]; omega
       have t2:((u:Int) % 2 == 1) = false:=by rw [beq_eq_false_iff_ne]; omega
       have t3:((e:Int) % 2 == 0) = true:=by rw [beq_iff_eq]; omega
       have t4:((u:Int) % 2 == 0) = true:=by rw [beq_iff_eq]; omega
       have FO:=hide (show cntO d h (0 + 1) = kO + 0 by rw [CO.out,IO.out,qa,qb]; rfl)
       have FU:=hide (show cntU d h (0 + 1) = kU + 1 by rw [CU.out,IU.out,qa,qb]; rfl)
       clear qa qb
       go_wp2_with fail
       go_roundg (gk - 1)
       case measure => have := HKG.out; omega
       case rel =>
        refine ⟨0 + 1,by have := HKG.out; omega,by go_num,by rw [FO.out]; (try first | rfl | go_num),by rw [FU.out]; (try first | rfl | go_num),?_⟩
        rw [EQ.out]
        exact (((TB2.out.set _ _).set _ _).set _ _).set _ _
      exfalso; omega
    ·-- round 1
     have hO:i < 4 * d.n:=by first | exact hh | exact h1 | exact h2
     have EO:=hide (eo_lt hd hO)
     obtain ⟨d0,d1,d2,d3⟩:=box3 TBk.out.d
     go_wp2_with fail
     refine (out2_n d A B d.n cp m cq (.int .i64 (d.lp:Int)) i _ rfl hO (by omega) (HG.out.keep TBk.out.bel).s).mono ?_
     rintro e w1 ⟨rfl,hb1⟩
     have TB1:=hide (TBk.out.below hb1)
     clear hb1 d0 d1 d2 d3
     go_upto_if 61 with fail
     go_cut [12] (fun s12 wx => s12 = .int .i64 (eo d i:Nat) ∧ TB w [.slice A d.n cp,.slice B m cq,.int .i64 (d.lp:Int)] (edg d h 1) wx)
     case first =>
      cases ho:Pl.out d i with
      | true =>
        have E:=hide (show eo d i = i by unfold eo; rw [if_pos ho])
        clear ho
        go_wp2_with fail
        go_meet
        exact ⟨by rw [E.out],TB1.out⟩
      | false =>
        have E:=hide (show eo d i = d.m i by unfold eo; rw [if_neg (by rw [ho]; decide)])
        clear ho
        obtain ⟨d0,d1,d2,d3⟩:=box3 TB1.out.d
        obtain ⟨mb,mo,rfl,cm⟩:=mate_at (HG.out.keep TB1.out.bel).m hO
        have io0:(0:Int) ≤ (i:Int):=by omega
        have io1:(i:Int) < (m:Int):=by have := HM.out; omega
        go_wp2_with fail
        go_meet
        exact ⟨by rw [E.out],TB1.out⟩
     case rest =>
      obtain ⟨rfl,htb⟩:=hcut
      have TB2:=hide htb
      clear htb TBk TB1
      have heo:=EO.out
      obtain ⟨e,he⟩:∃ e,e = eo d i := ⟨_,rfl⟩
      rw [← he] at heo ⊢
      have hei:=hd.lt e heo
      have HE:=hide he
      clear he
      obtain ⟨d0,d1,d2,d3⟩:=box3 TB2.out.d
      obtain ⟨mb,mo,rfl,cm⟩:=mate_at (HG.out.keep TB2.out.bel).m heo
      obtain ⟨u,hu⟩:∃ u,u = d.m e := ⟨_,rfl⟩
      rw [← hu] at cm hei
      have HU:=hide (show ei d i = u by unfold ei; rw [← HE.out,hu])
      clear hu
      have io0:(0:Int) ≤ (e:Int):=by omega
      have io1:(e:Int) < (m:Int):=by have := HM.out; omega
      go_wp2_with fail
      refine (opp_i (e:Int) _ (by omega)).mono ?_
      rintro en w1 ⟨rfl,rfl⟩
      go_wp2_with fail
      refine (opp_i (u:Int) _ (by omega)).mono ?_
      rintro en w1 ⟨rfl,rfl⟩
      try rw [Int.toNat_natCast]
      have EQ:=hide (show edg d h (1 + 1) = ((((edg d h 1).set (4 * 1) (.int .i64 (Pl.tn e 2:Nat))).set (4 * 1 + 1) (.int .i64 (e:Int))).set (4 * 1 + 2) (.int .i64 (u:Int))).set (4 * 1 + 3) (.int .i64 (Pl.tn u 2:Nat)) by
       have hz:pz d i = [.int .i64 (Pl.tn e 2:Nat),.int .i64 (e:Int),.int .i64 (u:Int),.int .i64 (Pl.tn u 2:Nat)]:=by unfold pz; rw [HU.out,← HE.out]
       simp only [edg,← HTH0.out,← HTI.out,← HTJ.out,hz]
       rfl)
      have CO:=hide (show cntO d h (1 + 1) = cntO d h 1 + if isO d i then 1 else 0 by rw [cntO_s]; simp only [← HTH0.out,← HTI.out,← HTJ.out])
      have CU:=hide (show cntU d h (1 + 1) = cntU d h 1 + if isU d i then 1 else 0 by rw [cntU_s]; simp only [← HTH0.out,← HTI.out,← HTJ.out])
      have IO:=hide (show isO d i = (e % 2 == 1 && u % 2 == 1) by unfold isO; rw [HU.out,← HE.out])
      have IU:=hide (show isU d i = (e % 2 == 0 && u % 2 == 0) by unfold isU; rw [HU.out,← HE.out])
      obtain ⟨kO,hkO⟩:∃ c,c = cntO d h 1 := ⟨_,rfl⟩
      obtain ⟨kU,hkU⟩:∃ c,c = cntU d h 1 := ⟨_,rfl⟩
      rw [← hkO] at CO ⊢
      rw [← hkU] at CU ⊢
      have bO:kO ≤ 3:=by rw [hkO]; unfold cntO; have := List.length_filter_le (fun i => isO d (th d h i)) (List.range 1); simp at this ⊢; try omega
      have bU:kU ≤ 3:=by rw [hkU]; unfold cntU; have := List.length_filter_le (fun i => isU d (th d h i)) (List.range 1); simp at this ⊢; try omega
      clear hkO hkU
      obtain ⟨e0,e1,e2,e3,e4,e5,e6,e7,e8,e9,e10,e11,ef⟩:=box12 TB2.out.e
      by_cases q0:e % 2 = 1 ∧ u % 2 = 1
      ·obtain ⟨qa,qb⟩:=q0
       have t1:((e:Int) % 2 == 1) = true:=by rw [beq_iff_eq]; omega
       have t2:((u:Int) % 2 == 1) = true:=by rw [beq_iff_eq]; omega
       have t3:((e:Int) % 2 == 0) = false:=by rw [beq_eq_false_iff_ne]; omega
       have t4:((u:Int) % 2 == 0) = false:=by rw [beq_eq_false_iff_ne]; omega
       have FO:=hide (show cntO d h (1 + 1) = kO + 1 by rw [CO.out,IO.out,qa,qb]; rfl)
       have FU:=hide (show cntU d h (1 + 1) = kU + 0 by rw [CU.out,IU.out,qa,qb]; rfl)
       clear qa qb
       go_wp2_with fail
       go_roundg (gk - 1)
       case measure => have := HKG.out; omega
       case rel =>
        refine ⟨1 + 1,by have := HKG.out; omega,by go_num,by rw [FO.out]; (try first | rfl | go_num),by rw [FU.out]; (try first | rfl | go_num),?_⟩
        rw [EQ.out]
        exact (((TB2.out.set _ _).set _ _).set _ _).set _ _
      by_cases q1:e % 2 = 1 ∧ u % 2 = 0
      ·obtain ⟨qa,qb⟩:=q1
       have t1:((e:Int) % 2 == 1) = true:=by rw [beq_iff_eq]; omega
       have t2:((u:Int) % 2 == 1) = false:=by rw [beq_eq_false_iff_ne]; omega
       have t3:((e:Int) % 2 == 0) = false:=by rw [beq_eq_false_iff_ne]; omega
       have t4:((u:Int) % 2 == 0) = true:=by rw [beq_iff_eq]; omega
       have FO:=hide (show cntO d h (1 + 1) = kO + 0 by rw [CO.out,IO.out,qa,qb]; rfl)
       have FU:=hide (show cntU d h (1 + 1) = kU + 0 by rw [CU.out,IU.out,qa,qb]; rfl)
       clear qa qb
       go_wp2_with fail
       go_roundg (gk - 1)
       case measure => have := HKG.out; omega
       case rel =>
        refine ⟨1 + 1,by have := HKG.out; omega,by go_num,by rw [FO.out]; (try first | rfl | go_num),by rw [FU.out]; (try first | rfl | go_num),?_⟩
        rw [EQ.out]
        exact (((TB2.out.set _ _).set _ _).set _ _).set _ _
      by_cases q2:e % 2 = 0 ∧ u % 2 = 1
      ·obtain ⟨qa,qb⟩:=q2
       have t1:((e:Int) % 2 == 1) = false:=by rw [beq_eq_false_iff_ne]; omega
       have t2:((u:Int) % 2 == 1) = true:=by rw [beq_iff_eq]; omega
       have t3:((e:Int) % 2 == 0) = true:=by rw [beq_iff_eq]; omega
       have t4:((u:Int) % 2 == 0) = false:=by rw [beq_eq_false_iff_ne]; omega
       have FO:=hide (show cntO d h (1 + 1) = kO + 0 by rw [CO.out,IO.out,qa,qb]; rfl)
       have FU:=hide (show cntU d h (1 + 1) = kU + 0 by rw [CU.out,IU.out,qa,qb]; rfl)
       clear qa qb
       go_wp2_with fail
       go_roundg (gk - 1)
       case measure => have := HKG.out; omega
       case rel =>
        refine ⟨1 + 1,by have := HKG.out; omega,by go_num,by rw [FO.out]; (try first | rfl | go_num),by rw [FU.out]; (try first | rfl | go_num),?_⟩
        rw [EQ.out]
        exact (((TB2.out.set _ _).set _ _).set _ _).set _ _
      by_cases q3:e % 2 = 0 ∧ u % 2 = 0
      ·obtain ⟨qa,qb⟩:=q3
       have t1:((e:Int) % 2 == 1) = false:=by rw [beq_eq_false_iff_ne]; omega
       have t2:((u:Int) % 2 == 1) = false:=by rw [beq_eq_false_iff_ne]; omega
       have t3:((e:Int) % 2 == 0) = true:=by rw [beq_iff_eq]; omega
       have t4:((u:Int) % 2 == 0) = true:=by rw [beq_iff_eq]; omega
       have FO:=hide (show cntO d h (1 + 1) = kO + 0 by rw [CO.out,IO.out,qa,qb]; rfl)
       have FU:=hide (show cntU d h (1 + 1) = kU + 1 by rw [CU.out,IU.out,qa,qb]; rfl)
       clear qa qb
       go_wp2_with fail
       go_roundg (gk - 1)
       case measure => have := HKG.out; omega
       case rel =>
        refine ⟨1 + 1,by have := HKG.out; omega,by go_num,by rw [FO.out]; (try first | rfl | go_num),by rw [FU.out]; (try first | rfl | go_num),?_⟩
        rw [EQ.out]
        exact (((TB2.out.set _ _).set _ _).set _ _).set _ _
      exfalso; omega
    ·-- round 2
     have hO:j < 4 * d.n:=by first | exact hh | exact h1 | exact h2
     have EO:=hide (eo_lt hd hO)
     obtain ⟨d0,d1,d2,d3⟩:=box3 TBk.out.d
     go_wp2_with fail
     refine (out2_n d A B d.n cp m cq (.int .i64 (d.lp:Int)) j _ rfl hO (by omega) (HG.out.keep TBk.out.bel).s).mono ?_
     rintro e w1 ⟨rfl,hb1⟩
     have TB1:=hide (TBk.out.below hb1)
     clear hb1 d0 d1 d2 d3
     go_upto_if 61 with fail
     go_cut [12] (fun s12 wx => s12 = .int .i64 (eo d j:Nat) ∧ TB w [.slice A d.n cp,.slice B m cq,.int .i64 (d.lp:Int)] (edg d h 2) wx)
     case first =>
      cases ho:Pl.out d j with
      | true =>
        have E:=hide (show eo d j = j by unfold eo; rw [if_pos ho])
        clear ho
        go_wp2_with fail
        go_meet
        exact ⟨by rw [E.out],TB1.out⟩
      | false =>
        have E:=hide (show eo d j = d.m j by unfold eo; rw [if_neg (by rw [ho]; decide)])
        clear ho
        obtain ⟨d0,d1,d2,d3⟩:=box3 TB1.out.d
        obtain ⟨mb,mo,rfl,cm⟩:=mate_at (HG.out.keep TB1.out.bel).m hO
        have io0:(0:Int) ≤ (j:Int):=by omega
        have io1:(j:Int) < (m:Int):=by have := HM.out; omega
        go_wp2_with fail
        go_meet
        exact ⟨by rw [E.out],TB1.out⟩
     case rest =>
      obtain ⟨rfl,htb⟩:=hcut
      have TB2:=hide htb
      clear htb TBk TB1
      have heo:=EO.out
      obtain ⟨e,he⟩:∃ e,e = eo d j := ⟨_,rfl⟩
      rw [← he] at heo ⊢
      have hei:=hd.lt e heo
      have HE:=hide he
      clear he
      obtain ⟨d0,d1,d2,d3⟩:=box3 TB2.out.d
      obtain ⟨mb,mo,rfl,cm⟩:=mate_at (HG.out.keep TB2.out.bel).m heo
      obtain ⟨u,hu⟩:∃ u,u = d.m e := ⟨_,rfl⟩
      rw [← hu] at cm hei
      have HU:=hide (show ei d j = u by unfold ei; rw [← HE.out,hu])
      clear hu
      have io0:(0:Int) ≤ (e:Int):=by omega
      have io1:(e:Int) < (m:Int):=by have := HM.out; omega
      go_wp2_with fail
      refine (opp_i (e:Int) _ (by omega)).mono ?_
      rintro en w1 ⟨rfl,rfl⟩
      go_wp2_with fail
      refine (opp_i (u:Int) _ (by omega)).mono ?_
      rintro en w1 ⟨rfl,rfl⟩
      try rw [Int.toNat_natCast]
      have EQ:=hide (show edg d h (2 + 1) = ((((edg d h 2).set (4 * 2) (.int .i64 (Pl.tn e 2:Nat))).set (4 * 2 + 1) (.int .i64 (e:Int))).set (4 * 2 + 2) (.int .i64 (u:Int))).set (4 * 2 + 3) (.int .i64 (Pl.tn u 2:Nat)) by
       have hz:pz d j = [.int .i64 (Pl.tn e 2:Nat),.int .i64 (e:Int),.int .i64 (u:Int),.int .i64 (Pl.tn u 2:Nat)]:=by unfold pz; rw [HU.out,← HE.out]
       simp only [edg,← HTH0.out,← HTI.out,← HTJ.out,hz]
       rfl)
      have CO:=hide (show cntO d h (2 + 1) = cntO d h 2 + if isO d j then 1 else 0 by rw [cntO_s]; simp only [← HTH0.out,← HTI.out,← HTJ.out])
      have CU:=hide (show cntU d h (2 + 1) = cntU d h 2 + if isU d j then 1 else 0 by rw [cntU_s]; simp only [← HTH0.out,← HTI.out,← HTJ.out])
      have IO:=hide (show isO d j = (e % 2 == 1 && u % 2 == 1) by unfold isO; rw [HU.out,← HE.out])
      have IU:=hide (show isU d j = (e % 2 == 0 && u % 2 == 0) by unfold isU; rw [HU.out,← HE.out])
      obtain ⟨kO,hkO⟩:∃ c,c = cntO d h 2 := ⟨_,rfl⟩
      obtain ⟨kU,hkU⟩:∃ c,c = cntU d h 2 := ⟨_,rfl⟩
      rw [← hkO] at CO ⊢
      rw [← hkU] at CU ⊢
      have bO:kO ≤ 3:=by rw [hkO]; unfold cntO; have := List.length_filter_le (fun i => isO d (th d h i)) (List.range 2); simp at this ⊢; try omega
      have bU:kU ≤ 3:=by rw [hkU]; unfold cntU; have := List.length_filter_le (fun i => isU d (th d h i)) (List.range 2); simp at this ⊢; try omega
      clear hkO hkU
      obtain ⟨e0,e1,e2,e3,e4,e5,e6,e7,e8,e9,e10,e11,ef⟩:=box12 TB2.out.e
      by_cases q0:e % 2 = 1 ∧ u % 2 = 1
      ·obtain ⟨qa,qb⟩:=q0
       have t1:((e:Int) % 2 == 1) = true:=by rw [beq_iff_eq]; omega
       have t2:((u:Int) % 2 == 1) = true:=by rw [beq_iff_eq]; omega
       have t3:((e:Int) % 2 == 0) = false:=by rw [beq_eq_false_iff_ne]; omega
       have t4:((u:Int) % 2 == 0) = false:=by rw [beq_eq_false_iff_ne]; omega
       have FO:=hide (show cntO d h (2 + 1) = kO + 1 by rw [CO.out,IO.out,qa,qb]; rfl)
       have FU:=hide (show cntU d h (2 + 1) = kU + 0 by rw [CU.out,IU.out,qa,qb]; rfl)
       clear qa qb
       go_wp2_with fail
       go_roundg (gk - 1)
       case measure => have := HKG.out; omega
       case rel =>
        refine ⟨2 + 1,by have := HKG.out; omega,by go_num,by rw [FO.out]; (try first | rfl | go_num),by rw [FU.out]; (try first | rfl | go_num),?_⟩
        rw [EQ.out]
        exact (((TB2.out.set _ _).set _ _).set _ _).set _ _
      by_cases q1:e % 2 = 1 ∧ u % 2 = 0
      ·obtain ⟨qa,qb⟩:=q1
       have t1:((e:Int) % 2 == 1) = true:=by rw [beq_iff_eq]; omega
       have t2:((u:Int) % 2 == 1) = false:=by rw [beq_eq_false_iff_ne]; omega
       have t3:((e:Int) % 2 == 0) = false:=by rw [beq_eq_false_iff_ne]; omega
       have t4:((u:Int) % 2 == 0) = true:=by rw [beq_iff_eq]; omega
       have FO:=hide (show cntO d h (2 + 1) = kO + 0 by rw [CO.out,IO.out,qa,qb]; rfl)
       have FU:=hide (show cntU d h (2 + 1) = kU + 0 by rw [CU.out,IU.out,qa,qb]; rfl)
       clear qa qb
       go_wp2_with fail
       go_roundg (gk - 1)
       case measure => have := HKG.out; omega
       case rel =>
        refine ⟨2 + 1,by have := HKG.out; omega,by go_num,by rw [FO.out]; (try first | rfl | go_num),by rw [FU.out]; (try first | rfl | go_num),?_⟩
        rw [EQ.out]
        exact (((TB2.out.set _ _).set _ _).set _ _).set _ _
      by_cases q2:e % 2 = 0 ∧ u % 2 = 1
      ·obtain ⟨qa,qb⟩:=q2
       have t1:((e:Int) % 2 == 1) = false:=by rw [beq_eq_false_iff_ne]; omega
       have t2:((u:Int) % 2 == 1) = true:=by rw [beq_iff_eq]; omega
       have t3:((e:Int) % 2 == 0) = true:=by rw [beq_iff_eq]; omega
       have t4:((u:Int) % 2 == 0) = false:=by rw [beq_eq_false_iff_ne]; omega
       have FO:=hide (show cntO d h (2 + 1) = kO + 0 by rw [CO.out,IO.out,qa,qb]; rfl)
       have FU:=hide (show cntU d h (2 + 1) = kU + 0 by rw [CU.out,IU.out,qa,qb]; rfl)
       clear qa qb
       go_wp2_with fail
       go_roundg (gk - 1)
       case measure => have := HKG.out; omega
       case rel =>
        refine ⟨2 + 1,by have := HKG.out; omega,by go_num,by rw [FO.out]; (try first | rfl | go_num),by rw [FU.out]; (try first | rfl | go_num),?_⟩
        rw [EQ.out]
        exact (((TB2.out.set _ _).set _ _).set _ _).set _ _
      by_cases q3:e % 2 = 0 ∧ u % 2 = 0
      ·obtain ⟨qa,qb⟩:=q3
       have t1:((e:Int) % 2 == 1) = false:=by rw [beq_eq_false_iff_ne]; omega
       have t2:((u:Int) % 2 == 1) = false:=by rw [beq_eq_false_iff_ne]; omega
       have t3:((e:Int) % 2 == 0) = true:=by rw [beq_iff_eq]; omega
       have t4:((u:Int) % 2 == 0) = true:=by rw [beq_iff_eq]; omega
       have FO:=hide (show cntO d h (2 + 1) = kO + 0 by rw [CO.out,IO.out,qa,qb]; rfl)
       have FU:=hide (show cntU d h (2 + 1) = kU + 1 by rw [CU.out,IU.out,qa,qb]; rfl)
       clear qa qb
       go_wp2_with fail
       go_roundg (gk - 1)
       case measure => have := HKG.out; omega
       case rel =>
        refine ⟨2 + 1,by have := HKG.out; omega,by go_num,by rw [FO.out]; (try first | rfl | go_num),by rw [FU.out]; (try first | rfl | go_num),?_⟩
        rw [EQ.out]
        exact (((TB2.out.set _ _).set _ _).set _ _).set _ _
      exfalso; omega
    ·-- the end
     have E3:=hide (show Pl.vb (isT d h) = (decide (cntO d h 3 = 1) && decide (cntU d h 3 = 1)) by
      rw [Bool.eq_iff_iff,Pl.vb_iff]; unfold isT; simp [H3.out])
     obtain ⟨kO,hkO⟩:∃ c,c = cntO d h 3 := ⟨_,rfl⟩
     obtain ⟨kU,hkU⟩:∃ c,c = cntU d h 3 := ⟨_,rfl⟩
     rw [← hkO] at E3 ⊢
     rw [← hkU] at E3 ⊢
     clear hkO hkU
     have HTR:=hide (show ∃ a0 a1 a2 a3 a4 a5 a6 a7 a8 a9 a10 a11:Nat,edg d h 3 = [.int .i64 (a0:Int),.int .i64 (a1:Int),.int .i64 (a2:Int),.int .i64 (a3:Int),.int .i64 (a4:Int),.int .i64 (a5:Int),.int .i64 (a6:Int),.int .i64 (a7:Int),.int .i64 (a8:Int),.int .i64 (a9:Int),.int .i64 (a10:Int),.int .i64 (a11:Int)] from ⟨_,_,_,_,_,_,_,_,_,_,_,_,rfl⟩)
     obtain ⟨a0,a1,a2,a3,a4,a5,a6,a7,a8,a9,a10,a11,hedg⟩:=HTR.out
     rw [hedg] at TBk
     have HEDG:=hide hedg
     clear hedg
     obtain ⟨r0,r1,r2,r3,r4,r5,r6,r7,r8,r9,r10,r11,rf⟩:=box12 TBk.out.r
     obtain ⟨e0,e1,e2,e3,e4,e5,e6,e7,e8,e9,e10,e11,ef⟩:=box12 TBk.out.e
     obtain ⟨bb,hbb⟩:∃ bb,bb = Pl.vb (isT d h) := ⟨_,rfl⟩
     rw [← hbb] at E3
     have HBB:=hide hbb
     clear hbb
     go_upto_region 19 with fail
     go_cut [5] (fun s5 wx => s5 = .bool bb ∧ ∃ W,TB w [.slice A d.n cp,.slice B m cq,.int .i64 (d.lp:Int)] [.int .i64 (a0:Int),.int .i64 (a1:Int),.int .i64 (a2:Int),.int .i64 (a3:Int),.int .i64 (a4:Int),.int .i64 (a5:Int),.int .i64 (a6:Int),.int .i64 (a7:Int),.int .i64 (a8:Int),.int .i64 (a9:Int),.int .i64 (a10:Int),.int .i64 (a11:Int)] W ∧ wx = (((((((((((((W.setCell ⟨w.heap.size + 1,0,none⟩ (.int .i64 (a0:Int))).setCell ⟨w.heap.size + 1,1,none⟩ (.int .i64 (a1:Int))).setCell ⟨w.heap.size + 1,2,none⟩ (.int .i64 (a2:Int))).setCell ⟨w.heap.size + 1,3,none⟩ (.int .i64 (a3:Int))).setCell ⟨w.heap.size + 1,4,none⟩ (.int .i64 (a4:Int))).setCell ⟨w.heap.size + 1,5,none⟩ (.int .i64 (a5:Int))).setCell ⟨w.heap.size + 1,6,none⟩ (.int .i64 (a6:Int))).setCell ⟨w.heap.size + 1,7,none⟩ (.int .i64 (a7:Int))).setCell ⟨w.heap.size + 1,8,none⟩ (.int .i64 (a8:Int))).setCell ⟨w.heap.size + 1,9,none⟩ (.int .i64 (a9:Int))).setCell ⟨w.heap.size + 1,10,none⟩ (.int .i64 (a10:Int))).setCell ⟨w.heap.size + 1,11,none⟩ (.int .i64 (a11:Int)))))
     case first =>
      by_cases c1:kO = 1
      ·have t1:((kO:Int) == 1) = true:=by rw [beq_iff_eq]; omega
       by_cases c2:kU = 1
       ·have t2:((kU:Int) == 1) = true:=by rw [beq_iff_eq]; omega
        have F:=hide (show bb = true by rw [E3.out]; simp [c1,c2])
        clear c1 c2
        go_wp2_with fail
        go_meet
        exact ⟨by rw [F.out],_,TBk.out,rfl⟩
       ·have t2:((kU:Int) == 1) = false:=by rw [beq_eq_false_iff_ne]; omega
        have F:=hide (show bb = false by rw [E3.out]; simp [c1,c2])
        clear c1 c2
        go_wp2_with fail
        go_meet
        exact ⟨by rw [F.out],_,TBk.out,rfl⟩
      ·have t1:((kO:Int) == 1) = false:=by rw [beq_eq_false_iff_ne]; omega
       have F:=hide (show bb = false by rw [E3.out]; simp [c1])
       clear c1
       go_wp2_with fail
       go_meet
       exact ⟨by rw [F.out],_,TBk.out,rfl⟩
     case rest =>
      obtain ⟨rfl,W,hT,rfl⟩:=hcut
      clear e0 e1 e2 e3 e4 e5 e6 e7 e8 e9 e10 e11 r0 r1 r2 r3 r4 r5 r6 r7 r8 r9 r10 r11
      go_wp2
      refine bodyPost_ret (v := .tuple #[.agg #[.int .i64 (a0:Int),.int .i64 (a1:Int),.int .i64 (a2:Int),.int .i64 (a3:Int),.int .i64 (a4:Int),.int .i64 (a5:Int),.int .i64 (a6:Int),.int .i64 (a7:Int),.int .i64 (a8:Int),.int .i64 (a9:Int),.int .i64 (a10:Int),.int .i64 (a11:Int)],.bool bb]) ?_ rfl ?_
      ·obtain ⟨r0,r1,r2,r3,r4,r5,r6,r7,r8,r9,r10,r11,rf⟩:=box12 (row12 hT.r rfl (.int .i64 (a0:Int)) (.int .i64 (a1:Int)) (.int .i64 (a2:Int)) (.int .i64 (a3:Int)) (.int .i64 (a4:Int)) (.int .i64 (a5:Int)) (.int .i64 (a6:Int)) (.int .i64 (a7:Int)) (.int .i64 (a8:Int)) (.int .i64 (a9:Int)) (.int .i64 (a10:Int)) (.int .i64 (a11:Int)))
       simp [results,Try.results95,go_sem,r0,r1,r2,r3,r4,r5,r6,r7,r8,r9,r10,r11]
      ·exact ⟨fun _ => by rw [HEDG.out,← HBB.out],fun h => absurd H3.out h,below_set12 hT.bel (by omega) _ _ _ _ _ _ _ _ _ _ _ _⟩
  ·have H3:=hide h3
   rw [Pl.vb_false h3]
   clear h3
   obtain ⟨r0,r1,r2,r3,r4,r5,r6,r7,r8,r9,r10,r11,rf⟩:=box12 TB0.out.r
   obtain ⟨e0,e1,e2,e3,e4,e5,e6,e7,e8,e9,e10,e11,ef⟩:=box12 TB0.out.e
   go_wp2
   refine bodyPost_ret (v := .tuple #[.agg (edg d h 0).toArray,.bool false]) ?_ rfl ?_
   ·obtain ⟨r0,r1,r2,r3,r4,r5,r6,r7,r8,r9,r10,r11,rf⟩:=box12 (row12 TB0.out.r rfl (.int .i64 0) (.int .i64 0) (.int .i64 0) (.int .i64 0) (.int .i64 0) (.int .i64 0) (.int .i64 0) (.int .i64 0) (.int .i64 0) (.int .i64 0) (.int .i64 0) (.int .i64 0))
    clear e0 e1 e2 e3 e4 e5 e6 e7 e8 e9 e10 e11
    show _ = Result.ok (Value.tuple #[Value.agg #[.int .i64 0,.int .i64 0,.int .i64 0,.int .i64 0,.int .i64 0,.int .i64 0,.int .i64 0,.int .i64 0,.int .i64 0,.int .i64 0,.int .i64 0,.int .i64 0],.bool false]) _
    simp [results,Try.results95,go_sem,r0,r1,r2,r3,r4,r5,r6,r7,r8,r9,r10,r11]
   ·exact ⟨fun h => absurd h H3.out,fun _ => rfl,below_set12 TB0.out.bel (by omega) _ _ _ _ _ _ _ _ _ _ _ _⟩
end Go.Proofs.Ytghdiolnonejaaa
end
section
namespace Go.Proofs.Ytghdiolnonejaaa
open Go Go.RowKit
attribute [local go_sem ↓] Go.wp_at_zero Go.wp_at_succ
theorem below8 {w W:World} (h:Below w.heap.size w W) (y0 y1 y2 z0 z1 z2 z3 z4:Value) :
 Below w.heap.size w ((((((((W.setCell ⟨w.heap.size + 1 + 1,0,none⟩ y0).setCell ⟨w.heap.size + 1 + 1,1,none⟩ y1).setCell ⟨w.heap.size + 1 + 1,2,none⟩ y2).setCell ⟨w.heap.size + 1 + 1 + 1,0,none⟩ z0).setCell ⟨w.heap.size + 1 + 1 + 1,1,none⟩ z1).setCell ⟨w.heap.size + 1 + 1 + 1,2,none⟩ z2).setCell ⟨w.heap.size + 1 + 1 + 1,3,none⟩ z3).setCell ⟨w.heap.size + 1 + 1 + 1,4,none⟩ z4) :=
 (((((((h.setCell (by show _ ≤ w.heap.size + 1 + 1; omega) _).setCell (by show _ ≤ w.heap.size + 1 + 1; omega) _).setCell (by show _ ≤ w.heap.size + 1 + 1; omega) _).setCell (by show _ ≤ w.heap.size + 1 + 1 + 1; omega) _).setCell (by show _ ≤ w.heap.size + 1 + 1 + 1; omega) _).setCell (by show _ ≤ w.heap.size + 1 + 1 + 1; omega) _).setCell (by show _ ≤ w.heap.size + 1 + 1 + 1; omega) _).setCell (by show _ ≤ w.heap.size + 1 + 1 + 1; omega) _
theorem one_ints (W:World) (c:Nat):IntsAt (W.alloc (.cells #[.int .i64 (c:Int)] 3)).drew (some ⟨W.heap.size,0,none⟩) 1 (nats [c]) := by
 refine IntsAt.drew ⟨rfl,fun _ => ⟨_,0,rfl,fun j u hu => ?_⟩⟩
 match j,hu with
 | 0,hu => simp [nats] at hu; subst hu; exact (Lib.cell_of_heap (heap_alloc_new W _) 0).trans rfl
theorem one_ints' (W:World) (c:Nat) {g:Nat} (h:g = W.heap.size):IntsAt (W.alloc (.cells #[.int .i64 (c:Int)] 3)) (some ⟨g,0,none⟩) 1 (nats [c]) := by
 subst h
 exact one_ints W c
theorem OwnN.alloc {w:World} {base g n c:Nat} {l:List Nat} (h:OwnN w base g n c l) (o:Obj):OwnN (w.alloc o) base g n c l := World.ownsRow.alloc h o
theorem OwnN.caps {w:World} {base g n c:Nat} {l:List Nat} (h:OwnN w base g n c l):n ≤ c ∧ c ≤ maxLen := by
 rcases h.2 with ⟨h1,h2⟩ | ⟨g',cap,cur,h1,_,_,h4,h5,_⟩
 ·injection h1 with h1; injection h1
 ·injection h1 with _ _ h3
  subst h3
  exact ⟨h4,h5⟩
theorem own8 {w W:World} {base:Nat} {v:Value} {n:Nat} {xs:List Value} (h:W.ownsRow base 3 1 v n xs) (hb:w.heap.size + 1 + 1 + 1 < base) (y0 y1 y2 z0 z1 z2 z3 z4:Value) :
 ((((((((W.setCell ⟨w.heap.size + 1 + 1,0,none⟩ y0).setCell ⟨w.heap.size + 1 + 1,1,none⟩ y1).setCell ⟨w.heap.size + 1 + 1,2,none⟩ y2).setCell ⟨w.heap.size + 1 + 1 + 1,0,none⟩ z0).setCell ⟨w.heap.size + 1 + 1 + 1,1,none⟩ z1).setCell ⟨w.heap.size + 1 + 1 + 1,2,none⟩ z2).setCell ⟨w.heap.size + 1 + 1 + 1,3,none⟩ z3).setCell ⟨w.heap.size + 1 + 1 + 1,4,none⟩ z4).ownsRow base 3 1 v n xs :=
 ownsRow_setCell_below (ownsRow_setCell_below (ownsRow_setCell_below (ownsRow_setCell_below (ownsRow_setCell_below (ownsRow_setCell_below (ownsRow_setCell_below (ownsRow_setCell_below h (by show w.heap.size + 1 + 1 < base; omega) _) (by show w.heap.size + 1 + 1 < base; omega) _) (by show w.heap.size + 1 + 1 < base; omega) _) (by show w.heap.size + 1 + 1 + 1 < base; omega) _) (by show w.heap.size + 1 + 1 + 1 < base; omega) _) (by show w.heap.size + 1 + 1 + 1 < base; omega) _) (by show w.heap.size + 1 + 1 + 1 < base; omega) _) (by show w.heap.size + 1 + 1 + 1 < base; omega) _
theorem closed_yes (base g n cap a b:Nat) (l:List Nat) (w:World) (h:OwnN w base g n cap l) (ha:a < n) (hb:b < n) (hn:n ≤ 100000) (hl:∀ k,k < n → l.getD k 0 < n) (hy:l.getD a 0 = b) :
 Calls Try.prog 82 #[.slice (some ⟨g,0,none⟩) n cap,.int .i64 (a:Int),.int .i64 (b:Int)] w fun e w' => e = .returned (.int .i64 1) ∧ OwnN w' base g n cap l ∧ w.grownBy w' (some g) := by
 refine (closed_any base g n cap a b l w h ha hb hn hl).mono ?_
 rintro e w' ⟨h1,h2,h3⟩
 rw [if_pos hy] at h1 h2
 exact ⟨h1,h2,h3⟩
theorem closed_no (base g n cap a b:Nat) (l:List Nat) (w:World) (h:OwnN w base g n cap l) (ha:a < n) (hb:b < n) (hn:n ≤ 100000) (hl:∀ k,k < n → l.getD k 0 < n) (hy:¬ l.getD a 0 = b) :
 Calls Try.prog 82 #[.slice (some ⟨g,0,none⟩) n cap,.int .i64 (a:Int),.int .i64 (b:Int)] w fun e w' => e = .returned (.int .i64 0) ∧ OwnN w' base g n cap (jn l (l.getD a 0) (l.getD b 0)) ∧ w.grownBy w' (some g) := by
 refine (closed_any base g n cap a b l w h ha hb hn hl).mono ?_
 rintro e w' ⟨h1,h2,h3⟩
 rw [if_neg hy] at h1 h2
 exact ⟨h1,h2,h3⟩
set_option maxRecDepth 100000 in
set_option maxHeartbeats 4000000 in
theorem uncurl_any (d:Pl.Dg) (hd:Pl.Wf d) (A B:Option Addr) (cp cq c:Nat) (k y sg:Int) (ov:Bool) (w:World) (hg:DgAt w A B d) (hc:c < d.n) :
 Calls Try.prog 50 #[.agg #[.slice A d.n cp,.slice B (4 * d.n) cq,.int .i64 d.lp],.agg #[.int .i64 k,.int .i64 (c:Int),.int .i64 y,.int .i64 sg,.bool ov]] w (UncPost d c w) := by
 have hn:=hd.few
 have hlp:=hd.lp
 obtain ⟨m,hm⟩:∃ m,m = 4 * d.n := ⟨_,rfl⟩
 have HG:=hide hg
 clear hg
 rw [← hm]
 have HM:=hide hm
 clear hm
 obtain ⟨x0,x1,x2,x3,b0,s0⟩:=boxes4 w (.slice A d.n cp) (.slice B m cq) (.int .i64 d.lp) (.int .i64 k) (.int .i64 (c:Int)) (.int .i64 y) (.int .i64 sg) (.bool ov)
 unfold W4 at x0 x1 x2 x3 b0 s0
 have X0:=hide x0
 have X1:=hide x1
 have X2:=hide x2
 have X3:=hide x3
 have B0:=hide b0
 have S0:=hide s0
 clear x0 x1 x2 x3 b0 s0
 go_enter Try.func50,Try.ntmps50
 go_wp2_with fail
 refine (kink_any d hd A B cp cq m c _ HM.out (HG.out.keep B0.out) hc).mono ?_
 rintro e w1 ⟨rfl,hb1⟩
 have Y0:=hide (X0.out.below hb1)
 have Y1:=hide (X1.out.below hb1)
 have Y2:=hide (X2.out.below hb1)
 have Y3:=hide (X3.out.below hb1)
 have B1:=hide (B0.out.trans (hb1.mono B0.out.size))
 have hsz:w.heap.size + 4 ≤ w1.heap.size:=by have := hb1.size; have := S0.out; omega
 clear X0 X1 X2 X3 B0 S0 hb1
 obtain ⟨f0,f1,f2,f3⟩:=box3 Y0.out
 obtain ⟨m0,m1,m2,m3,m4,m5⟩:=box5 Y1.out
 obtain ⟨p0,p1,p2,p3⟩:=box3 Y2.out
 obtain ⟨q0,q1,q2,q3,q4,q5⟩:=box5 Y3.out
 by_cases hK:d.m (kk d c) / 4 = c
 ·rw [Pl.vb_true (show isK d c from hK)]
  unfold kinkE
  rw [if_pos rfl]
  have HK:=hide hK
  clear hK
  have ha1:=kA_lt (d := d) hc
  have hb1:=kB_lt hd hc
  unfold kA at ha1
  unfold kB at hb1
  obtain ⟨a,ha⟩:∃ a,a = Pl.tn (kk d c) 2 := ⟨_,rfl⟩
  obtain ⟨b,hb⟩:∃ b,b = Pl.tn (d.m (kk d c)) 2 := ⟨_,rfl⟩
  rw [← ha,← hb]
  rw [← ha] at ha1
  rw [← hb] at hb1
  have HA:=hide (show a = kA d c from ha)
  have HB:=hide (show b = kB d c from hb)
  clear ha hb
  have hml:d.mt.length = m:=by have := hd.len; have := HM.out; omega
  have HML:=hide hml
  have ham:a < m:=by have := HM.out; omega
  have hbm:b < m:=by have := HM.out; omega
  have hm1:0 < m:=by omega
  have hm2:m ≤ 256:=by have := HM.out; omega
  have HLT:=hide (show ∀ k,k < m → d.mt.getD k 0 < m from fun k hk => by
   rw [getD_m (by rw [HML.out]; exact hk)]
   have:=hd.lt k (by have := HM.out; omega)
   have:=HM.out
   omega)
  have HGA:=hide (show d.mt.getD a 0 = d.m a from getD_m (by rw [HML.out]; exact ham))
  have HGM:=hide (show IntsAt w1 B m (nats d.mt) by rw [HM.out]; exact (HG.out.keep B1.out).m)
  clear hml
  obtain ⟨i0,hi0,hz0,hz1,hz2⟩:=info_parts intInfo
  go_wp2_with (at_builtin; refine wpList_append_ints _ rfl _ _ 22 rfl w1.heap.size 3 i0 (.int .i64 0) 8 Try.underlying22 hi0 hz0 hz1 hz2 rfl (.slice none 0 0) 0 [] (by rfl) (World.ownsRow_nil _ _ _ _) B m cq (nats d.mt) (by rfl) HGM.out (by unfold maxLen; omega) (by omega) (Nat.le_refl _) ?_; intro v2 w2 own2 grow2)
  simp only [Nat.zero_add,List.nil_append] at own2
  obtain ⟨A2,c2,rfl⟩:=owns_slice own2
  obtain ⟨g2,rfl,lo2,hi2⟩:=owns_pos hm1 own2
  have OWN2:=hide (show OwnN w2 w1.heap.size g2 m c2 d.mt by unfold OwnN; rw [← map_nats]; exact own2)
  have GR2:=hide grow2
  clear own2 grow2
  have Z0:=hide (Y0.out.grown GR2.out (by simp [Value.ownBlock]))
  have Z1:=hide (Y1.out.grown GR2.out (by simp [Value.ownBlock]))
  have Z2:=hide (Y2.out.grown GR2.out (by simp [Value.ownBlock]))
  have Z3:=hide (Y3.out.grown GR2.out (by simp [Value.ownBlock]))
  have B2:=hide (B1.out.grown GR2.out B1.out.size (fun k hk => by simp [Value.ownBlock] at hk))
  have hs2:=GR2.out.size
  clear f0 f1 f2 f3 m0 m1 m2 m3 m4 m5 p0 p1 p2 p3 q0 q1 q2 q3 q4 q5 Y0 Y1 Y2 Y3
  have HG2:=hide (HG.out.keep B2.out)
  by_cases hcl:d.m a = b
  ·have HC:=hide (show d.mt.getD a 0 = b by rw [HGA.out]; exact hcl)
   have HCL:=hide hcl
   clear hcl
   obtain ⟨f0,f1,f2,f3⟩:=box3 Z0.out
   have hwr:IntKind.i64.wrap ((d.lp:Int) + 1) = (d.lp:Int) + 1:=IntWalk.i64_in _ (by omega)
   go_region_held3 (fun w' => w'.cell? ⟨w.heap.size,2,none⟩ = some (.int .i64 (d.lp:Int))) (first | go_keep | assumption)
    (first
      | (go_at_call 82
         refine Calls.mono (closed_yes w1.heap.size g2 m c2 a b d.mt _ ?_ ham hbm (by omega) HLT.out HC.out) ?_
         ·exact OwnN.drew' rfl OWN2.out
         rintro e w3 ⟨rfl,own3,gr3⟩
         obtain ⟨_,_,h2,_⟩:=box3 ((Z0.out.drew).grown gr3 (by intro h; injection h; omega))
         have OWN3:=hide own3
         have GR3:=hide gr3
         clear own3 gr3))
   clear hwr f0 f1 f2 f3 h2
   have V0:=hide ((Z0.out.drew).grown GR3.out (by intro h; injection h; omega))
   have V1:=hide ((Z1.out.drew).grown GR3.out (by intro h; injection h; omega))
   have V2:=hide ((Z2.out.drew).grown GR3.out (by intro h; injection h; omega))
   have V3:=hide ((Z3.out.drew).grown GR3.out (by intro h; injection h; omega))
   have B3:=hide ((B2.out.drew).grown GR3.out (B2.out.drew).size (fun k hk => by injection hk with hk; omega))
   have hs3:w.heap.size + 4 ≤ w3.heap.size:=by have := GR3.out.size; have:w2.drew.heap.size = w2.heap.size := rfl; omega
   have l1:w.heap.size < w3.heap.size:=by omega
   have l2:w.heap.size + 1 < w3.heap.size:=by omega
   have l3:w.heap.size + 1 + 1 < w3.heap.size:=by omega
   have l4:w.heap.size + 1 + 1 + 1 < w3.heap.size:=by omega
   obtain ⟨f0,f1,f2,f3⟩:=box3 V0.out
   obtain ⟨m0,m1,m2,m3,m4,m5⟩:=box5 V1.out
   obtain ⟨p0,p1,p2,p3⟩:=box3 V2.out
   obtain ⟨q0,q1,q2,q3,q4,q5⟩:=box5 V3.out
   by_cases hfull:64 < d.lp + 1
   ·have hfu:(64:Int) < (d.lp:Int) + 1:=by omega
    go_wp2
    refine bodyPost_ret (v := .tuple #[nilD,nilM,.int .i64 5]) ?_ rfl ?_
    ·obtain ⟨e0,e1,e2,e3,e4,e5,e6,e7⟩:=fin8 V2.out V3.out rfl rfl (by omega) (.slice none 0 0) (.slice none 0 0) (.int .i64 0) (.int .i64 0) (.int .i64 0) (.int .i64 0) (.int .i64 0) (.bool false)
     unfold nilD nilM
     simp [results,Try.results50,go_sem,e0,e1,e2,e3,e4,e5,e6,e7]
    ·have e6:uncC d c = 5:=by unfold uncC; rw [if_pos HK.out,← HA.out,← HB.out,if_pos HCL.out,if_pos hfull]
     refine ⟨fun _ => by rw [e6]; exact rfl,fun h => absurd h (by rw [e6]; decide),below8 B3.out _ _ _ _ _ _ _ _⟩
   ·have hfu:(d.lp:Int) + 1 ≤ 64:=by omega
    have t3:((d.lp:Int) + 1 == (d.lp:Int)) = false:=by rw [beq_eq_false_iff_ne]; omega
    have HG3:=hide (HG.out.keep B3.out)
    obtain ⟨ab,ao,rfl,hcs⟩:=sign_at HG3.out.s hc
    go_wp2_with fail
    obtain ⟨W5,hW5⟩:∃ W5:World,W5 = w3.alloc (.cells #[.int .i64 1,.int .i64 (-1),.int .i64 0,.int .i64 (d.s c),.bool ((a:Int) % 2 == 1)] 37) := ⟨_,rfl⟩
    rw [← hW5]
    obtain ⟨bb,hbb⟩:∃ bb,bb = ((a:Int) % 2 == 1) := ⟨_,rfl⟩
    have HBB:=hide hbb
    rw [← hbb] at hW5 ⊢
    clear hbb
    obtain ⟨gi,hgi⟩:∃ gi,gi = w3.heap.size := ⟨_,rfl⟩
    rw [← hgi]
    have HU:=hide (show UC w gi (.slice (some ⟨ab,ao,none⟩) d.n cp) (.slice B m cq) (.int .i64 (d.lp:Int)) (.int .i64 1) (.int .i64 (-1)) (.int .i64 0) (.int .i64 (d.s c)) (.bool bb) W5 by
     rw [hW5]
     exact ⟨V0.out.alloc _,row_at (vs := [.int .i64 1,.int .i64 (-1),.int .i64 0,.int .i64 (d.s c),.bool bb]) hgi,⟨_,V2.out.alloc _,rfl⟩,⟨_,V3.out.alloc _,rfl⟩,B3.out.alloc (by omega) _,by omega⟩)
    obtain ⟨LL,hLL⟩:∃ LL,LL = d.mt := ⟨_,rfl⟩
    have HMo:=hide (show OwnN W5 w1.heap.size g2 m c2 LL by rw [hW5,hLL]; exact OWN3.out.alloc _)
    have HLE:=hide (show ∀ k,LL.getD k 0 ≤ 1000 from fun k => by rw [hLL]; exact Nat.le_trans (getD_le hd k) (by omega))
    have HG5:=hide (show DgAt W5 (some ⟨ab,ao,none⟩) B d from HG.out.keep HU.out.bel)
    have HLL:=hide (show LL = unM d c by unfold unM; rw [← HA.out,← HB.out,if_pos HCL.out,hLL])
    have HE0:=hide (show uncC d c = 0 by unfold uncC; rw [if_pos HK.out,← HA.out,← HB.out,if_pos HCL.out,if_neg hfull])
    clear hW5 hgi hLL f0 f1 f2 f3 m0 m1 m2 m3 m4 m5 p0 p1 p2 p3 q0 q1 q2 q3 q4 q5 hcs t3 l1 l2 l3 l4
    have HCAP:=hide HMo.out.caps
    have KS:=hide (IntsAt.drew ((HG5.out.s).alloc (.cells #[.int .i64 (c:Int)] 3)))
    have KM:=hide (OwnN.ints (OwnN.drew' rfl (HMo.out.alloc (.cells #[.int .i64 (c:Int)] 3))))
    have KG:=hide (one_ints W5 c)
    go_region_held3 (fun w' => w'.cell? ⟨w.heap.size,0,none⟩ = some (.slice (some ⟨ab,ao,none⟩) d.n cp) ∧ w'.cell? ⟨gi,0,none⟩ = some (.int .i64 1) ∧ w'.cell? ⟨gi,1,none⟩ = some (.int .i64 (-1)) ∧ w'.cell? ⟨gi,2,none⟩ = some (.int .i64 0) ∧ w'.cell? ⟨gi,3,none⟩ = some (.int .i64 (d.s c)) ∧ w'.cell? ⟨gi,4,none⟩ = some (.bool bb) ∧
     w'.cell? ⟨w.heap.size + 1 + 1,0,none⟩ = some (cv w' ⟨w.heap.size + 1 + 1,0,none⟩) ∧ w'.cell? ⟨w.heap.size + 1 + 1,1,none⟩ = some (cv w' ⟨w.heap.size + 1 + 1,1,none⟩) ∧ w'.cell? ⟨w.heap.size + 1 + 1,2,none⟩ = some (cv w' ⟨w.heap.size + 1 + 1,2,none⟩) ∧
     w'.cell? ⟨w.heap.size + 1 + 1 + 1,0,none⟩ = some (cv w' ⟨w.heap.size + 1 + 1 + 1,0,none⟩) ∧ w'.cell? ⟨w.heap.size + 1 + 1 + 1,1,none⟩ = some (cv w' ⟨w.heap.size + 1 + 1 + 1,1,none⟩) ∧ w'.cell? ⟨w.heap.size + 1 + 1 + 1,2,none⟩ = some (cv w' ⟨w.heap.size + 1 + 1 + 1,2,none⟩) ∧ w'.cell? ⟨w.heap.size + 1 + 1 + 1,3,none⟩ = some (cv w' ⟨w.heap.size + 1 + 1 + 1,3,none⟩) ∧ w'.cell? ⟨w.heap.size + 1 + 1 + 1,4,none⟩ = some (cv w' ⟨w.heap.size + 1 + 1 + 1,4,none⟩) ∧
     (∀ o,w'.frozen? ⟨w.heap.size + 1 + 1,o,none⟩ = false) ∧ (∀ o,w'.frozen? ⟨w.heap.size + 1 + 1 + 1,o,none⟩ = false) ∧ UC w gi (.slice (some ⟨ab,ao,none⟩) d.n cp) (.slice B m cq) (.int .i64 (d.lp:Int)) (.int .i64 1) (.int .i64 (-1)) (.int .i64 0) (.int .i64 (d.s c)) (.bool bb) w')
     ((go_split_ands; refine UC.all ?_; (repeat (first | (with_reducible assumption) | (with_reducible exact HU.out) | (with_reducible refine UC.setD ?_ _ _) | (with_reducible refine UC.setM ?_ _ _) | (with_reducible refine UC.alloc ?_ _) | (with_reducible refine UC.drew ?_) | (with_reducible refine UC.below ?_ hb6)))))
     (first
       | (go_at_call 84
          refine Calls.mono (shrunk_sl [c] d.sg LL ((d.lp:Int) + 1) (some ⟨ab,ao,none⟩) (some ⟨g2,0,none⟩) (some ⟨W5.heap.size,0,none⟩) d.n m 1 cp c2 1 _ ?_ ?_ ?_ (Pl.few_one c) HM.out HCAP.out.1 HCAP.out.2 (by omega) (by omega) HLE.out) ?_
          ·exact KS.out
          ·exact KM.out
          ·exact KG.out
          rintro e w6 ⟨A7,A8,c7,c8,rfl,owS,owM,hb6⟩
          have OWS:=hide owS
          have OWM:=hide owM
          clear owS owM))
    all_goals
     have HU6:=hide (show UC w gi (.slice (some ⟨ab,ao,none⟩) d.n cp) (.slice B m cq) (.int .i64 (d.lp:Int)) (.int .i64 1) (.int .i64 (-1)) (.int .i64 0) (.int .i64 (d.s c)) (.bool bb) w6 from by
      repeat (first | (with_reducible assumption) | (with_reducible exact HU.out) | (with_reducible refine UC.alloc ?_ _) | (with_reducible refine UC.drew ?_) | (with_reducible refine UC.below ?_ hb6)))
     have hb6s:W5.heap.size + 1 + 2 ≤ w6.heap.size ∨ True:=.inr trivial
     go_wp2
     obtain ⟨vs6,r6,l6⟩:=HU6.out.rd
     obtain ⟨us6,t6,k6⟩:=HU6.out.rm
     refine bodyPost_ret (v := .tuple #[.agg #[.slice A7 (Pl.left d.sg.length [c]).length c7,.slice A8 (4 * (Pl.left d.sg.length [c]).length) c8,.int .i64 ((d.lp:Int) + 1)],.agg #[.int .i64 1,.int .i64 (-1),.int .i64 0,.int .i64 (d.s c),.bool bb],.int .i64 0]) ?_ rfl ?_
     ·obtain ⟨e0,e1,e2,e3,e4,e5,e6,e7⟩:=fin8 r6 t6 l6 k6 (by omega) (.slice A7 (Pl.left d.sg.length [c]).length c7) (.slice A8 (4 * (Pl.left d.sg.length [c]).length) c8) (.int .i64 ((d.lp:Int) + 1)) (.int .i64 1) (.int .i64 (-1)) (.int .i64 0) (.int .i64 (d.s c)) (.bool bb)
      simp [results,Try.results50,go_sem,e0,e1,e2,e3,e4,e5,e6,e7]
     ·have hn7:(unD d c).n = (Pl.left d.sg.length [c]).length:=by unfold unD Pl.Dg.n; exact Pl.shrS_len _ _
      refine ⟨fun h => absurd HE0.out h,fun _ => ⟨A7,A8,c7,c8,?_,?_,?_⟩,below8 HU6.out.bel _ _ _ _ _ _ _ _⟩
      ·rw [hn7]
       unfold unD unI Mv.v
       simp only [← HA.out,← HB.out,if_pos HCL.out]
       have e1:((d.lp + 1:Nat):Int) = (d.lp:Int) + 1:=by omega
       have e2:decide (a % 2 = 1) = bb:=by rw [HBB.out,Bool.eq_iff_iff]; simp; omega
       rw [e1,e2]
      ·rw [hn7]
       refine own_intsT (base := (W5.alloc (.cells #[.int .i64 (c:Int)] 3)).drew.heap.size + 2) (e := 3) (c := c7) (own8 ?_ ?_ _ _ _ _ _ _ _ _)
       ·exact OWS.out
       ·have:=HU.out.i.lt; have := HU.out.lo; simp; omega
      ·rw [hn7]
       refine own_intsT (base := (W5.alloc (.cells #[.int .i64 (c:Int)] 3)).drew.heap.size + 2) (e := 3) (c := c8) (own8 ?_ ?_ _ _ _ _ _ _ _ _)
       ·rw [map_nats]
        have:=OWM.out
        rw [HLL.out] at this
        exact this
       ·have:=HU.out.i.lt; have := HU.out.lo; simp; omega
  ·have HC:=hide (show ¬ d.mt.getD a 0 = b by rw [HGA.out]; exact hcl)
   have HCL:=hide hcl
   have HGB:=hide (show d.mt.getD b 0 = d.m b from getD_m (by rw [HML.out]; exact hbm))
   clear hcl
   obtain ⟨f0,f1,f2,f3⟩:=box3 Z0.out
   have hwr:IntKind.i64.wrap (d.lp:Int) = (d.lp:Int):=IntWalk.i64_in _ (by omega)
   have hwr0:IntKind.i64.wrap ((d.lp:Int) + 0) = (d.lp:Int):=by rw [Int.add_zero]; exact hwr
   go_region_held3 (fun w' => w'.cell? ⟨w.heap.size,2,none⟩ = some (.int .i64 (d.lp:Int))) (first | go_keep | assumption)
    (first
      | (go_at_call 82
         refine Calls.mono (closed_no w1.heap.size g2 m c2 a b d.mt _ ?_ ham hbm (by omega) HLT.out HC.out) ?_
         ·exact OwnN.drew' rfl OWN2.out
         rintro e w3 ⟨rfl,own3,gr3⟩
         obtain ⟨_,_,h2,_⟩:=box3 ((Z0.out.drew).grown gr3 (by intro h; injection h; omega))
         have OWN3:=hide own3
         have GR3:=hide gr3
         clear own3 gr3))
   clear hwr hwr0 f0 f1 f2 f3 h2
   have V0:=hide ((Z0.out.drew).grown GR3.out (by intro h; injection h; omega))
   have V1:=hide ((Z1.out.drew).grown GR3.out (by intro h; injection h; omega))
   have V2:=hide ((Z2.out.drew).grown GR3.out (by intro h; injection h; omega))
   have V3:=hide ((Z3.out.drew).grown GR3.out (by intro h; injection h; omega))
   have B3:=hide ((B2.out.drew).grown GR3.out (B2.out.drew).size (fun k hk => by injection hk with hk; omega))
   have hs3:w.heap.size + 4 ≤ w3.heap.size:=by have := GR3.out.size; have:w2.drew.heap.size = w2.heap.size := rfl; omega
   have l1:w.heap.size < w3.heap.size:=by omega
   have l2:w.heap.size + 1 < w3.heap.size:=by omega
   have l3:w.heap.size + 1 + 1 < w3.heap.size:=by omega
   have l4:w.heap.size + 1 + 1 + 1 < w3.heap.size:=by omega
   obtain ⟨f0,f1,f2,f3⟩:=box3 V0.out
   obtain ⟨m0,m1,m2,m3,m4,m5⟩:=box5 V1.out
   obtain ⟨p0,p1,p2,p3⟩:=box3 V2.out
   obtain ⟨q0,q1,q2,q3,q4,q5⟩:=box5 V3.out
   have hfu:(d.lp:Int) ≤ 64:=by omega
   have HG3:=hide (HG.out.keep B3.out)
   obtain ⟨ab,ao,rfl,hcs⟩:=sign_at HG3.out.s hc
   obtain ⟨mb,mo,rfl,hcm⟩:=mate_at HG3.out.m (k := a) (by have := HM.out; omega)
   have lmb:mb < w3.heap.size:=lt_of_cell hcm
   have ia:(0:Int) ≤ (a:Int):=by omega
   have ib:(a:Int) < (m:Int):=by omega
   have hma:d.m a ≤ 256:=by have := hd.lt a ha1; omega
   obtain ⟨u,hu⟩:∃ u,u = d.m a := ⟨_,rfl⟩
   rw [← hu] at hcm hma
   have HUU:=hide hu
   clear hu
   go_wp2_with fail
   obtain ⟨bb,hbb⟩:∃ bb,bb = ((a:Int) % 2 == 1) := ⟨_,rfl⟩
   have HBB:=hide hbb
   rw [← hbb]
   clear hbb
   refine (shifted_any [c] (some ⟨w3.heap.size + 1,0,none⟩) 1 1 u _ ?_ (by omega) (by omega) (Pl.few_one c)).mono ?_
   ·exact one_ints' (w3.alloc (.cells #[.int .i64 1,.int .i64 (-1),.int .i64 0,.int .i64 (d.s c),.bool bb] 37)) c (by simp)
   rintro e w4 ⟨rfl,rfl⟩
   go_wp2_with fail
   obtain ⟨W5,hW5⟩:∃ W5:World,W5 = (w3.alloc (.cells #[.int .i64 1,.int .i64 (Pl.shf [c] u:Nat),.int .i64 0,.int .i64 (d.s c),.bool bb] 37)).alloc (.cells #[.int .i64 (c:Int)] 3) := ⟨_,rfl⟩
   rw [← hW5]
   obtain ⟨gi,hgi⟩:∃ gi,gi = w3.heap.size := ⟨_,rfl⟩
   rw [← hgi]
   have HU:=hide (show UC w gi (.slice (some ⟨ab,ao,none⟩) d.n cp) (.slice (some ⟨mb,mo,none⟩) m cq) (.int .i64 (d.lp:Int)) (.int .i64 1) (.int .i64 (Pl.shf [c] u:Nat)) (.int .i64 0) (.int .i64 (d.s c)) (.bool bb) W5 by
    rw [hW5]
    exact ⟨(V0.out.alloc _).alloc _,Row.alloc (row_at (vs := [.int .i64 1,.int .i64 (Pl.shf [c] u:Nat),.int .i64 0,.int .i64 (d.s c),.bool bb]) hgi) _,⟨_,(V2.out.alloc _).alloc _,rfl⟩,⟨_,(V3.out.alloc _).alloc _,rfl⟩,(B3.out.alloc (by omega) _).alloc (by simp; omega) _,by omega⟩)
   obtain ⟨LL,hLL⟩:∃ LL,LL = jn d.mt (d.mt.getD a 0) (d.mt.getD b 0) := ⟨_,rfl⟩
   have HMo:=hide (show OwnN W5 w1.heap.size g2 m c2 LL by rw [hW5,hLL]; exact (OWN3.out.alloc _).alloc _)
   have HLE:=hide (show ∀ k,LL.getD k 0 ≤ 1000 from fun k => by rw [hLL]; exact Nat.le_trans (jn_le (getD_le hd) (getD_le hd a) (getD_le hd b) k) (by omega))
   have HG5:=hide (show DgAt W5 (some ⟨ab,ao,none⟩) (some ⟨mb,mo,none⟩) d from HG.out.keep HU.out.bel)
   have HLL:=hide (show LL = unM d c by unfold unM; rw [← HA.out,← HB.out,if_neg HCL.out,hLL,HGA.out,HGB.out])
   have HE0:=hide (show uncC d c = 0 by unfold uncC; rw [if_pos HK.out,← HA.out,← HB.out,if_neg HCL.out])
   clear hW5 hgi hLL f0 f1 f2 f3 m0 m1 m2 m3 m4 m5 p0 p1 p2 p3 q0 q1 q2 q3 q4 q5 hcs hcm l1 l2 l3 l4
   have HCAP:=hide HMo.out.caps
   have KS:=hide (IntsAt.drew ((HG5.out.s).alloc (.cells #[.int .i64 (c:Int)] 3)))
   have KM:=hide (OwnN.ints (OwnN.drew' rfl (HMo.out.alloc (.cells #[.int .i64 (c:Int)] 3))))
   have KG:=hide (one_ints W5 c)
   go_region_held3 (fun w' => w'.cell? ⟨w.heap.size,0,none⟩ = some (.slice (some ⟨ab,ao,none⟩) d.n cp) ∧ w'.cell? ⟨gi,0,none⟩ = some (.int .i64 1) ∧ w'.cell? ⟨gi,1,none⟩ = some (.int .i64 (Pl.shf [c] u:Nat)) ∧ w'.cell? ⟨gi,2,none⟩ = some (.int .i64 0) ∧ w'.cell? ⟨gi,3,none⟩ = some (.int .i64 (d.s c)) ∧ w'.cell? ⟨gi,4,none⟩ = some (.bool bb) ∧
    w'.cell? ⟨w.heap.size + 1 + 1,0,none⟩ = some (cv w' ⟨w.heap.size + 1 + 1,0,none⟩) ∧ w'.cell? ⟨w.heap.size + 1 + 1,1,none⟩ = some (cv w' ⟨w.heap.size + 1 + 1,1,none⟩) ∧ w'.cell? ⟨w.heap.size + 1 + 1,2,none⟩ = some (cv w' ⟨w.heap.size + 1 + 1,2,none⟩) ∧
    w'.cell? ⟨w.heap.size + 1 + 1 + 1,0,none⟩ = some (cv w' ⟨w.heap.size + 1 + 1 + 1,0,none⟩) ∧ w'.cell? ⟨w.heap.size + 1 + 1 + 1,1,none⟩ = some (cv w' ⟨w.heap.size + 1 + 1 + 1,1,none⟩) ∧ w'.cell? ⟨w.heap.size + 1 + 1 + 1,2,none⟩ = some (cv w' ⟨w.heap.size + 1 + 1 + 1,2,none⟩) ∧ w'.cell? ⟨w.heap.size + 1 + 1 + 1,3,none⟩ = some (cv w' ⟨w.heap.size + 1 + 1 + 1,3,none⟩) ∧ w'.cell? ⟨w.heap.size + 1 + 1 + 1,4,none⟩ = some (cv w' ⟨w.heap.size + 1 + 1 + 1,4,none⟩) ∧
    (∀ o,w'.frozen? ⟨w.heap.size + 1 + 1,o,none⟩ = false) ∧ (∀ o,w'.frozen? ⟨w.heap.size + 1 + 1 + 1,o,none⟩ = false) ∧ UC w gi (.slice (some ⟨ab,ao,none⟩) d.n cp) (.slice (some ⟨mb,mo,none⟩) m cq) (.int .i64 (d.lp:Int)) (.int .i64 1) (.int .i64 (Pl.shf [c] u:Nat)) (.int .i64 0) (.int .i64 (d.s c)) (.bool bb) w')
    ((go_split_ands; refine UC.all ?_; (repeat (first | (with_reducible assumption) | (with_reducible exact HU.out) | (with_reducible refine UC.setD ?_ _ _) | (with_reducible refine UC.setM ?_ _ _) | (with_reducible refine UC.alloc ?_ _) | (with_reducible refine UC.drew ?_) | (with_reducible refine UC.below ?_ hb6)))))
    (first
      | (go_at_call 84
         refine Calls.mono (shrunk_sl [c] d.sg LL (d.lp:Int) (some ⟨ab,ao,none⟩) (some ⟨g2,0,none⟩) (some ⟨W5.heap.size,0,none⟩) d.n m 1 cp c2 1 _ ?_ ?_ ?_ (Pl.few_one c) HM.out HCAP.out.1 HCAP.out.2 (by omega) (by omega) HLE.out) ?_
         ·exact KS.out
         ·exact KM.out
         ·exact KG.out
         rintro e w6 ⟨A7,A8,c7,c8,rfl,owS,owM,hb6⟩
         have OWS:=hide owS
         have OWM:=hide owM
         clear owS owM))
   all_goals
    have HU6:=hide (show UC w gi (.slice (some ⟨ab,ao,none⟩) d.n cp) (.slice (some ⟨mb,mo,none⟩) m cq) (.int .i64 (d.lp:Int)) (.int .i64 1) (.int .i64 (Pl.shf [c] u:Nat)) (.int .i64 0) (.int .i64 (d.s c)) (.bool bb) w6 from by
     repeat (first | (with_reducible assumption) | (with_reducible exact HU.out) | (with_reducible refine UC.alloc ?_ _) | (with_reducible refine UC.drew ?_) | (with_reducible refine UC.below ?_ hb6)))
    have hb6s:W5.heap.size + 1 + 2 ≤ w6.heap.size ∨ True:=.inr trivial
    go_wp2
    obtain ⟨vs6,r6,l6⟩:=HU6.out.rd
    obtain ⟨us6,t6,k6⟩:=HU6.out.rm
    refine bodyPost_ret (v := .tuple #[.agg #[.slice A7 (Pl.left d.sg.length [c]).length c7,.slice A8 (4 * (Pl.left d.sg.length [c]).length) c8,.int .i64 (d.lp:Int)],.agg #[.int .i64 1,.int .i64 (Pl.shf [c] u:Nat),.int .i64 0,.int .i64 (d.s c),.bool bb],.int .i64 0]) ?_ rfl ?_
    ·obtain ⟨e0,e1,e2,e3,e4,e5,e6,e7⟩:=fin8 r6 t6 l6 k6 (by omega) (.slice A7 (Pl.left d.sg.length [c]).length c7) (.slice A8 (4 * (Pl.left d.sg.length [c]).length) c8) (.int .i64 (d.lp:Int)) (.int .i64 1) (.int .i64 (Pl.shf [c] u:Nat)) (.int .i64 0) (.int .i64 (d.s c)) (.bool bb)
     simp [results,Try.results50,go_sem,e0,e1,e2,e3,e4,e5,e6,e7]
    ·have hn7:(unD d c).n = (Pl.left d.sg.length [c]).length:=by unfold unD Pl.Dg.n; exact Pl.shrS_len _ _
     refine ⟨fun h => absurd HE0.out h,fun _ => ⟨A7,A8,c7,c8,?_,?_,?_⟩,below8 HU6.out.bel _ _ _ _ _ _ _ _⟩
     ·rw [hn7]
      unfold unD unI Mv.v
      simp only [← HA.out,← HB.out,if_neg HCL.out]
      simp only [← HUU.out]
      have e2:decide (a % 2 = 1) = bb:=by rw [HBB.out,Bool.eq_iff_iff]; simp; omega
      rw [e2]
     ·rw [hn7]
      refine own_intsT (base := (W5.alloc (.cells #[.int .i64 (c:Int)] 3)).drew.heap.size + 2) (e := 3) (c := c7) (own8 ?_ ?_ _ _ _ _ _ _ _ _)
      ·exact OWS.out
      ·have:=HU.out.i.lt; have := HU.out.lo; simp; omega
     ·rw [hn7]
      refine own_intsT (base := (W5.alloc (.cells #[.int .i64 (c:Int)] 3)).drew.heap.size + 2) (e := 3) (c := c8) (own8 ?_ ?_ _ _ _ _ _ _ _ _)
      ·rw [map_nats]
       have:=OWM.out
       rw [HLL.out] at this
       exact this
      ·have:=HU.out.i.lt; have := HU.out.lo; simp; omega
 ·rw [Pl.vb_false (show ¬ isK d c from hK)]
  unfold kinkE
  rw [if_neg (by decide)]
  have HK:=hide hK
  clear hK
  go_wp2
  refine bodyPost_ret (v := .tuple #[nilD,nilM,.int .i64 6]) ?_ rfl ?_
  ·obtain ⟨e0,e1,e2,e3,e4,e5,e6,e7⟩:=fin8 Y2.out Y3.out rfl rfl (by omega) (.slice none 0 0) (.slice none 0 0) (.int .i64 0) (.int .i64 0) (.int .i64 0) (.int .i64 0) (.int .i64 0) (.bool false)
   unfold nilD nilM
   simp [results,Try.results50,go_sem,e0,e1,e2,e3,e4,e5,e6,e7]
  ·have e6:uncC d c = 6:=by unfold uncC; rw [if_neg HK.out]
   refine ⟨fun _ => by rw [e6]; exact rfl,fun h => absurd h (by rw [e6]; decide),below8 B1.out _ _ _ _ _ _ _ _⟩
end Go.Proofs.Ytghdiolnonejaaa
end
section
namespace Go.Proofs.Ytghdiolnonejaaa
open Go Go.RowKit
def Gl (ps:List Int) (k i:Nat):List Nat := (List.range k).filter (fun c => decide (Pl.pv ps c = (i:Int)))
theorem Gl_succ (ps:List Int) (k i:Nat):Gl ps (k + 1) i = Gl ps k i ++ if Pl.pv ps k = (i:Int) then [k] else [] := by
 unfold Gl
 rw [List.range_succ,List.filter_append]
 by_cases h:Pl.pv ps k = (i:Int) <;> simp [List.filter_cons,h]
theorem Gl_len (ps:List Int) (k i:Nat):(Gl ps k i).length ≤ k := by
 unfold Gl
 have:=List.length_filter_le (fun c => decide (Pl.pv ps c = (i:Int))) (List.range k)
 simpa using this
theorem mem_Gl {ps:List Int} {k i c:Nat}:c ∈ Gl ps k i ↔ c < k ∧ Pl.pv ps c = (i:Int) := by unfold Gl; simp
def gv (vs:List Value) (i:Nat):Value := vs.getD i (.slice none 0 0)
structure Grp (w:World) (g P:Nat) (ps:List Int) (k:Nat) (vs:List Value) (W:World):Prop where
 len:vs.length = P
 row:Row W g 22 vs
 own:∀ i,i < P → W.ownsRow (g + 1) 3 1 (gv vs i) (Gl ps k i).length ((Gl ps k i).map (fun k:Nat => Value.int .i64 k))
 ne:∀ i j,i < P → j < P → i ≠ j → ∀ b,(gv vs i).ownBlock = some b → (gv vs j).ownBlock ≠ some b
 bel:Below w.heap.size w W
 lo:w.heap.size ≤ g
theorem Grp.below {w:World} {g P:Nat} {ps:List Int} {k:Nat} {vs:List Value} {W W':World} (h:Grp w g P ps k vs W) (hb:Below W.heap.size W W'):Grp w g P ps k vs W' :=
 ⟨h.len,h.row.below hb,fun i hi => own_keep (h.own i hi) hb (Nat.le_refl _),h.ne,h.bel.trans (hb.mono h.bel.size),h.lo⟩
theorem gv_set {vs:List Value} {q:Nat} (hq:q < vs.length) (v:Value) (i:Nat):gv (vs.set q v) i = if i = q then v else gv vs i := by
 unfold gv
 rw [List.getD_eq_getElem?_getD,List.getD_eq_getElem?_getD,List.getElem?_set]
 by_cases h:q = i
 ·subst h; simp [hq]
 ·rw [if_neg h,if_neg (fun e => h e.symm)]
theorem Grp.put {w:World} {g P:Nat} {ps:List Int} {k q:Nat} {vs:List Value} {W W2:World} {v':Value} {g':Nat} (h:Grp w g P ps k vs W) (hq:q < P) (hp:Pl.pv ps k = (q:Int))
 (own:W2.ownsRow (g + 1) 3 1 v' ((Gl ps k q).length + 1) ((Gl ps k q).map (fun k:Nat => Value.int .i64 k) ++ [.int .i64 (k:Nat)])) (gr:W.grownBy W2 (gv vs q).ownBlock) (hv:v'.ownBlock = some g') (hat:(gv vs q).ownBlock = some g' ∨ g' = W.heap.size) :
 Grp w g P ps (k + 1) (vs.set q v') (W2.setCell ⟨g,q,none⟩ v') := by
 have hql:q < vs.length:=by rw [h.len]; exact hq
 have hlt:=fun i hi => (h.own i hi).lt
 refine ⟨by rw [List.length_set,h.len],(h.row.grown gr ?_).set q v',fun i hi => ?_,fun i j hi hj hij b e1 e2 => ?_,(h.bel.grown gr h.bel.size (fun b e => by have := (hlt q hq b e).1; have := h.lo; omega)).setCell h.lo _,h.lo⟩
 ·intro e
  have:=(hlt q hq g e.symm).1
  omega
 ·rw [gv_set hql,Gl_succ]
  by_cases e:i = q
  ·subst e
   rw [if_pos rfl,if_pos hp]
   refine ownsRow_setCell_below ?_ (by show g < g + 1; omega) _
   simpa using own
  ·rw [if_neg e,if_neg (by omega),List.append_nil]
   refine ownsRow_setCell_below ((h.own i hi).kept gr ?_) (by show g < g + 1; omega) _
   cases hm:(gv vs i).ownBlock with
   | none => exact .inl rfl
   | some b => exact .inr (fun e' => h.ne i q hi hq e b hm e'.symm)
 ·rw [gv_set hql] at e1 e2
  by_cases ei:i = q
  ·rw [if_pos ei,hv] at e1
   injection e1 with e1
   rw [if_neg (by omega)] at e2
   rcases hat with e | e
   ·exact h.ne q j hq hj (by omega) g' e (by rw [e2,e1])
   ·have:=(hlt j hj b e2).2
    omega
  ·rw [if_neg ei] at e1
   by_cases ej:j = q
   ·rw [if_pos ej,hv] at e2
    injection e2 with e2
    rcases hat with e | e
    ·exact h.ne i q hi hq ei g' (by rw [e1,e2]) e
    ·have:=(hlt i hi b e1).2
     omega
   ·rw [if_neg ej] at e2
    exact h.ne i j hi hj hij b e1 e2
def GraphPost (d:Pl.Dg) (w:World) (e:Ending) (w':World):Prop :=
 ∃ (A:Option Addr) (c P:Nat) (ps:List Int) (vs:List Value),e = .returned (.slice A P c) ∧ P ≤ d.n ∧ Pl.LB d ps P ∧ (∀ a,a < d.n → 0 ≤ Pl.pv ps a) ∧ RowT w' 22 A P vs ∧ Vs w' vs ((List.range P).map (Gl ps d.n)) ∧ Below w.heap.size w w' ∧ Far w.heap.size vs
theorem run_rows (n:Nat) (hn:n ≤ 100000) (w:World):(Instr.makeSlice 56 (.int .i64 (n:Int)) (.int .i64 (n:Int))).run Try.prog w = .ok (.slice (some ⟨w.heap.size,0,none⟩) n n) (w.alloc (.cells (Array.replicate n (Value.slice none 0 0)) 22)) := by
 obtain ⟨i0,hi,hz0,hz1,hz2⟩:=info_parts rowInfo
 have:=run_make (P := Try.prog) w 56 22 i0 (.slice none 0 0) Try.underlying56 hi hz0 .i64 .i64 n n (by omega) (Int.le_refl _) (by rw [hz2]; omega) (by omega)
 rw [hz1,Nat.mul_one,Int.toNat_natCast,show madeCells (Value.cells (.slice none 0 0)) n = (List.replicate n (.slice none 0 0)).toArray from made_rep _ _] at this
 exact this
theorem Row.gv {W:World} {g:Nat} {t:TypeId} {vs:List Value} (h:Row W g t vs) {q:Nat} (hq:q < vs.length):W.cell? ⟨g,q,none⟩ = some (gv vs q) := by
 rw [h.cell hq]
 unfold Go.Proofs.Ytghdiolnonejaaa.gv
 rw [List.getD_eq_getElem?_getD,List.getElem?_eq_getElem hq]; rfl
theorem range_get {P i:Nat} {l:List Nat} {f:Nat → List Nat} (e:((List.range P).map f)[i]? = some l):i < P ∧ l = f i := by
 rw [List.getElem?_map] at e
 by_cases h:i < P
 ·rw [List.getElem?_range h] at e
  injection e with e
  exact ⟨h,e.symm⟩
 ·rw [List.getElem?_eq_none (by simpa using Nat.le_of_not_lt h)] at e
  cases e
theorem Grp.vs {w:World} {g P:Nat} {ps:List Int} {k:Nat} {vs:List Value} {W:World} (h:Grp w g P ps k vs W):Vs W vs ((List.range P).map (Gl ps k)) := by
 refine ⟨by simp [h.len],fun i l e => ?_⟩
 obtain ⟨hi,rfl⟩:=range_get e
 have ho:=h.own i hi
 obtain ⟨A,c,e2⟩:=owns_slice ho
 refine ⟨Go.Proofs.Ytghdiolnonejaaa.gv vs i,?_,A,c,e2,by rw [e2] at ho; exact own_rowT ho⟩
 unfold Go.Proofs.Ytghdiolnonejaaa.gv
 rw [List.getD_eq_getElem?_getD,List.getElem?_eq_getElem (by rw [h.len]; exact hi)]; rfl
theorem Grp.far {w:World} {g P:Nat} {ps:List Int} {k:Nat} {vs:List Value} {W:World} (h:Grp w g P ps k vs W):Far w.heap.size vs := fun v hv b hb => by
 obtain ⟨i,hi,e⟩:=List.mem_iff_getElem.1 hv
 have h1:Go.Proofs.Ytghdiolnonejaaa.gv vs i = v:=by unfold Go.Proofs.Ytghdiolnonejaaa.gv; rw [List.getD_eq_getElem?_getD,List.getElem?_eq_getElem hi]; exact e
 have h2:=(h.own i (by rw [← h.len]; exact hi)).lt b (by rw [h1]; exact hb)
 have:=h.lo
 omega
set_option maxRecDepth 100000 in
set_option maxHeartbeats 2000000 in
theorem graph_any (d:Pl.Dg) (hd:Pl.Valid d) (A B:Option Addr) (cp cq m:Nat) (w:World) (hm:m = 4 * d.n) (hg:DgAt w A B d) :
 Calls Try.prog 92 #[.agg #[.slice A d.n cp,.slice B m cq,.int .i64 d.lp]] w (GraphPost d w) := by
 have hn:=hd.wf.few
 have HM:=hide hm
 have HG:=hide hg
 have B0:=hide (show Below w.heap.size w (w.alloc (.cells #[.slice A d.n cp,.slice B m cq,.int .i64 d.lp] 24)) from (Below.refl _ _).alloc (Nat.le_refl _) _)
 have X0:=hide (show Row (w.alloc (.cells #[.slice A d.n cp,.slice B m cq,.int .i64 d.lp] 24)) w.heap.size 24 [.slice A d.n cp,.slice B m cq,.int .i64 d.lp] from Row.new w _ [_,_,_])
 clear hg
 subst hm
 go_enter Try.func92,Try.ntmps92
 go_wp2_with fail
 refine (valid_yes d hd A B cp cq _ _ rfl (HG.out.keep B0.out)).mono ?_
 rintro e w1 ⟨rfl,hb1⟩
 have B1:=hide (B0.out.trans (hb1.mono B0.out.size))
 have X1:=hide (X0.out.below hb1)
 obtain ⟨f0,f1,f2,f3⟩:=box3 X1.out
 clear hb1
 go_wp2_with fail
 refine (label_any d hd.wf A B cp cq _ _ (HG.out.keep B1.out)).mono ?_
 rintro e w2 ⟨ps,P,gp,rfl,hlb,hall,hgp,hir,hb2⟩
 have HLB:=hide hlb
 have HALL:=hide hall
 have hPn:=hlb.le
 have HIR:=hide hir
 have B2:=hide (B1.out.trans (hb2.mono B1.out.size))
 have hgps:=hir.lt
 have hps:ps.length = d.n:=hlb.len
 have HPS:=hide hps
 clear hlb hall hir hb2 f0 f1 f2 f3 hps
 have hmk:=fun W:World => run_rows P (by omega) W
 have H0:=hide (show Grp w w2.heap.size P ps 0 (List.replicate P (.slice none 0 0)) (w2.alloc (.cells (Array.replicate P (Value.slice none 0 0)) 22)) from by
  have hgv:∀ i,gv (List.replicate P (.slice none 0 0)) i = .slice none 0 0:=fun i => by
   unfold Go.Proofs.Ytghdiolnonejaaa.gv
   rw [List.getD_eq_getElem?_getD,List.getElem?_replicate]
   split <;> rfl
  refine ⟨by simp,?_,fun i hi => ?_,fun i j hi hj hij b e => ?_,B2.out.alloc B2.out.size _,B2.out.size⟩
  ·have:=Row.new w2 22 (List.replicate P (.slice none 0 0))
   simpa using this
  ·rw [hgv]; exact World.ownsRow_nil _ _ _ _
  ·rw [hgv] at e; simp [Value.ownBlock] at e)
 have HI0:=hide (show IRow (w2.alloc (.cells (Array.replicate P (Value.slice none 0 0)) 22)) gp ps from Row.alloc HIR.out _)
 go_wp2
 clear hmk
 obtain ⟨gg,hgg⟩:∃ gg,gg = w2.heap.size := ⟨_,rfl⟩
 rw [← hgg] at H0 hgps ⊢
 have HGG:=hide hgg
 go_loopg [20] d.n (fun g i wx => ∃ (k:Nat) (vs:List Value),k + g = d.n ∧ i = .int .i64 k ∧ Grp w gg P ps k vs wx ∧ IRow wx gp ps)
 case atStart => exact ⟨0,_,by omega,rfl,by have := H0.out; rw [hgg] at this ⊢; exact this,HI0.out⟩
 case round =>
  clear H0 HI0 HIR hgg HGG
  obtain ⟨k,vs,hkg,rfl,hgr,hir⟩:=hrel
  have HKG:=hide hkg
  have hkn:k ≤ d.n:=by omega
  have HGR:=hide hgr
  have HIR:=hide hir
  have hsz:=hgr.row.lt
  clear hkg hgr hir
  by_cases hlt:k < d.n
  ·have c1:=HIR.out.cell (i := k) (by rw [HPS.out]; exact hlt)
   have h0:=HALL.out k hlt
   have h1:=(HLB.out.lo k hlt).2
   obtain ⟨q,hq⟩:=Int.eq_ofNat_of_zero_le h0
   rw [hq] at c1 h1
   have HQ:=hide hq
   clear hq h0
   have hqP:q < P:=by omega
   have hql:q < vs.length:=by rw [HGR.out.len]; exact hqP
   have c2:=HGR.out.row.gv hql
   have fr2:=HGR.out.row.free q
   obtain ⟨vq,hvq⟩:∃ v,v = gv vs q := ⟨_,rfl⟩
   rw [← hvq] at c2
   have HVQ:=hide hvq
   clear hvq
   have iq:(0:Int) ≤ (q:Int):=by omega
   have jq:(q:Int) < (P:Int):=by omega
   have hgl:=Gl_len ps k q
   obtain ⟨i0,hi0,hz0,hz1,hz2⟩:=info_parts intInfo
   have OQ:=hide (show wr.ownsRow (gg + 1) 3 1 vq (Gl ps k q).length ((Gl ps k q).map (fun k:Nat => Value.int .i64 k)) by rw [HVQ.out]; exact HGR.out.own q hqP)
   go_wp2_with (at_builtin; refine wpList_append_lies _ (by rfl) _ _ 22 (by rfl) (gg + 1) 3 i0 (.int .i64 0) 1 8 Try.underlying22 hi0 hz0 hz1 hz2 rfl (by omega) vq (Gl ps k q).length _ (by rfl) (OQ.out.alloc _) ⟨wr.heap.size,0,none⟩ 1 1 [.int .i64 (k:Nat)] (by rfl) (by rfl) (one_news wr (.int .i64 (k:Nat))) (by simp [Value.oneCell']) (by omega) (by unfold maxLen; omega) (by omega) (by simp; omega) (wr.heap.size + 1) (by simp) ?_; intro g3 c3 w3 own3 grow3 at3 lt3; have hrow3 := Row.grown (Row.alloc HGR.out.row (.cells #[.int .i64 (k:Nat)] 3)) grow3 (by intro e; have := (OQ.out.lt gg e.symm).1; omega); have cq3 := hrow3.gv hql; have fq3 := hrow3.free q; have OWN3 := hide own3; have GR3 := hide grow3; have AT3 := hide at3; have HROW3 := hide hrow3; clear own3 grow3 at3 hrow3)
   go_roundg (gk - 1)
   case measure => have := HKG.out; omega
   case rel =>
    refine ⟨k + 1,vs.set q (.slice (some ⟨g3,0,none⟩) ((Gl ps k q).length + 1) c3),by have := HKG.out; omega,by go_num,?_,?_⟩
    ·exact Grp.put (HGR.out.below ((Below.refl _ _).alloc (Nat.le_refl _) (.cells #[.int .i64 (k:Nat)] 3))) hqP HQ.out OWN3.out (by rw [← HVQ.out]; exact GR3.out) rfl (by rw [← HVQ.out]; simpa using AT3.out)
    ·refine Row.other (Row.grown (Row.alloc HIR.out _) GR3.out ?_) (by show gp ≠ gg; omega) _
     intro e
     have:=(OQ.out.lt gp e.symm).1
     omega
  ·go_wp2
   go_ret
   obtain rfl:k = d.n := by omega
   refine ⟨_,_,P,ps,vs,rfl,hPn,HLB.out,HALL.out,?_,HGR.out.vs,HGR.out.bel,HGR.out.far⟩
   refine ⟨HGR.out.len,fun _ => ⟨gg,0,vs.toArray,(0,0),rfl,HGR.out.row,fun j u hu => ?_⟩⟩
   rw [Nat.zero_add]
   simpa using hu
end Go.Proofs.Ytghdiolnonejaaa
end
