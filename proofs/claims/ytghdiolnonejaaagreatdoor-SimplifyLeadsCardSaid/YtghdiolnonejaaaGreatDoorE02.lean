/-
 The texts Xe, Wn, Xc, Wy, Wq, Wz, Wv, Wi, Rl, Push, Knk, Kval, Ins.
-/
import Derived.Test.YtghdiolnonejaaaGreatDoorE01
import Derived.Deep.CutBlock
set_option linter.unusedVariables false
set_option linter.unusedSimpArgs false
section
namespace Go.Proofs.YtghdiolnonejaaaGreatDoor
open Go Go.RowKit
attribute [local go_sem ↓] Go.wp_at_zero Go.wp_at_succ
def eo (d:Pl.Dg) (o:Nat):Nat := if Pl.out d o = true then o else d.m o
def ei (d:Pl.Dg) (o:Nat):Nat := d.m (eo d o)
def pz (d:Pl.Dg) (o:Nat):List Value := [.int .i64 (Pl.tn (eo d o) 2:Nat),.int .i64 (eo d o:Nat),.int .i64 (ei d o:Nat),.int .i64 (Pl.tn (ei d o) 2:Nat)]
def zz:List Value := [.int .i64 0,.int .i64 0,.int .i64 0,.int .i64 0]
def isO (d:Pl.Dg) (o:Nat):Bool := eo d o % 2 == 1 && ei d o % 2 == 1
def isU (d:Pl.Dg) (o:Nat):Bool := eo d o % 2 == 0 && ei d o % 2 == 0
def th (d:Pl.Dg) (h k:Nat):Nat := if k = 0 then h else if k = 1 then Pl.nx d h else Pl.nx d (Pl.nx d h)
def is3 (d:Pl.Dg) (h:Nat):Prop := Pl.nx d (th d h 2) = h ∧ h / 4 ≠ th d h 1 / 4 ∧ th d h 1 / 4 ≠ th d h 2 / 4 ∧ h / 4 ≠ th d h 2 / 4
def cntO (d:Pl.Dg) (h k:Nat):Nat := ((List.range k).filter (fun i => isO d (th d h i))).length
def cntU (d:Pl.Dg) (h k:Nat):Nat := ((List.range k).filter (fun i => isU d (th d h i))).length
theorem cntO_s (d:Pl.Dg) (h k:Nat):cntO d h (k + 1) = cntO d h k + if isO d (th d h k) then 1 else 0 := by
 unfold cntO; rw [List.range_succ,List.filter_append,List.length_append]; congr 1; cases hh:isO d (th d h k) <;> simp [hh]
theorem cntU_s (d:Pl.Dg) (h k:Nat):cntU d h (k + 1) = cntU d h k + if isU d (th d h k) then 1 else 0 := by
 unfold cntU; rw [List.range_succ,List.filter_append,List.length_append]; congr 1; cases hh:isU d (th d h k) <;> simp [hh]
def isT (d:Pl.Dg) (h:Nat):Prop := is3 d h ∧ cntO d h 3 = 1 ∧ cntU d h 3 = 1
def edg (d:Pl.Dg) (h k:Nat):List Value := (if 0 < k then pz d (th d h 0) else zz) ++ (if 1 < k then pz d (th d h 1) else zz) ++ (if 2 < k then pz d (th d h 2) else zz)
theorem th_lt {d:Pl.Dg} (hd:Pl.Wf d) {h:Nat} (hh:h < 4 * d.n) (k:Nat):th d h k < 4 * d.n := by
 have a:∀ z,z < 4 * d.n → Pl.nx d z < 4 * d.n:=fun z hz => Pl.tn_lt (hd.lt z hz)
 unfold th
 split
 ·exact hh
 ·split
  ·exact a _ hh
  ·exact a _ (a _ hh)
theorem eo_lt {d:Pl.Dg} (hd:Pl.Wf d) {o:Nat} (hh:o < 4 * d.n):eo d o < 4 * d.n := by
 unfold eo; split
 ·exact hh
 ·exact hd.lt o hh
def TriPost (d:Pl.Dg) (h:Nat) (w:World) (e:Ending) (w':World):Prop :=
 (is3 d h → e = .returned (.tuple #[.agg (edg d h 3).toArray,.bool (Pl.vb (isT d h))])) ∧ (¬ is3 d h → e = .returned (.tuple #[.agg (edg d h 0).toArray,.bool false])) ∧ Below w.heap.size w w'
theorem box12 {W:World} {g:Nat} {t:TypeId} {a0 a1 a2 a3 a4 a5 a6 a7 a8 a9 a10 a11:Value} (h:Row W g t [a0,a1,a2,a3,a4,a5,a6,a7,a8,a9,a10,a11]) :
 W.cell? ⟨g,0,none⟩ = some a0 ∧ W.cell? ⟨g,1,none⟩ = some a1 ∧ W.cell? ⟨g,2,none⟩ = some a2 ∧ W.cell? ⟨g,3,none⟩ = some a3 ∧ W.cell? ⟨g,4,none⟩ = some a4 ∧ W.cell? ⟨g,5,none⟩ = some a5 ∧ W.cell? ⟨g,6,none⟩ = some a6 ∧ W.cell? ⟨g,7,none⟩ = some a7 ∧ W.cell? ⟨g,8,none⟩ = some a8 ∧ W.cell? ⟨g,9,none⟩ = some a9 ∧ W.cell? ⟨g,10,none⟩ = some a10 ∧ W.cell? ⟨g,11,none⟩ = some a11 ∧ ∀ o,W.frozen? ⟨g,o,none⟩ = false :=
 ⟨h.cell (i := 0) (by simp),h.cell (i := 1) (by simp),h.cell (i := 2) (by simp),h.cell (i := 3) (by simp),h.cell (i := 4) (by simp),h.cell (i := 5) (by simp),h.cell (i := 6) (by simp),h.cell (i := 7) (by simp),h.cell (i := 8) (by simp),h.cell (i := 9) (by simp),h.cell (i := 10) (by simp),h.cell (i := 11) (by simp),h.free⟩
theorem row12 {W:World} {g:Nat} {t:TypeId} {vs:List Value} (h:Row W g t vs) (l:vs.length = 12) (y0 y1 y2 y3 y4 y5 y6 y7 y8 y9 y10 y11:Value) :
 Row ((((((((((((W.setCell ⟨g,0,none⟩ y0).setCell ⟨g,1,none⟩ y1).setCell ⟨g,2,none⟩ y2).setCell ⟨g,3,none⟩ y3).setCell ⟨g,4,none⟩ y4).setCell ⟨g,5,none⟩ y5).setCell ⟨g,6,none⟩ y6).setCell ⟨g,7,none⟩ y7).setCell ⟨g,8,none⟩ y8).setCell ⟨g,9,none⟩ y9).setCell ⟨g,10,none⟩ y10).setCell ⟨g,11,none⟩ y11) g t [y0,y1,y2,y3,y4,y5,y6,y7,y8,y9,y10,y11] := by
 obtain ⟨a0,a1,a2,a3,a4,a5,a6,a7,a8,a9,a10,a11,rfl⟩:∃ a0 a1 a2 a3 a4 a5 a6 a7 a8 a9 a10 a11,vs = [a0,a1,a2,a3,a4,a5,a6,a7,a8,a9,a10,a11] := by
  match vs,l with
  | [a0,a1,a2,a3,a4,a5,a6,a7,a8,a9,a10,a11],_ => exact ⟨_,_,_,_,_,_,_,_,_,_,_,_,rfl⟩
 exact (((((((((((h.set 0 y0).set 1 y1).set 2 y2).set 3 y3).set 4 y4).set 5 y5).set 6 y6).set 7 y7).set 8 y8).set 9 y9).set 10 y10).set 11 y11
theorem below_set12 {w W:World} {g:Nat} (h:Below w.heap.size w W) (hg:w.heap.size ≤ g) (y0 y1 y2 y3 y4 y5 y6 y7 y8 y9 y10 y11:Value) :
 Below w.heap.size w ((((((((((((W.setCell ⟨g,0,none⟩ y0).setCell ⟨g,1,none⟩ y1).setCell ⟨g,2,none⟩ y2).setCell ⟨g,3,none⟩ y3).setCell ⟨g,4,none⟩ y4).setCell ⟨g,5,none⟩ y5).setCell ⟨g,6,none⟩ y6).setCell ⟨g,7,none⟩ y7).setCell ⟨g,8,none⟩ y8).setCell ⟨g,9,none⟩ y9).setCell ⟨g,10,none⟩ y10).setCell ⟨g,11,none⟩ y11) :=
 (((((((((((h.setCell hg _).setCell hg _).setCell hg _).setCell hg _).setCell hg _).setCell hg _).setCell hg _).setCell hg _).setCell hg _).setCell hg _).setCell hg _).setCell hg _
structure TB (w:World) (dv:List Value) (ev:List Value) (W:World):Prop where
 d:Row W w.heap.size 24 dv
 r:Row W (w.heap.size + 1) 137 (zz ++ zz ++ zz)
 e:Row W (w.heap.size + 1 + 1) 137 ev
 bel:Below w.heap.size w W
section
variable {w W W':World} {dv ev:List Value}
theorem TB.below (h:TB w dv ev W) (hb:Below W.heap.size W W'):TB w dv ev W' := ⟨h.d.below hb,h.r.below hb,h.e.below hb,h.bel.trans (hb.mono h.bel.size)⟩
theorem TB.set (h:TB w dv ev W) (o:Nat) (v:Value):TB w dv (ev.set o v) (W.setCell ⟨w.heap.size + 1 + 1,o,none⟩ v) :=
 ⟨h.d.other (by show _ ≠ w.heap.size + 1 + 1; omega) v,h.r.other (by show _ ≠ w.heap.size + 1 + 1; omega) v,h.e.set o v,h.bel.setCell (by show _ ≤ w.heap.size + 1 + 1; omega) v⟩
theorem TB.start (w:World) (x0 x1 x2:Value):TB w [x0,x1,x2] (zz ++ zz ++ zz) (((w.alloc (.cells #[x0,x1,x2] 24)).alloc (.cells #[.int .i64 0,.int .i64 0,.int .i64 0,.int .i64 0,.int .i64 0,.int .i64 0,.int .i64 0,.int .i64 0,.int .i64 0,.int .i64 0,.int .i64 0,.int .i64 0] 137)).alloc (.cells #[.int .i64 0,.int .i64 0,.int .i64 0,.int .i64 0,.int .i64 0,.int .i64 0,.int .i64 0,.int .i64 0,.int .i64 0,.int .i64 0,.int .i64 0,.int .i64 0] 137)) :=
 ⟨((row_at (vs := [_,_,_]) rfl).alloc _).alloc _,(row_at (vs := [_,_,_,_,_,_,_,_,_,_,_,_]) (by simp)).alloc _,row_at (vs := [_,_,_,_,_,_,_,_,_,_,_,_]) (by simp),(((Below.refl _ _).alloc (Nat.le_refl _) _).alloc (by simp) _).alloc (by simp; omega) _⟩
end
set_option maxRecDepth 100000 in
set_option maxHeartbeats 4000000 in
theorem triangle_any (d:Pl.Dg) (hd:Pl.Wf d) (A B:Option Addr) (cp cq m h:Nat) (w:World) (hm:m = 4 * d.n) (hg:DgAt w A B d) (hh:h < 4 * d.n) :
 Calls Tryz.prog 90 #[.agg #[.slice A d.n cp,.slice B m cq,.int .i64 d.lp],.int .i64 (h:Int)] w (TriPost d h w) := by
 have hn:=hd.few
 have HM:=hide hm
 have HG:=hide hg
 have hm2:m ≤ 256:=by omega
 clear hm hg
 have TB0:=hide (TB.start w (.slice A d.n cp) (.slice B m cq) (.int .i64 (d.lp:Int)))
 have h1:=th_lt hd hh 1
 have h2:=th_lt hd hh 2
 obtain ⟨i,hi⟩:∃ i,i = th d h 1 := ⟨_,rfl⟩
 obtain ⟨j,hj⟩:∃ j,j = th d h 2 := ⟨_,rfl⟩
 rw [← hi] at h1
 rw [← hj] at h2
 have HI:=hide (show Pl.nx d h = i by rw [hi]; rfl)
 have HJ:=hide (show Pl.nx d i = j by rw [hj,hi]; rfl)
 have IS:=hide (show is3 d h ↔ Pl.nx d j = h ∧ h / 4 ≠ i / 4 ∧ i / 4 ≠ j / 4 ∧ h / 4 ≠ j / 4 by unfold is3; rw [← hi,← hj])
 have HTI:=hide hi
 have HTJ:=hide hj
 clear hi hj
 have ih0:(0:Int) ≤ (h:Int) ∧ (h:Int) < (m:Int):=by have := HM.out; omega
 have ii0:(0:Int) ≤ (i:Int) ∧ (i:Int) < (m:Int):=by have := HM.out; omega
 have ij0:(0:Int) ≤ (j:Int) ∧ (j:Int) < (m:Int):=by have := HM.out; omega
 go_enter Tryz.func90,Tryz.ntmps90
 go_wp2_with fail
 have HGM:=hide (show ∀ W,Below w.heap.size w W → IntsAt W B m (nats d.mt) from fun W hb => by rw [HM.out]; exact (HG.out.keep hb).m)
 refine (next_i d hd B cq m (h:Int) _ HM.out ih0 (HGM.out _ TB0.out.bel)).mono ?_
 rintro e w1 ⟨rfl,rfl⟩
 rw [Int.toNat_natCast,HI.out]
 go_wp2_with fail
 refine (next_i d hd B cq m (i:Int) _ HM.out ii0 (HGM.out _ TB0.out.bel)).mono ?_
 rintro e w1 ⟨rfl,rfl⟩
 rw [Int.toNat_natCast,HJ.out]
 obtain ⟨v,hv⟩:∃ v,v = Pl.nx d j := ⟨_,rfl⟩
 rw [← hv] at IS
 have HV:=hide hv
 clear hv
 obtain ⟨W0,hW0⟩:∃ W0:World,W0 = ((w.alloc (.cells #[.slice A d.n cp,.slice B m cq,.int .i64 (d.lp:Int)] 24)).alloc (.cells #[.int .i64 0,.int .i64 0,.int .i64 0,.int .i64 0,.int .i64 0,.int .i64 0,.int .i64 0,.int .i64 0,.int .i64 0,.int .i64 0,.int .i64 0,.int .i64 0] 137)).alloc (.cells #[.int .i64 0,.int .i64 0,.int .i64 0,.int .i64 0,.int .i64 0,.int .i64 0,.int .i64 0,.int .i64 0,.int .i64 0,.int .i64 0,.int .i64 0,.int .i64 0] 137) := ⟨_,rfl⟩
 rw [← hW0] at TB0 ⊢
 clear hW0
 go_upto_region 4 with fail
 go_cut [48] (fun s48 wx => s48 = .bool (!Pl.vb (is3 d h)) ∧ wx = W0)
 case first =>
  obtain ⟨d0,d1,d2,d3⟩:=box3 TB0.out.d
  go_wp2_with fail
  refine (next_i d hd B cq m (j:Int) _ HM.out ij0 (HGM.out _ TB0.out.bel)).mono ?_
  rintro e w1 ⟨rfl,rfl⟩
  rw [Int.toNat_natCast,← HV.out]
  by_cases c1:v = h
  ·have t1:((v:Int) != (h:Int)) = false:=by rw [bne_eq_false_iff_eq]; omega
   by_cases c2:h / 4 = i / 4
   ·have t2:((h:Int) / 4 == (i:Int) / 4) = true:=by rw [beq_iff_eq]; omega
    have E:=hide (Pl.vb_false (fun h => (IS.out.1 h).2.1 c2))
    clear c1 c2
    go_wp2_with fail
    go_meet
    exact ⟨by rw [E.out]; rfl,rfl⟩
   ·have t2:((h:Int) / 4 == (i:Int) / 4) = false:=by rw [beq_eq_false_iff_ne]; omega
    by_cases c3:i / 4 = j / 4
    ·have t3:((i:Int) / 4 == (j:Int) / 4) = true:=by rw [beq_iff_eq]; omega
     have E:=hide (Pl.vb_false (fun h => (IS.out.1 h).2.2.1 c3))
     clear c1 c2 c3
     go_wp2_with fail
     go_meet
     exact ⟨by rw [E.out]; rfl,rfl⟩
    ·have t3:((i:Int) / 4 == (j:Int) / 4) = false:=by rw [beq_eq_false_iff_ne]; omega
     by_cases c4:h / 4 = j / 4
     ·have t4:((h:Int) / 4 == (j:Int) / 4) = true:=by rw [beq_iff_eq]; omega
      have E:=hide (Pl.vb_false (fun h => (IS.out.1 h).2.2.2 c4))
      clear c1 c2 c3 c4
      go_wp2_with fail
      go_meet
      exact ⟨by rw [E.out]; rfl,rfl⟩
     ·have t4:((h:Int) / 4 == (j:Int) / 4) = false:=by rw [beq_eq_false_iff_ne]; omega
      have E:=hide (Pl.vb_true (IS.out.2 ⟨c1,c2,c3,c4⟩))
      clear c1 c2 c3 c4
      go_wp2_with fail
      go_meet
      exact ⟨by rw [E.out]; rfl,rfl⟩
  ·have t1:((v:Int) != (h:Int)) = true:=by rw [bne_iff_ne]; omega
   have E:=hide (Pl.vb_false (fun h => c1 (IS.out.1 h).1))
   clear c1
   go_wp2_with fail
   go_meet
   exact ⟨by rw [E.out]; rfl,rfl⟩
 case rest =>
  obtain ⟨rfl,rfl⟩:=hcut
  by_cases h3:is3 d h
  ·have H3:=hide h3
   rw [Pl.vb_true h3]
   clear h3
   have HTH0:=hide (show h = th d h 0 from rfl)
   obtain ⟨d0,d1,d2,d3⟩:=box3 TB0.out.d
   go_wp2
   go_loopg [9,10,54] 3 (fun g s9 s10 s54 wx => ∃ k:Nat,k + g = 3 ∧ s54 = .int .i64 k ∧ s9 = .int .i64 (cntO d h k:Nat) ∧ s10 = .int .i64 (cntU d h k:Nat) ∧ TB w [.slice A d.n cp,.slice B m cq,.int .i64 (d.lp:Int)] (edg d h k) wx)
   case atStart => exact ⟨0,rfl,rfl,rfl,rfl,TB0.out⟩
   case round =>
    clear TB0 d0 d1 d2 d3
    obtain ⟨k,hkg,rfl,rfl,rfl,htb⟩:=hrel
    have HKG:=hide hkg
    have TBk:=hide htb
    clear htb
    have hk4:k = 0 ∨ k = 1 ∨ k = 2 ∨ k = 3:=by omega
    clear hkg
    have i0:∀ W,(Instr.index 153 (.agg #[.int .i64 (h:Int),.int .i64 (i:Int),.int .i64 (j:Int)]) (.int .i64 0)).run Tryz.prog W = .ok (.int .i64 (h:Int)) W:=fun _ => by kernel_rfl
    have i1:∀ W,(Instr.index 153 (.agg #[.int .i64 (h:Int),.int .i64 (i:Int),.int .i64 (j:Int)]) (.int .i64 1)).run Tryz.prog W = .ok (.int .i64 (i:Int)) W:=fun _ => by kernel_rfl
    have i2:∀ W,(Instr.index 153 (.agg #[.int .i64 (h:Int),.int .i64 (i:Int),.int .i64 (j:Int)]) (.int .i64 2)).run Tryz.prog W = .ok (.int .i64 (j:Int)) W:=fun _ => by kernel_rfl
    rcases hk4 with rfl | rfl | rfl | rfl
    ·-- round 0
     have hO:h < 4 * d.n:=by first | exact hh | exact h1 | exact h2
     have EO:=hide (eo_lt hd hO)
     obtain ⟨d0,d1,d2,d3⟩:=box3 TBk.out.d
     go_wp2_with fail
     refine (out2_n d A B d.n cp m cq (.int .i64 (d.lp:Int)) h _ rfl hO (by omega) (HG.out.keep TBk.out.bel).s).mono ?_
     rintro e w1 ⟨rfl,hb1⟩
     have TB1:=hide (TBk.out.below hb1)
     clear hb1 d0 d1 d2 d3
     go_upto_if 61 with fail
     go_cut [12] (fun s12 wx => s12 = .int .i64 (eo d h:Nat) ∧ TB w [.slice A d.n cp,.slice B m cq,.int .i64 (d.lp:Int)] (edg d h 0) wx)
     case first =>
      cases ho:Pl.out d h with
      | true =>
        have E:=hide (show eo d h = h by unfold eo; rw [if_pos ho])
        clear ho
        go_wp2_with fail
        go_meet
        exact ⟨by rw [E.out],TB1.out⟩
      | false =>
        have E:=hide (show eo d h = d.m h by unfold eo; rw [if_neg (by rw [ho]; decide)])
        clear ho
        obtain ⟨d0,d1,d2,d3⟩:=box3 TB1.out.d
        obtain ⟨mb,mo,rfl,cm⟩:=mate_at (HG.out.keep TB1.out.bel).m hO
        have io0:(0:Int) ≤ (h:Int):=by omega
        have io1:(h:Int) < (m:Int):=by have := HM.out; omega
        go_wp2_with fail
        go_meet
        exact ⟨by rw [E.out],TB1.out⟩
     case rest =>
      obtain ⟨rfl,htb⟩:=hcut
      have TB2:=hide htb
      clear htb TBk TB1
      have heo:=EO.out
      obtain ⟨e,he⟩:∃ e,e = eo d h := ⟨_,rfl⟩
      rw [← he] at heo ⊢
      have hei:=hd.lt e heo
      have HE:=hide he
      clear he
      obtain ⟨d0,d1,d2,d3⟩:=box3 TB2.out.d
      obtain ⟨mb,mo,rfl,cm⟩:=mate_at (HG.out.keep TB2.out.bel).m heo
      obtain ⟨u,hu⟩:∃ u,u = d.m e := ⟨_,rfl⟩
      rw [← hu] at cm hei
      have HU:=hide (show ei d h = u by unfold ei; rw [← HE.out,hu])
      clear hu
      have io0:(0:Int) ≤ (e:Int):=by omega
      have io1:(e:Int) < (m:Int):=by have := HM.out; omega
      go_wp2_with fail
      refine (opp_i (e:Int) _ (by omega)).mono ?_
      rintro en w1 ⟨rfl,rfl⟩
      go_wp2_with fail
      refine (opp_i (u:Int) _ (by omega)).mono ?_
      rintro en w1 ⟨rfl,rfl⟩
      try rw [Int.toNat_natCast]
      have EQ:=hide (show edg d h (0 + 1) = ((((edg d h 0).set (4 * 0) (.int .i64 (Pl.tn e 2:Nat))).set (4 * 0 + 1) (.int .i64 (e:Int))).set (4 * 0 + 2) (.int .i64 (u:Int))).set (4 * 0 + 3) (.int .i64 (Pl.tn u 2:Nat)) by
       have hz:pz d h = [.int .i64 (Pl.tn e 2:Nat),.int .i64 (e:Int),.int .i64 (u:Int),.int .i64 (Pl.tn u 2:Nat)]:=by unfold pz; rw [HU.out,← HE.out]
       simp only [edg,← HTH0.out,← HTI.out,← HTJ.out,hz]
       rfl)
      have CO:=hide (show cntO d h (0 + 1) = cntO d h 0 + if isO d h then 1 else 0 by rw [cntO_s]; simp only [← HTH0.out,← HTI.out,← HTJ.out])
      have CU:=hide (show cntU d h (0 + 1) = cntU d h 0 + if isU d h then 1 else 0 by rw [cntU_s]; simp only [← HTH0.out,← HTI.out,← HTJ.out])
      have IO:=hide (show isO d h = (e % 2 == 1 && u % 2 == 1) by unfold isO; rw [HU.out,← HE.out])
      have IU:=hide (show isU d h = (e % 2 == 0 && u % 2 == 0) by unfold isU; rw [HU.out,← HE.out])
      obtain ⟨kO,hkO⟩:∃ c,c = cntO d h 0 := ⟨_,rfl⟩
      obtain ⟨kU,hkU⟩:∃ c,c = cntU d h 0 := ⟨_,rfl⟩
      rw [← hkO] at CO ⊢
      rw [← hkU] at CU ⊢
      have bO:kO ≤ 3:=by rw [hkO]; unfold cntO; have := List.length_filter_le (fun i => isO d (th d h i)) (List.range 0); simp at this ⊢; try omega
      have bU:kU ≤ 3:=by rw [hkU]; unfold cntU; have := List.length_filter_le (fun i => isU d (th d h i)) (List.range 0); simp at this ⊢; try omega
      clear hkO hkU
      obtain ⟨e0,e1,e2,e3,e4,e5,e6,e7,e8,e9,e10,e11,ef⟩:=box12 TB2.out.e
      by_cases q0:e % 2 = 1 ∧ u % 2 = 1
      ·obtain ⟨qa,qb⟩:=q0
       have t1:((e:Int) % 2 == 1) = true:=by rw [beq_iff_eq]; omega
       have t2:((u:Int) % 2 == 1) = true:=by rw [beq_iff_eq]; omega
       have t3:((e:Int) % 2 == 0) = false:=by rw [beq_eq_false_iff_ne]; omega
       have t4:((u:Int) % 2 == 0) = false:=by rw [beq_eq_false_iff_ne]; omega
       have FO:=hide (show cntO d h (0 + 1) = kO + 1 by rw [CO.out,IO.out,qa,qb]; rfl)
       have FU:=hide (show cntU d h (0 + 1) = kU + 0 by rw [CU.out,IU.out,qa,qb]; rfl)
       clear qa qb
       go_wp2_with fail
       go_roundg (gk - 1)
       case measure => have := HKG.out; omega
       case rel =>
        refine ⟨0 + 1,by have := HKG.out; omega,by go_num,by rw [FO.out]; (try first | rfl | go_num),by rw [FU.out]; (try first | rfl | go_num),?_⟩
        rw [EQ.out]
        exact (((TB2.out.set _ _).set _ _).set _ _).set _ _
      by_cases q1:e % 2 = 1 ∧ u % 2 = 0
      ·obtain ⟨qa,qb⟩:=q1
       have t1:((e:Int) % 2 == 1) = true:=by rw [beq_iff_eq]; omega
       have t2:((u:Int) % 2 == 1) = false:=by rw [beq_eq_false_iff_ne]; omega
       have t3:((e:Int) % 2 == 0) = false:=by rw [beq_eq_false_iff_ne]; omega
       have t4:((u:Int) % 2 == 0) = true:=by rw [beq_iff_eq]; omega
       have FO:=hide (show cntO d h (0 + 1) = kO + 0 by rw [CO.out,IO.out,qa,qb]; rfl)
       have FU:=hide (show cntU d h (0 + 1) = kU + 0 by rw [CU.out,IU.out,qa,qb]; rfl)
       clear qa qb
       go_wp2_with fail
       go_roundg (gk - 1)
       case measure => have := HKG.out; omega
       case rel =>
        refine ⟨0 + 1,by have := HKG.out; omega,by go_num,by rw [FO.out]; (try first | rfl | go_num),by rw [FU.out]; (try first | rfl | go_num),?_⟩
        rw [EQ.out]
        exact (((TB2.out.set _ _).set _ _).set _ _).set _ _
      by_cases q2:e % 2 = 0 ∧ u % 2 = 1
      ·obtain ⟨qa,qb⟩:=q2
       have t1:((e:Int) % 2 == 1) = false:=by rw [beq_eq_false_iff_ne]; omega
       have t2:((u:Int) % 2 == 1) = true:=by rw [beq_iff_eq]; omega
       have t3:((e:Int) % 2 == 0) = true:=by rw [beq_iff_eq]; omega
       have t4:((u:Int) % 2 == 0) = false:=by rw [beq_eq_false_iff_ne]; omega
       have FO:=hide (show cntO d h (0 + 1) = kO + 0 by rw [CO.out,IO.out,qa,qb]; rfl)
       have FU:=hide (show cntU d h (0 + 1) = kU + 0 by rw [CU.out,IU.out,qa,qb]; rfl)
       clear qa qb
       go_wp2_with fail
       go_roundg (gk - 1)
       case measure => have := HKG.out; omega
       case rel =>
        refine ⟨0 + 1,by have := HKG.out; omega,by go_num,by rw [FO.out]; (try first | rfl | go_num),by rw [FU.out]; (try first | rfl | go_num),?_⟩
        rw [EQ.out]
        exact (((TB2.out.set _ _).set _ _).set _ _).set _ _
      by_cases q3:e % 2 = 0 ∧ u % 2 = 0
      ·obtain ⟨qa,qb⟩:=q3
       have t1:((e:Int) % 2 == 1) = false:=by rw [beq_eq_false_iff_ne]; omega
       have t2:((u:Int) % 2 == 1) = false:=by rw [beq_eq_false_iff_ne]; omega
       have t3:((e:Int) % 2 == 0) = true:=by rw [beq_iff_eq]; omega
       have t4:((u:Int) % 2 == 0) = true:=by rw [beq_iff_eq]; omega
       have FO:=hide (show cntO d h (0 + 1) = kO + 0 by rw [CO.out,IO.out,qa,qb]; rfl)
       have FU:=hide (show cntU d h (0 + 1) = kU + 1 by rw [CU.out,IU.out,qa,qb]; rfl)
       clear qa qb
       go_wp2_with fail
       go_roundg (gk - 1)
       case measure => have := HKG.out; omega
       case rel =>
        refine ⟨0 + 1,by have := HKG.out; omega,by go_num,by rw [FO.out]; (try first | rfl | go_num),by rw [FU.out]; (try first | rfl | go_num),?_⟩
        rw [EQ.out]
        exact (((TB2.out.set _ _).set _ _).set _ _).set _ _
      exfalso; omega
    ·-- round 1
     have hO:i < 4 * d.n:=by first | exact hh | exact h1 | exact h2
     have EO:=hide (eo_lt hd hO)
     obtain ⟨d0,d1,d2,d3⟩:=box3 TBk.out.d
     go_wp2_with fail
     refine (out2_n d A B d.n cp m cq (.int .i64 (d.lp:Int)) i _ rfl hO (by omega) (HG.out.keep TBk.out.bel).s).mono ?_
     rintro e w1 ⟨rfl,hb1⟩
     have TB1:=hide (TBk.out.below hb1)
     clear hb1 d0 d1 d2 d3
     go_upto_if 61 with fail
     go_cut [12] (fun s12 wx => s12 = .int .i64 (eo d i:Nat) ∧ TB w [.slice A d.n cp,.slice B m cq,.int .i64 (d.lp:Int)] (edg d h 1) wx)
     case first =>
      cases ho:Pl.out d i with
      | true =>
        have E:=hide (show eo d i = i by unfold eo; rw [if_pos ho])
        clear ho
        go_wp2_with fail
        go_meet
        exact ⟨by rw [E.out],TB1.out⟩
      | false =>
        have E:=hide (show eo d i = d.m i by unfold eo; rw [if_neg (by rw [ho]; decide)])
        clear ho
        obtain ⟨d0,d1,d2,d3⟩:=box3 TB1.out.d
        obtain ⟨mb,mo,rfl,cm⟩:=mate_at (HG.out.keep TB1.out.bel).m hO
        have io0:(0:Int) ≤ (i:Int):=by omega
        have io1:(i:Int) < (m:Int):=by have := HM.out; omega
        go_wp2_with fail
        go_meet
        exact ⟨by rw [E.out],TB1.out⟩
     case rest =>
      obtain ⟨rfl,htb⟩:=hcut
      have TB2:=hide htb
      clear htb TBk TB1
      have heo:=EO.out
      obtain ⟨e,he⟩:∃ e,e = eo d i := ⟨_,rfl⟩
      rw [← he] at heo ⊢
      have hei:=hd.lt e heo
      have HE:=hide he
      clear he
      obtain ⟨d0,d1,d2,d3⟩:=box3 TB2.out.d
      obtain ⟨mb,mo,rfl,cm⟩:=mate_at (HG.out.keep TB2.out.bel).m heo
      obtain ⟨u,hu⟩:∃ u,u = d.m e := ⟨_,rfl⟩
      rw [← hu] at cm hei
      have HU:=hide (show ei d i = u by unfold ei; rw [← HE.out,hu])
      clear hu
      have io0:(0:Int) ≤ (e:Int):=by omega
      have io1:(e:Int) < (m:Int):=by have := HM.out; omega
      go_wp2_with fail
      refine (opp_i (e:Int) _ (by omega)).mono ?_
      rintro en w1 ⟨rfl,rfl⟩
      go_wp2_with fail
      refine (opp_i (u:Int) _ (by omega)).mono ?_
      rintro en w1 ⟨rfl,rfl⟩
      try rw [Int.toNat_natCast]
      have EQ:=hide (show edg d h (1 + 1) = ((((edg d h 1).set (4 * 1) (.int .i64 (Pl.tn e 2:Nat))).set (4 * 1 + 1) (.int .i64 (e:Int))).set (4 * 1 + 2) (.int .i64 (u:Int))).set (4 * 1 + 3) (.int .i64 (Pl.tn u 2:Nat)) by
       have hz:pz d i = [.int .i64 (Pl.tn e 2:Nat),.int .i64 (e:Int),.int .i64 (u:Int),.int .i64 (Pl.tn u 2:Nat)]:=by unfold pz; rw [HU.out,← HE.out]
       simp only [edg,← HTH0.out,← HTI.out,← HTJ.out,hz]
       rfl)
      have CO:=hide (show cntO d h (1 + 1) = cntO d h 1 + if isO d i then 1 else 0 by rw [cntO_s]; simp only [← HTH0.out,← HTI.out,← HTJ.out])
      have CU:=hide (show cntU d h (1 + 1) = cntU d h 1 + if isU d i then 1 else 0 by rw [cntU_s]; simp only [← HTH0.out,← HTI.out,← HTJ.out])
      have IO:=hide (show isO d i = (e % 2 == 1 && u % 2 == 1) by unfold isO; rw [HU.out,← HE.out])
      have IU:=hide (show isU d i = (e % 2 == 0 && u % 2 == 0) by unfold isU; rw [HU.out,← HE.out])
      obtain ⟨kO,hkO⟩:∃ c,c = cntO d h 1 := ⟨_,rfl⟩
      obtain ⟨kU,hkU⟩:∃ c,c = cntU d h 1 := ⟨_,rfl⟩
      rw [← hkO] at CO ⊢
      rw [← hkU] at CU ⊢
      have bO:kO ≤ 3:=by rw [hkO]; unfold cntO; have := List.length_filter_le (fun i => isO d (th d h i)) (List.range 1); simp at this ⊢; try omega
      have bU:kU ≤ 3:=by rw [hkU]; unfold cntU; have := List.length_filter_le (fun i => isU d (th d h i)) (List.range 1); simp at this ⊢; try omega
      clear hkO hkU
      obtain ⟨e0,e1,e2,e3,e4,e5,e6,e7,e8,e9,e10,e11,ef⟩:=box12 TB2.out.e
      by_cases q0:e % 2 = 1 ∧ u % 2 = 1
      ·obtain ⟨qa,qb⟩:=q0
       have t1:((e:Int) % 2 == 1) = true:=by rw [beq_iff_eq]; omega
       have t2:((u:Int) % 2 == 1) = true:=by rw [beq_iff_eq]; omega
       have t3:((e:Int) % 2 == 0) = false:=by rw [beq_eq_false_iff_ne]; omega
       have t4:((u:Int) % 2 == 0) = false:=by rw [beq_eq_false_iff_ne]; omega
       have FO:=hide (show cntO d h (1 + 1) = kO + 1 by rw [CO.out,IO.out,qa,qb]; rfl)
       have FU:=hide (show cntU d h (1 + 1) = kU + 0 by rw [CU.out,IU.out,qa,qb]; rfl)
       clear qa qb
       go_wp2_with fail
       go_roundg (gk - 1)
       case measure => have := HKG.out; omega
       case rel =>
        refine ⟨1 + 1,by have := HKG.out; omega,by go_num,by rw [FO.out]; (try first | rfl | go_num),by rw [FU.out]; (try first | rfl | go_num),?_⟩
        rw [EQ.out]
        exact (((TB2.out.set _ _).set _ _).set _ _).set _ _
      by_cases q1:e % 2 = 1 ∧ u % 2 = 0
      ·obtain ⟨qa,qb⟩:=q1
       have t1:((e:Int) % 2 == 1) = true:=by rw [beq_iff_eq]; omega
       have t2:((u:Int) % 2 == 1) = false:=by rw [beq_eq_false_iff_ne]; omega
       have t3:((e:Int) % 2 == 0) = false:=by rw [beq_eq_false_iff_ne]; omega
       have t4:((u:Int) % 2 == 0) = true:=by rw [beq_iff_eq]; omega
       have FO:=hide (show cntO d h (1 + 1) = kO + 0 by rw [CO.out,IO.out,qa,qb]; rfl)
       have FU:=hide (show cntU d h (1 + 1) = kU + 0 by rw [CU.out,IU.out,qa,qb]; rfl)
       clear qa qb
       go_wp2_with fail
       go_roundg (gk - 1)
       case measure => have := HKG.out; omega
       case rel =>
        refine ⟨1 + 1,by have := HKG.out; omega,by go_num,by rw [FO.out]; (try first | rfl | go_num),by rw [FU.out]; (try first | rfl | go_num),?_⟩
        rw [EQ.out]
        exact (((TB2.out.set _ _).set _ _).set _ _).set _ _
      by_cases q2:e % 2 = 0 ∧ u % 2 = 1
      ·obtain ⟨qa,qb⟩:=q2
       have t1:((e:Int) % 2 == 1) = false:=by rw [beq_eq_false_iff_ne]; omega
       have t2:((u:Int) % 2 == 1) = true:=by rw [beq_iff_eq]; omega
       have t3:((e:Int) % 2 == 0) = true:=by rw [beq_iff_eq]; omega
       have t4:((u:Int) % 2 == 0) = false:=by rw [beq_eq_false_iff_ne]; omega
       have FO:=hide (show cntO d h (1 + 1) = kO + 0 by rw [CO.out,IO.out,qa,qb]; rfl)
       have FU:=hide (show cntU d h (1 + 1) = kU + 0 by rw [CU.out,IU.out,qa,qb]; rfl)
       clear qa qb
       go_wp2_with fail
       go_roundg (gk - 1)
       case measure => have := HKG.out; omega
       case rel =>
        refine ⟨1 + 1,by have := HKG.out; omega,by go_num,by rw [FO.out]; (try first | rfl | go_num),by rw [FU.out]; (try first | rfl | go_num),?_⟩
        rw [EQ.out]
        exact (((TB2.out.set _ _).set _ _).set _ _).set _ _
      by_cases q3:e % 2 = 0 ∧ u % 2 = 0
      ·obtain ⟨qa,qb⟩:=q3
       have t1:((e:Int) % 2 == 1) = false:=by rw [beq_eq_false_iff_ne]; omega
       have t2:((u:Int) % 2 == 1) = false:=by rw [beq_eq_false_iff_ne]; omega
       have t3:((e:Int) % 2 == 0) = true:=by rw [beq_iff_eq]; omega
       have t4:((u:Int) % 2 == 0) = true:=by rw [beq_iff_eq]; omega
       have FO:=hide (show cntO d h (1 + 1) = kO + 0 by rw [CO.out,IO.out,qa,qb]; rfl)
       have FU:=hide (show cntU d h (1 + 1) = kU + 1 by rw [CU.out,IU.out,qa,qb]; rfl)
       clear qa qb
       go_wp2_with fail
       go_roundg (gk - 1)
       case measure => have := HKG.out; omega
       case rel =>
        refine ⟨1 + 1,by have := HKG.out; omega,by go_num,by rw [FO.out]; (try first | rfl | go_num),by rw [FU.out]; (try first | rfl | go_num),?_⟩
        rw [EQ.out]
        exact (((TB2.out.set _ _).set _ _).set _ _).set _ _
      exfalso; omega
    ·-- round 2
     have hO:j < 4 * d.n:=by first | exact hh | exact h1 | exact h2
     have EO:=hide (eo_lt hd hO)
     obtain ⟨d0,d1,d2,d3⟩:=box3 TBk.out.d
     go_wp2_with fail
     refine (out2_n d A B d.n cp m cq (.int .i64 (d.lp:Int)) j _ rfl hO (by omega) (HG.out.keep TBk.out.bel).s).mono ?_
     rintro e w1 ⟨rfl,hb1⟩
     have TB1:=hide (TBk.out.below hb1)
     clear hb1 d0 d1 d2 d3
     go_upto_if 61 with fail
     go_cut [12] (fun s12 wx => s12 = .int .i64 (eo d j:Nat) ∧ TB w [.slice A d.n cp,.slice B m cq,.int .i64 (d.lp:Int)] (edg d h 2) wx)
     case first =>
      cases ho:Pl.out d j with
      | true =>
        have E:=hide (show eo d j = j by unfold eo; rw [if_pos ho])
        clear ho
        go_wp2_with fail
        go_meet
        exact ⟨by rw [E.out],TB1.out⟩
      | false =>
        have E:=hide (show eo d j = d.m j by unfold eo; rw [if_neg (by rw [ho]; decide)])
        clear ho
        obtain ⟨d0,d1,d2,d3⟩:=box3 TB1.out.d
        obtain ⟨mb,mo,rfl,cm⟩:=mate_at (HG.out.keep TB1.out.bel).m hO
        have io0:(0:Int) ≤ (j:Int):=by omega
        have io1:(j:Int) < (m:Int):=by have := HM.out; omega
        go_wp2_with fail
        go_meet
        exact ⟨by rw [E.out],TB1.out⟩
     case rest =>
      obtain ⟨rfl,htb⟩:=hcut
      have TB2:=hide htb
      clear htb TBk TB1
      have heo:=EO.out
      obtain ⟨e,he⟩:∃ e,e = eo d j := ⟨_,rfl⟩
      rw [← he] at heo ⊢
      have hei:=hd.lt e heo
      have HE:=hide he
      clear he
      obtain ⟨d0,d1,d2,d3⟩:=box3 TB2.out.d
      obtain ⟨mb,mo,rfl,cm⟩:=mate_at (HG.out.keep TB2.out.bel).m heo
      obtain ⟨u,hu⟩:∃ u,u = d.m e := ⟨_,rfl⟩
      rw [← hu] at cm hei
      have HU:=hide (show ei d j = u by unfold ei; rw [← HE.out,hu])
      clear hu
      have io0:(0:Int) ≤ (e:Int):=by omega
      have io1:(e:Int) < (m:Int):=by have := HM.out; omega
      go_wp2_with fail
      refine (opp_i (e:Int) _ (by omega)).mono ?_
      rintro en w1 ⟨rfl,rfl⟩
      go_wp2_with fail
      refine (opp_i (u:Int) _ (by omega)).mono ?_
      rintro en w1 ⟨rfl,rfl⟩
      try rw [Int.toNat_natCast]
      have EQ:=hide (show edg d h (2 + 1) = ((((edg d h 2).set (4 * 2) (.int .i64 (Pl.tn e 2:Nat))).set (4 * 2 + 1) (.int .i64 (e:Int))).set (4 * 2 + 2) (.int .i64 (u:Int))).set (4 * 2 + 3) (.int .i64 (Pl.tn u 2:Nat)) by
       have hz:pz d j = [.int .i64 (Pl.tn e 2:Nat),.int .i64 (e:Int),.int .i64 (u:Int),.int .i64 (Pl.tn u 2:Nat)]:=by unfold pz; rw [HU.out,← HE.out]
       simp only [edg,← HTH0.out,← HTI.out,← HTJ.out,hz]
       rfl)
      have CO:=hide (show cntO d h (2 + 1) = cntO d h 2 + if isO d j then 1 else 0 by rw [cntO_s]; simp only [← HTH0.out,← HTI.out,← HTJ.out])
      have CU:=hide (show cntU d h (2 + 1) = cntU d h 2 + if isU d j then 1 else 0 by rw [cntU_s]; simp only [← HTH0.out,← HTI.out,← HTJ.out])
      have IO:=hide (show isO d j = (e % 2 == 1 && u % 2 == 1) by unfold isO; rw [HU.out,← HE.out])
      have IU:=hide (show isU d j = (e % 2 == 0 && u % 2 == 0) by unfold isU; rw [HU.out,← HE.out])
      obtain ⟨kO,hkO⟩:∃ c,c = cntO d h 2 := ⟨_,rfl⟩
      obtain ⟨kU,hkU⟩:∃ c,c = cntU d h 2 := ⟨_,rfl⟩
      rw [← hkO] at CO ⊢
      rw [← hkU] at CU ⊢
      have bO:kO ≤ 3:=by rw [hkO]; unfold cntO; have := List.length_filter_le (fun i => isO d (th d h i)) (List.range 2); simp at this ⊢; try omega
      have bU:kU ≤ 3:=by rw [hkU]; unfold cntU; have := List.length_filter_le (fun i => isU d (th d h i)) (List.range 2); simp at this ⊢; try omega
      clear hkO hkU
      obtain ⟨e0,e1,e2,e3,e4,e5,e6,e7,e8,e9,e10,e11,ef⟩:=box12 TB2.out.e
      by_cases q0:e % 2 = 1 ∧ u % 2 = 1
      ·obtain ⟨qa,qb⟩:=q0
       have t1:((e:Int) % 2 == 1) = true:=by rw [beq_iff_eq]; omega
       have t2:((u:Int) % 2 == 1) = true:=by rw [beq_iff_eq]; omega
       have t3:((e:Int) % 2 == 0) = false:=by rw [beq_eq_false_iff_ne]; omega
       have t4:((u:Int) % 2 == 0) = false:=by rw [beq_eq_false_iff_ne]; omega
       have FO:=hide (show cntO d h (2 + 1) = kO + 1 by rw [CO.out,IO.out,qa,qb]; rfl)
       have FU:=hide (show cntU d h (2 + 1) = kU + 0 by rw [CU.out,IU.out,qa,qb]; rfl)
       clear qa qb
       go_wp2_with fail
       go_roundg (gk - 1)
       case measure => have := HKG.out; omega
       case rel =>
        refine ⟨2 + 1,by have := HKG.out; omega,by go_num,by rw [FO.out]; (try first | rfl | go_num),by rw [FU.out]; (try first | rfl | go_num),?_⟩
        rw [EQ.out]
        exact (((TB2.out.set _ _).set _ _).set _ _).set _ _
      by_cases q1:e % 2 = 1 ∧ u % 2 = 0
      ·obtain ⟨qa,qb⟩:=q1
       have t1:((e:Int) % 2 == 1) = true:=by rw [beq_iff_eq]; omega
       have t2:((u:Int) % 2 == 1) = false:=by rw [beq_eq_false_iff_ne]; omega
       have t3:((e:Int) % 2 == 0) = false:=by rw [beq_eq_false_iff_ne]; omega
       have t4:((u:Int) % 2 == 0) = true:=by rw [beq_iff_eq]; omega
       have FO:=hide (show cntO d h (2 + 1) = kO + 0 by rw [CO.out,IO.out,qa,qb]; rfl)
       have FU:=hide (show cntU d h (2 + 1) = kU + 0 by rw [CU.out,IU.out,qa,qb]; rfl)
       clear qa qb
       go_wp2_with fail
       go_roundg (gk - 1)
       case measure => have := HKG.out; omega
       case rel =>
        refine ⟨2 + 1,by have := HKG.out; omega,by go_num,by rw [FO.out]; (try first | rfl | go_num),by rw [FU.out]; (try first | rfl | go_num),?_⟩
        rw [EQ.out]
        exact (((TB2.out.set _ _).set _ _).set _ _).set _ _
      by_cases q2:e % 2 = 0 ∧ u % 2 = 1
      ·obtain ⟨qa,qb⟩:=q2
       have t1:((e:Int) % 2 == 1) = false:=by rw [beq_eq_false_iff_ne]; omega
       have t2:((u:Int) % 2 == 1) = true:=by rw [beq_iff_eq]; omega
       have t3:((e:Int) % 2 == 0) = true:=by rw [beq_iff_eq]; omega
       have t4:((u:Int) % 2 == 0) = false:=by rw [beq_eq_false_iff_ne]; omega
       have FO:=hide (show cntO d h (2 + 1) = kO + 0 by rw [CO.out,IO.out,qa,qb]; rfl)
       have FU:=hide (show cntU d h (2 + 1) = kU + 0 by rw [CU.out,IU.out,qa,qb]; rfl)
       clear qa qb
       go_wp2_with fail
       go_roundg (gk - 1)
       case measure => have := HKG.out; omega
       case rel =>
        refine ⟨2 + 1,by have := HKG.out; omega,by go_num,by rw [FO.out]; (try first | rfl | go_num),by rw [FU.out]; (try first | rfl | go_num),?_⟩
        rw [EQ.out]
        exact (((TB2.out.set _ _).set _ _).set _ _).set _ _
      by_cases q3:e % 2 = 0 ∧ u % 2 = 0
      ·obtain ⟨qa,qb⟩:=q3
       have t1:((e:Int) % 2 == 1) = false:=by rw [beq_eq_false_iff_ne]; omega
       have t2:((u:Int) % 2 == 1) = false:=by rw [beq_eq_false_iff_ne]; omega
       have t3:((e:Int) % 2 == 0) = true:=by rw [beq_iff_eq]; omega
       have t4:((u:Int) % 2 == 0) = true:=by rw [beq_iff_eq]; omega
       have FO:=hide (show cntO d h (2 + 1) = kO + 0 by rw [CO.out,IO.out,qa,qb]; rfl)
       have FU:=hide (show cntU d h (2 + 1) = kU + 1 by rw [CU.out,IU.out,qa,qb]; rfl)
       clear qa qb
       go_wp2_with fail
       go_roundg (gk - 1)
       case measure => have := HKG.out; omega
       case rel =>
        refine ⟨2 + 1,by have := HKG.out; omega,by go_num,by rw [FO.out]; (try first | rfl | go_num),by rw [FU.out]; (try first | rfl | go_num),?_⟩
        rw [EQ.out]
        exact (((TB2.out.set _ _).set _ _).set _ _).set _ _
      exfalso; omega
    ·-- the end
     have E3:=hide (show Pl.vb (isT d h) = (decide (cntO d h 3 = 1) && decide (cntU d h 3 = 1)) by
      rw [Bool.eq_iff_iff,Pl.vb_iff]; unfold isT; simp [H3.out])
     obtain ⟨kO,hkO⟩:∃ c,c = cntO d h 3 := ⟨_,rfl⟩
     obtain ⟨kU,hkU⟩:∃ c,c = cntU d h 3 := ⟨_,rfl⟩
     rw [← hkO] at E3 ⊢
     rw [← hkU] at E3 ⊢
     clear hkO hkU
     have HTR:=hide (show ∃ a0 a1 a2 a3 a4 a5 a6 a7 a8 a9 a10 a11:Nat,edg d h 3 = [.int .i64 (a0:Int),.int .i64 (a1:Int),.int .i64 (a2:Int),.int .i64 (a3:Int),.int .i64 (a4:Int),.int .i64 (a5:Int),.int .i64 (a6:Int),.int .i64 (a7:Int),.int .i64 (a8:Int),.int .i64 (a9:Int),.int .i64 (a10:Int),.int .i64 (a11:Int)] from ⟨_,_,_,_,_,_,_,_,_,_,_,_,rfl⟩)
     obtain ⟨a0,a1,a2,a3,a4,a5,a6,a7,a8,a9,a10,a11,hedg⟩:=HTR.out
     rw [hedg] at TBk
     have HEDG:=hide hedg
     clear hedg
     obtain ⟨r0,r1,r2,r3,r4,r5,r6,r7,r8,r9,r10,r11,rf⟩:=box12 TBk.out.r
     obtain ⟨e0,e1,e2,e3,e4,e5,e6,e7,e8,e9,e10,e11,ef⟩:=box12 TBk.out.e
     obtain ⟨bb,hbb⟩:∃ bb,bb = Pl.vb (isT d h) := ⟨_,rfl⟩
     rw [← hbb] at E3
     have HBB:=hide hbb
     clear hbb
     go_upto_region 19 with fail
     go_cut [5] (fun s5 wx => s5 = .bool bb ∧ ∃ W,TB w [.slice A d.n cp,.slice B m cq,.int .i64 (d.lp:Int)] [.int .i64 (a0:Int),.int .i64 (a1:Int),.int .i64 (a2:Int),.int .i64 (a3:Int),.int .i64 (a4:Int),.int .i64 (a5:Int),.int .i64 (a6:Int),.int .i64 (a7:Int),.int .i64 (a8:Int),.int .i64 (a9:Int),.int .i64 (a10:Int),.int .i64 (a11:Int)] W ∧ wx = (((((((((((((W.setCell ⟨w.heap.size + 1,0,none⟩ (.int .i64 (a0:Int))).setCell ⟨w.heap.size + 1,1,none⟩ (.int .i64 (a1:Int))).setCell ⟨w.heap.size + 1,2,none⟩ (.int .i64 (a2:Int))).setCell ⟨w.heap.size + 1,3,none⟩ (.int .i64 (a3:Int))).setCell ⟨w.heap.size + 1,4,none⟩ (.int .i64 (a4:Int))).setCell ⟨w.heap.size + 1,5,none⟩ (.int .i64 (a5:Int))).setCell ⟨w.heap.size + 1,6,none⟩ (.int .i64 (a6:Int))).setCell ⟨w.heap.size + 1,7,none⟩ (.int .i64 (a7:Int))).setCell ⟨w.heap.size + 1,8,none⟩ (.int .i64 (a8:Int))).setCell ⟨w.heap.size + 1,9,none⟩ (.int .i64 (a9:Int))).setCell ⟨w.heap.size + 1,10,none⟩ (.int .i64 (a10:Int))).setCell ⟨w.heap.size + 1,11,none⟩ (.int .i64 (a11:Int)))))
     case first =>
      by_cases c1:kO = 1
      ·have t1:((kO:Int) == 1) = true:=by rw [beq_iff_eq]; omega
       by_cases c2:kU = 1
       ·have t2:((kU:Int) == 1) = true:=by rw [beq_iff_eq]; omega
        have F:=hide (show bb = true by rw [E3.out]; simp [c1,c2])
        clear c1 c2
        go_wp2_with fail
        go_meet
        exact ⟨by rw [F.out],_,TBk.out,rfl⟩
       ·have t2:((kU:Int) == 1) = false:=by rw [beq_eq_false_iff_ne]; omega
        have F:=hide (show bb = false by rw [E3.out]; simp [c1,c2])
        clear c1 c2
        go_wp2_with fail
        go_meet
        exact ⟨by rw [F.out],_,TBk.out,rfl⟩
      ·have t1:((kO:Int) == 1) = false:=by rw [beq_eq_false_iff_ne]; omega
       have F:=hide (show bb = false by rw [E3.out]; simp [c1])
       clear c1
       go_wp2_with fail
       go_meet
       exact ⟨by rw [F.out],_,TBk.out,rfl⟩
     case rest =>
      obtain ⟨rfl,W,hT,rfl⟩:=hcut
      clear e0 e1 e2 e3 e4 e5 e6 e7 e8 e9 e10 e11 r0 r1 r2 r3 r4 r5 r6 r7 r8 r9 r10 r11
      go_wp2
      refine bodyPost_ret (v := .tuple #[.agg #[.int .i64 (a0:Int),.int .i64 (a1:Int),.int .i64 (a2:Int),.int .i64 (a3:Int),.int .i64 (a4:Int),.int .i64 (a5:Int),.int .i64 (a6:Int),.int .i64 (a7:Int),.int .i64 (a8:Int),.int .i64 (a9:Int),.int .i64 (a10:Int),.int .i64 (a11:Int)],.bool bb]) ?_ rfl ?_
      ·obtain ⟨r0,r1,r2,r3,r4,r5,r6,r7,r8,r9,r10,r11,rf⟩:=box12 (row12 hT.r rfl (.int .i64 (a0:Int)) (.int .i64 (a1:Int)) (.int .i64 (a2:Int)) (.int .i64 (a3:Int)) (.int .i64 (a4:Int)) (.int .i64 (a5:Int)) (.int .i64 (a6:Int)) (.int .i64 (a7:Int)) (.int .i64 (a8:Int)) (.int .i64 (a9:Int)) (.int .i64 (a10:Int)) (.int .i64 (a11:Int)))
       simp [results,Tryz.results90,go_sem,r0,r1,r2,r3,r4,r5,r6,r7,r8,r9,r10,r11]
      ·exact ⟨fun _ => by rw [HEDG.out,← HBB.out],fun h => absurd H3.out h,below_set12 hT.bel (by omega) _ _ _ _ _ _ _ _ _ _ _ _⟩
  ·have H3:=hide h3
   rw [Pl.vb_false h3]
   clear h3
   obtain ⟨r0,r1,r2,r3,r4,r5,r6,r7,r8,r9,r10,r11,rf⟩:=box12 TB0.out.r
   obtain ⟨e0,e1,e2,e3,e4,e5,e6,e7,e8,e9,e10,e11,ef⟩:=box12 TB0.out.e
   go_wp2
   refine bodyPost_ret (v := .tuple #[.agg (edg d h 0).toArray,.bool false]) ?_ rfl ?_
   ·obtain ⟨r0,r1,r2,r3,r4,r5,r6,r7,r8,r9,r10,r11,rf⟩:=box12 (row12 TB0.out.r rfl (.int .i64 0) (.int .i64 0) (.int .i64 0) (.int .i64 0) (.int .i64 0) (.int .i64 0) (.int .i64 0) (.int .i64 0) (.int .i64 0) (.int .i64 0) (.int .i64 0) (.int .i64 0))
    clear e0 e1 e2 e3 e4 e5 e6 e7 e8 e9 e10 e11
    show _ = Result.ok (Value.tuple #[Value.agg #[.int .i64 0,.int .i64 0,.int .i64 0,.int .i64 0,.int .i64 0,.int .i64 0,.int .i64 0,.int .i64 0,.int .i64 0,.int .i64 0,.int .i64 0,.int .i64 0],.bool false]) _
    simp [results,Tryz.results90,go_sem,r0,r1,r2,r3,r4,r5,r6,r7,r8,r9,r10,r11]
   ·exact ⟨fun h => absurd h H3.out,fun _ => rfl,below_set12 TB0.out.bel (by omega) _ _ _ _ _ _ _ _ _ _ _ _⟩
end Go.Proofs.YtghdiolnonejaaaGreatDoor
end
section
namespace Go.Proofs.YtghdiolnonejaaaGreatDoor
open Go Go.RowKit
attribute [local go_sem ↓] Go.wp_at_zero Go.wp_at_succ
theorem below8 {w W:World} (h:Below w.heap.size w W) (y0 y1 y2 z0 z1 z2 z3 z4:Value) :
 Below w.heap.size w ((((((((W.setCell ⟨w.heap.size + 1 + 1,0,none⟩ y0).setCell ⟨w.heap.size + 1 + 1,1,none⟩ y1).setCell ⟨w.heap.size + 1 + 1,2,none⟩ y2).setCell ⟨w.heap.size + 1 + 1 + 1,0,none⟩ z0).setCell ⟨w.heap.size + 1 + 1 + 1,1,none⟩ z1).setCell ⟨w.heap.size + 1 + 1 + 1,2,none⟩ z2).setCell ⟨w.heap.size + 1 + 1 + 1,3,none⟩ z3).setCell ⟨w.heap.size + 1 + 1 + 1,4,none⟩ z4) :=
 (((((((h.setCell (by show _ ≤ w.heap.size + 1 + 1; omega) _).setCell (by show _ ≤ w.heap.size + 1 + 1; omega) _).setCell (by show _ ≤ w.heap.size + 1 + 1; omega) _).setCell (by show _ ≤ w.heap.size + 1 + 1 + 1; omega) _).setCell (by show _ ≤ w.heap.size + 1 + 1 + 1; omega) _).setCell (by show _ ≤ w.heap.size + 1 + 1 + 1; omega) _).setCell (by show _ ≤ w.heap.size + 1 + 1 + 1; omega) _).setCell (by show _ ≤ w.heap.size + 1 + 1 + 1; omega) _
theorem one_ints (W:World) (c:Nat):IntsAt (W.alloc (.cells #[.int .i64 (c:Int)] 3)).drew (some ⟨W.heap.size,0,none⟩) 1 (nats [c]) := by
 refine IntsAt.drew ⟨rfl,fun _ => ⟨_,0,rfl,fun j u hu => ?_⟩⟩
 match j,hu with
 | 0,hu => simp [nats] at hu; subst hu; exact (Lib.cell_of_heap (heap_alloc_new W _) 0).trans rfl
theorem one_ints' (W:World) (c:Nat) {g:Nat} (h:g = W.heap.size):IntsAt (W.alloc (.cells #[.int .i64 (c:Int)] 3)) (some ⟨g,0,none⟩) 1 (nats [c]) := by
 subst h
 exact one_ints W c
theorem OwnN.alloc {w:World} {base g n c:Nat} {l:List Nat} (h:OwnN w base g n c l) (o:Obj):OwnN (w.alloc o) base g n c l := World.ownsRow.alloc h o
theorem OwnN.caps {w:World} {base g n c:Nat} {l:List Nat} (h:OwnN w base g n c l):n ≤ c ∧ c ≤ maxLen := by
 rcases h.2 with ⟨h1,h2⟩ | ⟨g',cap,cur,h1,_,_,h4,h5,_⟩
 ·injection h1 with h1; injection h1
 ·injection h1 with _ _ h3
  subst h3
  exact ⟨h4,h5⟩
theorem own8 {w W:World} {base:Nat} {v:Value} {n:Nat} {xs:List Value} (h:W.ownsRow base 3 1 v n xs) (hb:w.heap.size + 1 + 1 + 1 < base) (y0 y1 y2 z0 z1 z2 z3 z4:Value) :
 ((((((((W.setCell ⟨w.heap.size + 1 + 1,0,none⟩ y0).setCell ⟨w.heap.size + 1 + 1,1,none⟩ y1).setCell ⟨w.heap.size + 1 + 1,2,none⟩ y2).setCell ⟨w.heap.size + 1 + 1 + 1,0,none⟩ z0).setCell ⟨w.heap.size + 1 + 1 + 1,1,none⟩ z1).setCell ⟨w.heap.size + 1 + 1 + 1,2,none⟩ z2).setCell ⟨w.heap.size + 1 + 1 + 1,3,none⟩ z3).setCell ⟨w.heap.size + 1 + 1 + 1,4,none⟩ z4).ownsRow base 3 1 v n xs :=
 ownsRow_setCell_below (ownsRow_setCell_below (ownsRow_setCell_below (ownsRow_setCell_below (ownsRow_setCell_below (ownsRow_setCell_below (ownsRow_setCell_below (ownsRow_setCell_below h (by show w.heap.size + 1 + 1 < base; omega) _) (by show w.heap.size + 1 + 1 < base; omega) _) (by show w.heap.size + 1 + 1 < base; omega) _) (by show w.heap.size + 1 + 1 + 1 < base; omega) _) (by show w.heap.size + 1 + 1 + 1 < base; omega) _) (by show w.heap.size + 1 + 1 + 1 < base; omega) _) (by show w.heap.size + 1 + 1 + 1 < base; omega) _) (by show w.heap.size + 1 + 1 + 1 < base; omega) _
theorem closed_yes (base g n cap a b:Nat) (l:List Nat) (w:World) (h:OwnN w base g n cap l) (ha:a < n) (hb:b < n) (hn:n ≤ 100000) (hl:∀ k,k < n → l.getD k 0 < n) (hy:l.getD a 0 = b) :
 Calls Tryz.prog 77 #[.slice (some ⟨g,0,none⟩) n cap,.int .i64 (a:Int),.int .i64 (b:Int)] w fun e w' => e = .returned (.int .i64 1) ∧ OwnN w' base g n cap l ∧ w.grownBy w' (some g) := by
 refine (closed_any base g n cap a b l w h ha hb hn hl).mono ?_
 rintro e w' ⟨h1,h2,h3⟩
 rw [if_pos hy] at h1 h2
 exact ⟨h1,h2,h3⟩
theorem closed_no (base g n cap a b:Nat) (l:List Nat) (w:World) (h:OwnN w base g n cap l) (ha:a < n) (hb:b < n) (hn:n ≤ 100000) (hl:∀ k,k < n → l.getD k 0 < n) (hy:¬ l.getD a 0 = b) :
 Calls Tryz.prog 77 #[.slice (some ⟨g,0,none⟩) n cap,.int .i64 (a:Int),.int .i64 (b:Int)] w fun e w' => e = .returned (.int .i64 0) ∧ OwnN w' base g n cap (jn l (l.getD a 0) (l.getD b 0)) ∧ w.grownBy w' (some g) := by
 refine (closed_any base g n cap a b l w h ha hb hn hl).mono ?_
 rintro e w' ⟨h1,h2,h3⟩
 rw [if_neg hy] at h1 h2
 exact ⟨h1,h2,h3⟩
set_option maxRecDepth 100000 in
set_option maxHeartbeats 4000000 in
theorem uncurl_any (d:Pl.Dg) (hd:Pl.Wf d) (A B:Option Addr) (cp cq c:Nat) (k y sg:Int) (ov:Bool) (w:World) (hg:DgAt w A B d) (hc:c < d.n) :
 Calls Tryz.prog 47 #[.agg #[.slice A d.n cp,.slice B (4 * d.n) cq,.int .i64 d.lp],.agg #[.int .i64 k,.int .i64 (c:Int),.int .i64 y,.int .i64 sg,.bool ov]] w (UncPost d c w) := by
 have hn:=hd.few
 have hlp:=hd.lp
 obtain ⟨m,hm⟩:∃ m,m = 4 * d.n := ⟨_,rfl⟩
 have HG:=hide hg
 clear hg
 rw [← hm]
 have HM:=hide hm
 clear hm
 obtain ⟨x0,x1,x2,x3,b0,s0⟩:=boxes4 w (.slice A d.n cp) (.slice B m cq) (.int .i64 d.lp) (.int .i64 k) (.int .i64 (c:Int)) (.int .i64 y) (.int .i64 sg) (.bool ov)
 unfold W4 at x0 x1 x2 x3 b0 s0
 have X0:=hide x0
 have X1:=hide x1
 have X2:=hide x2
 have X3:=hide x3
 have B0:=hide b0
 have S0:=hide s0
 clear x0 x1 x2 x3 b0 s0
 go_enter Tryz.func47,Tryz.ntmps47
 go_wp2_with fail
 refine (kink_any d hd A B cp cq m c _ HM.out (HG.out.keep B0.out) hc).mono ?_
 rintro e w1 ⟨rfl,hb1⟩
 have Y0:=hide (X0.out.below hb1)
 have Y1:=hide (X1.out.below hb1)
 have Y2:=hide (X2.out.below hb1)
 have Y3:=hide (X3.out.below hb1)
 have B1:=hide (B0.out.trans (hb1.mono B0.out.size))
 have hsz:w.heap.size + 4 ≤ w1.heap.size:=by have := hb1.size; have := S0.out; omega
 clear X0 X1 X2 X3 B0 S0 hb1
 obtain ⟨f0,f1,f2,f3⟩:=box3 Y0.out
 obtain ⟨m0,m1,m2,m3,m4,m5⟩:=box5 Y1.out
 obtain ⟨p0,p1,p2,p3⟩:=box3 Y2.out
 obtain ⟨q0,q1,q2,q3,q4,q5⟩:=box5 Y3.out
 by_cases hK:d.m (kk d c) / 4 = c
 ·rw [Pl.vb_true (show isK d c from hK)]
  unfold kinkE
  rw [if_pos rfl]
  have HK:=hide hK
  clear hK
  have ha1:=kA_lt (d := d) hc
  have hb1:=kB_lt hd hc
  unfold kA at ha1
  unfold kB at hb1
  obtain ⟨a,ha⟩:∃ a,a = Pl.tn (kk d c) 2 := ⟨_,rfl⟩
  obtain ⟨b,hb⟩:∃ b,b = Pl.tn (d.m (kk d c)) 2 := ⟨_,rfl⟩
  rw [← ha,← hb]
  rw [← ha] at ha1
  rw [← hb] at hb1
  have HA:=hide (show a = kA d c from ha)
  have HB:=hide (show b = kB d c from hb)
  clear ha hb
  have hml:d.mt.length = m:=by have := hd.len; have := HM.out; omega
  have HML:=hide hml
  have ham:a < m:=by have := HM.out; omega
  have hbm:b < m:=by have := HM.out; omega
  have hm1:0 < m:=by omega
  have hm2:m ≤ 256:=by have := HM.out; omega
  have HLT:=hide (show ∀ k,k < m → d.mt.getD k 0 < m from fun k hk => by
   rw [getD_m (by rw [HML.out]; exact hk)]
   have:=hd.lt k (by have := HM.out; omega)
   have:=HM.out
   omega)
  have HGA:=hide (show d.mt.getD a 0 = d.m a from getD_m (by rw [HML.out]; exact ham))
  have HGM:=hide (show IntsAt w1 B m (nats d.mt) by rw [HM.out]; exact (HG.out.keep B1.out).m)
  clear hml
  obtain ⟨i0,hi0,hz0,hz1,hz2⟩:=info_parts intInfo
  go_wp2_with (at_builtin; refine wpList_append_ints _ rfl _ _ 22 rfl w1.heap.size 3 i0 (.int .i64 0) 8 Tryz.underlying22 hi0 hz0 hz1 hz2 rfl (.slice none 0 0) 0 [] (by rfl) (World.ownsRow_nil _ _ _ _) B m cq (nats d.mt) (by rfl) HGM.out (by unfold maxLen; omega) (by omega) (Nat.le_refl _) ?_; intro v2 w2 own2 grow2)
  simp only [Nat.zero_add,List.nil_append] at own2
  obtain ⟨A2,c2,rfl⟩:=owns_slice own2
  obtain ⟨g2,rfl,lo2,hi2⟩:=owns_pos hm1 own2
  have OWN2:=hide (show OwnN w2 w1.heap.size g2 m c2 d.mt by unfold OwnN; rw [← map_nats]; exact own2)
  have GR2:=hide grow2
  clear own2 grow2
  have Z0:=hide (Y0.out.grown GR2.out (by simp [Value.ownBlock]))
  have Z1:=hide (Y1.out.grown GR2.out (by simp [Value.ownBlock]))
  have Z2:=hide (Y2.out.grown GR2.out (by simp [Value.ownBlock]))
  have Z3:=hide (Y3.out.grown GR2.out (by simp [Value.ownBlock]))
  have B2:=hide (B1.out.grown GR2.out B1.out.size (fun k hk => by simp [Value.ownBlock] at hk))
  have hs2:=GR2.out.size
  clear f0 f1 f2 f3 m0 m1 m2 m3 m4 m5 p0 p1 p2 p3 q0 q1 q2 q3 q4 q5 Y0 Y1 Y2 Y3
  have HG2:=hide (HG.out.keep B2.out)
  by_cases hcl:d.m a = b
  ·have HC:=hide (show d.mt.getD a 0 = b by rw [HGA.out]; exact hcl)
   have HCL:=hide hcl
   clear hcl
   obtain ⟨f0,f1,f2,f3⟩:=box3 Z0.out
   have hwr:IntKind.i64.wrap ((d.lp:Int) + 1) = (d.lp:Int) + 1:=IntWalk.i64_in _ (by omega)
   go_region_held3 (fun w' => w'.cell? ⟨w.heap.size,2,none⟩ = some (.int .i64 (d.lp:Int))) (first | go_keep | assumption)
    (first
      | (go_at_call 77
         refine Calls.mono (closed_yes w1.heap.size g2 m c2 a b d.mt _ ?_ ham hbm (by omega) HLT.out HC.out) ?_
         ·exact OwnN.drew' rfl OWN2.out
         rintro e w3 ⟨rfl,own3,gr3⟩
         obtain ⟨_,_,h2,_⟩:=box3 ((Z0.out.drew).grown gr3 (by intro h; injection h; omega))
         have OWN3:=hide own3
         have GR3:=hide gr3
         clear own3 gr3))
   clear hwr f0 f1 f2 f3 h2
   have V0:=hide ((Z0.out.drew).grown GR3.out (by intro h; injection h; omega))
   have V1:=hide ((Z1.out.drew).grown GR3.out (by intro h; injection h; omega))
   have V2:=hide ((Z2.out.drew).grown GR3.out (by intro h; injection h; omega))
   have V3:=hide ((Z3.out.drew).grown GR3.out (by intro h; injection h; omega))
   have B3:=hide ((B2.out.drew).grown GR3.out (B2.out.drew).size (fun k hk => by injection hk with hk; omega))
   have hs3:w.heap.size + 4 ≤ w3.heap.size:=by have := GR3.out.size; have:w2.drew.heap.size = w2.heap.size := rfl; omega
   have l1:w.heap.size < w3.heap.size:=by omega
   have l2:w.heap.size + 1 < w3.heap.size:=by omega
   have l3:w.heap.size + 1 + 1 < w3.heap.size:=by omega
   have l4:w.heap.size + 1 + 1 + 1 < w3.heap.size:=by omega
   obtain ⟨f0,f1,f2,f3⟩:=box3 V0.out
   obtain ⟨m0,m1,m2,m3,m4,m5⟩:=box5 V1.out
   obtain ⟨p0,p1,p2,p3⟩:=box3 V2.out
   obtain ⟨q0,q1,q2,q3,q4,q5⟩:=box5 V3.out
   by_cases hfull:64 < d.lp + 1
   ·have hfu:(64:Int) < (d.lp:Int) + 1:=by omega
    go_wp2
    refine bodyPost_ret (v := .tuple #[nilD,nilM,.int .i64 5]) ?_ rfl ?_
    ·obtain ⟨e0,e1,e2,e3,e4,e5,e6,e7⟩:=fin8 V2.out V3.out rfl rfl (by omega) (.slice none 0 0) (.slice none 0 0) (.int .i64 0) (.int .i64 0) (.int .i64 0) (.int .i64 0) (.int .i64 0) (.bool false)
     unfold nilD nilM
     simp [results,Tryz.results47,go_sem,e0,e1,e2,e3,e4,e5,e6,e7]
    ·have e6:uncC d c = 5:=by unfold uncC; rw [if_pos HK.out,← HA.out,← HB.out,if_pos HCL.out,if_pos hfull]
     refine ⟨fun _ => by rw [e6]; exact rfl,fun h => absurd h (by rw [e6]; decide),below8 B3.out _ _ _ _ _ _ _ _⟩
   ·have hfu:(d.lp:Int) + 1 ≤ 64:=by omega
    have t3:((d.lp:Int) + 1 == (d.lp:Int)) = false:=by rw [beq_eq_false_iff_ne]; omega
    have HG3:=hide (HG.out.keep B3.out)
    obtain ⟨ab,ao,rfl,hcs⟩:=sign_at HG3.out.s hc
    go_wp2_with fail
    obtain ⟨W5,hW5⟩:∃ W5:World,W5 = w3.alloc (.cells #[.int .i64 1,.int .i64 (-1),.int .i64 0,.int .i64 (d.s c),.bool ((a:Int) % 2 == 1)] 43) := ⟨_,rfl⟩
    rw [← hW5]
    obtain ⟨bb,hbb⟩:∃ bb,bb = ((a:Int) % 2 == 1) := ⟨_,rfl⟩
    have HBB:=hide hbb
    rw [← hbb] at hW5 ⊢
    clear hbb
    obtain ⟨gi,hgi⟩:∃ gi,gi = w3.heap.size := ⟨_,rfl⟩
    rw [← hgi]
    have HU:=hide (show UC w gi (.slice (some ⟨ab,ao,none⟩) d.n cp) (.slice B m cq) (.int .i64 (d.lp:Int)) (.int .i64 1) (.int .i64 (-1)) (.int .i64 0) (.int .i64 (d.s c)) (.bool bb) W5 by
     rw [hW5]
     exact ⟨V0.out.alloc _,row_at (vs := [.int .i64 1,.int .i64 (-1),.int .i64 0,.int .i64 (d.s c),.bool bb]) hgi,⟨_,V2.out.alloc _,rfl⟩,⟨_,V3.out.alloc _,rfl⟩,B3.out.alloc (by omega) _,by omega⟩)
    obtain ⟨LL,hLL⟩:∃ LL,LL = d.mt := ⟨_,rfl⟩
    have HMo:=hide (show OwnN W5 w1.heap.size g2 m c2 LL by rw [hW5,hLL]; exact OWN3.out.alloc _)
    have HLE:=hide (show ∀ k,LL.getD k 0 ≤ 1000 from fun k => by rw [hLL]; exact Nat.le_trans (getD_le hd k) (by omega))
    have HG5:=hide (show DgAt W5 (some ⟨ab,ao,none⟩) B d from HG.out.keep HU.out.bel)
    have HLL:=hide (show LL = unM d c by unfold unM; rw [← HA.out,← HB.out,if_pos HCL.out,hLL])
    have HE0:=hide (show uncC d c = 0 by unfold uncC; rw [if_pos HK.out,← HA.out,← HB.out,if_pos HCL.out,if_neg hfull])
    clear hW5 hgi hLL f0 f1 f2 f3 m0 m1 m2 m3 m4 m5 p0 p1 p2 p3 q0 q1 q2 q3 q4 q5 hcs t3 l1 l2 l3 l4
    have HCAP:=hide HMo.out.caps
    have KS:=hide (IntsAt.drew ((HG5.out.s).alloc (.cells #[.int .i64 (c:Int)] 3)))
    have KM:=hide (OwnN.ints (OwnN.drew' rfl (HMo.out.alloc (.cells #[.int .i64 (c:Int)] 3))))
    have KG:=hide (one_ints W5 c)
    go_region_held3 (fun w' => w'.cell? ⟨w.heap.size,0,none⟩ = some (.slice (some ⟨ab,ao,none⟩) d.n cp) ∧ w'.cell? ⟨gi,0,none⟩ = some (.int .i64 1) ∧ w'.cell? ⟨gi,1,none⟩ = some (.int .i64 (-1)) ∧ w'.cell? ⟨gi,2,none⟩ = some (.int .i64 0) ∧ w'.cell? ⟨gi,3,none⟩ = some (.int .i64 (d.s c)) ∧ w'.cell? ⟨gi,4,none⟩ = some (.bool bb) ∧
     w'.cell? ⟨w.heap.size + 1 + 1,0,none⟩ = some (cv w' ⟨w.heap.size + 1 + 1,0,none⟩) ∧ w'.cell? ⟨w.heap.size + 1 + 1,1,none⟩ = some (cv w' ⟨w.heap.size + 1 + 1,1,none⟩) ∧ w'.cell? ⟨w.heap.size + 1 + 1,2,none⟩ = some (cv w' ⟨w.heap.size + 1 + 1,2,none⟩) ∧
     w'.cell? ⟨w.heap.size + 1 + 1 + 1,0,none⟩ = some (cv w' ⟨w.heap.size + 1 + 1 + 1,0,none⟩) ∧ w'.cell? ⟨w.heap.size + 1 + 1 + 1,1,none⟩ = some (cv w' ⟨w.heap.size + 1 + 1 + 1,1,none⟩) ∧ w'.cell? ⟨w.heap.size + 1 + 1 + 1,2,none⟩ = some (cv w' ⟨w.heap.size + 1 + 1 + 1,2,none⟩) ∧ w'.cell? ⟨w.heap.size + 1 + 1 + 1,3,none⟩ = some (cv w' ⟨w.heap.size + 1 + 1 + 1,3,none⟩) ∧ w'.cell? ⟨w.heap.size + 1 + 1 + 1,4,none⟩ = some (cv w' ⟨w.heap.size + 1 + 1 + 1,4,none⟩) ∧
     (∀ o,w'.frozen? ⟨w.heap.size + 1 + 1,o,none⟩ = false) ∧ (∀ o,w'.frozen? ⟨w.heap.size + 1 + 1 + 1,o,none⟩ = false) ∧ UC w gi (.slice (some ⟨ab,ao,none⟩) d.n cp) (.slice B m cq) (.int .i64 (d.lp:Int)) (.int .i64 1) (.int .i64 (-1)) (.int .i64 0) (.int .i64 (d.s c)) (.bool bb) w')
     ((go_split_ands; refine UC.all ?_; (repeat (first | (with_reducible assumption) | (with_reducible exact HU.out) | (with_reducible refine UC.setD ?_ _ _) | (with_reducible refine UC.setM ?_ _ _) | (with_reducible refine UC.alloc ?_ _) | (with_reducible refine UC.drew ?_) | (with_reducible refine UC.below ?_ hb6)))))
     (first
       | (go_at_call 79
          refine Calls.mono (shrunk_sl [c] d.sg LL ((d.lp:Int) + 1) (some ⟨ab,ao,none⟩) (some ⟨g2,0,none⟩) (some ⟨W5.heap.size,0,none⟩) d.n m 1 cp c2 1 _ ?_ ?_ ?_ (Pl.few_one c) HM.out HCAP.out.1 HCAP.out.2 (by omega) (by omega) HLE.out) ?_
          ·exact KS.out
          ·exact KM.out
          ·exact KG.out
          rintro e w6 ⟨A7,A8,c7,c8,rfl,owS,owM,hb6⟩
          have OWS:=hide owS
          have OWM:=hide owM
          clear owS owM))
    all_goals
     have HU6:=hide (show UC w gi (.slice (some ⟨ab,ao,none⟩) d.n cp) (.slice B m cq) (.int .i64 (d.lp:Int)) (.int .i64 1) (.int .i64 (-1)) (.int .i64 0) (.int .i64 (d.s c)) (.bool bb) w6 from by
      repeat (first | (with_reducible assumption) | (with_reducible exact HU.out) | (with_reducible refine UC.alloc ?_ _) | (with_reducible refine UC.drew ?_) | (with_reducible refine UC.below ?_ hb6)))
     have hb6s:W5.heap.size + 1 + 2 ≤ w6.heap.size ∨ True:=.inr trivial
     go_wp2
     obtain ⟨vs6,r6,l6⟩:=HU6.out.rd
     obtain ⟨us6,t6,k6⟩:=HU6.out.rm
     refine bodyPost_ret (v := .tuple #[.agg #[.slice A7 (Pl.left d.sg.length [c]).length c7,.slice A8 (4 * (Pl.left d.sg.length [c]).length) c8,.int .i64 ((d.lp:Int) + 1)],.agg #[.int .i64 1,.int .i64 (-1),.int .i64 0,.int .i64 (d.s c),.bool bb],.int .i64 0]) ?_ rfl ?_
     ·obtain ⟨e0,e1,e2,e3,e4,e5,e6,e7⟩:=fin8 r6 t6 l6 k6 (by omega) (.slice A7 (Pl.left d.sg.length [c]).length c7) (.slice A8 (4 * (Pl.left d.sg.length [c]).length) c8) (.int .i64 ((d.lp:Int) + 1)) (.int .i64 1) (.int .i64 (-1)) (.int .i64 0) (.int .i64 (d.s c)) (.bool bb)
      simp [results,Tryz.results47,go_sem,e0,e1,e2,e3,e4,e5,e6,e7]
     ·have hn7:(unD d c).n = (Pl.left d.sg.length [c]).length:=by unfold unD Pl.Dg.n; exact Pl.shrS_len _ _
      refine ⟨fun h => absurd HE0.out h,fun _ => ⟨A7,A8,c7,c8,?_,?_,?_⟩,below8 HU6.out.bel _ _ _ _ _ _ _ _⟩
      ·rw [hn7]
       unfold unD unI Mv.v
       simp only [← HA.out,← HB.out,if_pos HCL.out]
       have e1:((d.lp + 1:Nat):Int) = (d.lp:Int) + 1:=by omega
       have e2:decide (a % 2 = 1) = bb:=by rw [HBB.out,Bool.eq_iff_iff]; simp; omega
       rw [e1,e2]
      ·rw [hn7]
       refine own_intsT (base := (W5.alloc (.cells #[.int .i64 (c:Int)] 3)).drew.heap.size + 2) (e := 3) (c := c7) (own8 ?_ ?_ _ _ _ _ _ _ _ _)
       ·exact OWS.out
       ·have:=HU.out.i.lt; have := HU.out.lo; simp; omega
      ·rw [hn7]
       refine own_intsT (base := (W5.alloc (.cells #[.int .i64 (c:Int)] 3)).drew.heap.size + 2) (e := 3) (c := c8) (own8 ?_ ?_ _ _ _ _ _ _ _ _)
       ·rw [map_nats]
        have:=OWM.out
        rw [HLL.out] at this
        exact this
       ·have:=HU.out.i.lt; have := HU.out.lo; simp; omega
  ·have HC:=hide (show ¬ d.mt.getD a 0 = b by rw [HGA.out]; exact hcl)
   have HCL:=hide hcl
   have HGB:=hide (show d.mt.getD b 0 = d.m b from getD_m (by rw [HML.out]; exact hbm))
   clear hcl
   obtain ⟨f0,f1,f2,f3⟩:=box3 Z0.out
   have hwr:IntKind.i64.wrap (d.lp:Int) = (d.lp:Int):=IntWalk.i64_in _ (by omega)
   have hwr0:IntKind.i64.wrap ((d.lp:Int) + 0) = (d.lp:Int):=by rw [Int.add_zero]; exact hwr
   go_region_held3 (fun w' => w'.cell? ⟨w.heap.size,2,none⟩ = some (.int .i64 (d.lp:Int))) (first | go_keep | assumption)
    (first
      | (go_at_call 77
         refine Calls.mono (closed_no w1.heap.size g2 m c2 a b d.mt _ ?_ ham hbm (by omega) HLT.out HC.out) ?_
         ·exact OwnN.drew' rfl OWN2.out
         rintro e w3 ⟨rfl,own3,gr3⟩
         obtain ⟨_,_,h2,_⟩:=box3 ((Z0.out.drew).grown gr3 (by intro h; injection h; omega))
         have OWN3:=hide own3
         have GR3:=hide gr3
         clear own3 gr3))
   clear hwr hwr0 f0 f1 f2 f3 h2
   have V0:=hide ((Z0.out.drew).grown GR3.out (by intro h; injection h; omega))
   have V1:=hide ((Z1.out.drew).grown GR3.out (by intro h; injection h; omega))
   have V2:=hide ((Z2.out.drew).grown GR3.out (by intro h; injection h; omega))
   have V3:=hide ((Z3.out.drew).grown GR3.out (by intro h; injection h; omega))
   have B3:=hide ((B2.out.drew).grown GR3.out (B2.out.drew).size (fun k hk => by injection hk with hk; omega))
   have hs3:w.heap.size + 4 ≤ w3.heap.size:=by have := GR3.out.size; have:w2.drew.heap.size = w2.heap.size := rfl; omega
   have l1:w.heap.size < w3.heap.size:=by omega
   have l2:w.heap.size + 1 < w3.heap.size:=by omega
   have l3:w.heap.size + 1 + 1 < w3.heap.size:=by omega
   have l4:w.heap.size + 1 + 1 + 1 < w3.heap.size:=by omega
   obtain ⟨f0,f1,f2,f3⟩:=box3 V0.out
   obtain ⟨m0,m1,m2,m3,m4,m5⟩:=box5 V1.out
   obtain ⟨p0,p1,p2,p3⟩:=box3 V2.out
   obtain ⟨q0,q1,q2,q3,q4,q5⟩:=box5 V3.out
   have hfu:(d.lp:Int) ≤ 64:=by omega
   have HG3:=hide (HG.out.keep B3.out)
   obtain ⟨ab,ao,rfl,hcs⟩:=sign_at HG3.out.s hc
   obtain ⟨mb,mo,rfl,hcm⟩:=mate_at HG3.out.m (k := a) (by have := HM.out; omega)
   have lmb:mb < w3.heap.size:=lt_of_cell hcm
   have ia:(0:Int) ≤ (a:Int):=by omega
   have ib:(a:Int) < (m:Int):=by omega
   have hma:d.m a ≤ 256:=by have := hd.lt a ha1; omega
   obtain ⟨u,hu⟩:∃ u,u = d.m a := ⟨_,rfl⟩
   rw [← hu] at hcm hma
   have HUU:=hide hu
   clear hu
   go_wp2_with fail
   obtain ⟨bb,hbb⟩:∃ bb,bb = ((a:Int) % 2 == 1) := ⟨_,rfl⟩
   have HBB:=hide hbb
   rw [← hbb]
   clear hbb
   refine (shifted_any [c] (some ⟨w3.heap.size + 1,0,none⟩) 1 1 u _ ?_ (by omega) (by omega) (Pl.few_one c)).mono ?_
   ·exact one_ints' (w3.alloc (.cells #[.int .i64 1,.int .i64 (-1),.int .i64 0,.int .i64 (d.s c),.bool bb] 43)) c (by simp)
   rintro e w4 ⟨rfl,rfl⟩
   go_wp2_with fail
   obtain ⟨W5,hW5⟩:∃ W5:World,W5 = (w3.alloc (.cells #[.int .i64 1,.int .i64 (Pl.shf [c] u:Nat),.int .i64 0,.int .i64 (d.s c),.bool bb] 43)).alloc (.cells #[.int .i64 (c:Int)] 3) := ⟨_,rfl⟩
   rw [← hW5]
   obtain ⟨gi,hgi⟩:∃ gi,gi = w3.heap.size := ⟨_,rfl⟩
   rw [← hgi]
   have HU:=hide (show UC w gi (.slice (some ⟨ab,ao,none⟩) d.n cp) (.slice (some ⟨mb,mo,none⟩) m cq) (.int .i64 (d.lp:Int)) (.int .i64 1) (.int .i64 (Pl.shf [c] u:Nat)) (.int .i64 0) (.int .i64 (d.s c)) (.bool bb) W5 by
    rw [hW5]
    exact ⟨(V0.out.alloc _).alloc _,Row.alloc (row_at (vs := [.int .i64 1,.int .i64 (Pl.shf [c] u:Nat),.int .i64 0,.int .i64 (d.s c),.bool bb]) hgi) _,⟨_,(V2.out.alloc _).alloc _,rfl⟩,⟨_,(V3.out.alloc _).alloc _,rfl⟩,(B3.out.alloc (by omega) _).alloc (by simp; omega) _,by omega⟩)
   obtain ⟨LL,hLL⟩:∃ LL,LL = jn d.mt (d.mt.getD a 0) (d.mt.getD b 0) := ⟨_,rfl⟩
   have HMo:=hide (show OwnN W5 w1.heap.size g2 m c2 LL by rw [hW5,hLL]; exact (OWN3.out.alloc _).alloc _)
   have HLE:=hide (show ∀ k,LL.getD k 0 ≤ 1000 from fun k => by rw [hLL]; exact Nat.le_trans (jn_le (getD_le hd) (getD_le hd a) (getD_le hd b) k) (by omega))
   have HG5:=hide (show DgAt W5 (some ⟨ab,ao,none⟩) (some ⟨mb,mo,none⟩) d from HG.out.keep HU.out.bel)
   have HLL:=hide (show LL = unM d c by unfold unM; rw [← HA.out,← HB.out,if_neg HCL.out,hLL,HGA.out,HGB.out])
   have HE0:=hide (show uncC d c = 0 by unfold uncC; rw [if_pos HK.out,← HA.out,← HB.out,if_neg HCL.out])
   clear hW5 hgi hLL f0 f1 f2 f3 m0 m1 m2 m3 m4 m5 p0 p1 p2 p3 q0 q1 q2 q3 q4 q5 hcs hcm l1 l2 l3 l4
   have HCAP:=hide HMo.out.caps
   have KS:=hide (IntsAt.drew ((HG5.out.s).alloc (.cells #[.int .i64 (c:Int)] 3)))
   have KM:=hide (OwnN.ints (OwnN.drew' rfl (HMo.out.alloc (.cells #[.int .i64 (c:Int)] 3))))
   have KG:=hide (one_ints W5 c)
   go_region_held3 (fun w' => w'.cell? ⟨w.heap.size,0,none⟩ = some (.slice (some ⟨ab,ao,none⟩) d.n cp) ∧ w'.cell? ⟨gi,0,none⟩ = some (.int .i64 1) ∧ w'.cell? ⟨gi,1,none⟩ = some (.int .i64 (Pl.shf [c] u:Nat)) ∧ w'.cell? ⟨gi,2,none⟩ = some (.int .i64 0) ∧ w'.cell? ⟨gi,3,none⟩ = some (.int .i64 (d.s c)) ∧ w'.cell? ⟨gi,4,none⟩ = some (.bool bb) ∧
    w'.cell? ⟨w.heap.size + 1 + 1,0,none⟩ = some (cv w' ⟨w.heap.size + 1 + 1,0,none⟩) ∧ w'.cell? ⟨w.heap.size + 1 + 1,1,none⟩ = some (cv w' ⟨w.heap.size + 1 + 1,1,none⟩) ∧ w'.cell? ⟨w.heap.size + 1 + 1,2,none⟩ = some (cv w' ⟨w.heap.size + 1 + 1,2,none⟩) ∧
    w'.cell? ⟨w.heap.size + 1 + 1 + 1,0,none⟩ = some (cv w' ⟨w.heap.size + 1 + 1 + 1,0,none⟩) ∧ w'.cell? ⟨w.heap.size + 1 + 1 + 1,1,none⟩ = some (cv w' ⟨w.heap.size + 1 + 1 + 1,1,none⟩) ∧ w'.cell? ⟨w.heap.size + 1 + 1 + 1,2,none⟩ = some (cv w' ⟨w.heap.size + 1 + 1 + 1,2,none⟩) ∧ w'.cell? ⟨w.heap.size + 1 + 1 + 1,3,none⟩ = some (cv w' ⟨w.heap.size + 1 + 1 + 1,3,none⟩) ∧ w'.cell? ⟨w.heap.size + 1 + 1 + 1,4,none⟩ = some (cv w' ⟨w.heap.size + 1 + 1 + 1,4,none⟩) ∧
    (∀ o,w'.frozen? ⟨w.heap.size + 1 + 1,o,none⟩ = false) ∧ (∀ o,w'.frozen? ⟨w.heap.size + 1 + 1 + 1,o,none⟩ = false) ∧ UC w gi (.slice (some ⟨ab,ao,none⟩) d.n cp) (.slice (some ⟨mb,mo,none⟩) m cq) (.int .i64 (d.lp:Int)) (.int .i64 1) (.int .i64 (Pl.shf [c] u:Nat)) (.int .i64 0) (.int .i64 (d.s c)) (.bool bb) w')
    ((go_split_ands; refine UC.all ?_; (repeat (first | (with_reducible assumption) | (with_reducible exact HU.out) | (with_reducible refine UC.setD ?_ _ _) | (with_reducible refine UC.setM ?_ _ _) | (with_reducible refine UC.alloc ?_ _) | (with_reducible refine UC.drew ?_) | (with_reducible refine UC.below ?_ hb6)))))
    (first
      | (go_at_call 79
         refine Calls.mono (shrunk_sl [c] d.sg LL (d.lp:Int) (some ⟨ab,ao,none⟩) (some ⟨g2,0,none⟩) (some ⟨W5.heap.size,0,none⟩) d.n m 1 cp c2 1 _ ?_ ?_ ?_ (Pl.few_one c) HM.out HCAP.out.1 HCAP.out.2 (by omega) (by omega) HLE.out) ?_
         ·exact KS.out
         ·exact KM.out
         ·exact KG.out
         rintro e w6 ⟨A7,A8,c7,c8,rfl,owS,owM,hb6⟩
         have OWS:=hide owS
         have OWM:=hide owM
         clear owS owM))
   all_goals
    have HU6:=hide (show UC w gi (.slice (some ⟨ab,ao,none⟩) d.n cp) (.slice (some ⟨mb,mo,none⟩) m cq) (.int .i64 (d.lp:Int)) (.int .i64 1) (.int .i64 (Pl.shf [c] u:Nat)) (.int .i64 0) (.int .i64 (d.s c)) (.bool bb) w6 from by
     repeat (first | (with_reducible assumption) | (with_reducible exact HU.out) | (with_reducible refine UC.alloc ?_ _) | (with_reducible refine UC.drew ?_) | (with_reducible refine UC.below ?_ hb6)))
    have hb6s:W5.heap.size + 1 + 2 ≤ w6.heap.size ∨ True:=.inr trivial
    go_wp2
    obtain ⟨vs6,r6,l6⟩:=HU6.out.rd
    obtain ⟨us6,t6,k6⟩:=HU6.out.rm
    refine bodyPost_ret (v := .tuple #[.agg #[.slice A7 (Pl.left d.sg.length [c]).length c7,.slice A8 (4 * (Pl.left d.sg.length [c]).length) c8,.int .i64 (d.lp:Int)],.agg #[.int .i64 1,.int .i64 (Pl.shf [c] u:Nat),.int .i64 0,.int .i64 (d.s c),.bool bb],.int .i64 0]) ?_ rfl ?_
    ·obtain ⟨e0,e1,e2,e3,e4,e5,e6,e7⟩:=fin8 r6 t6 l6 k6 (by omega) (.slice A7 (Pl.left d.sg.length [c]).length c7) (.slice A8 (4 * (Pl.left d.sg.length [c]).length) c8) (.int .i64 (d.lp:Int)) (.int .i64 1) (.int .i64 (Pl.shf [c] u:Nat)) (.int .i64 0) (.int .i64 (d.s c)) (.bool bb)
     simp [results,Tryz.results47,go_sem,e0,e1,e2,e3,e4,e5,e6,e7]
    ·have hn7:(unD d c).n = (Pl.left d.sg.length [c]).length:=by unfold unD Pl.Dg.n; exact Pl.shrS_len _ _
     refine ⟨fun h => absurd HE0.out h,fun _ => ⟨A7,A8,c7,c8,?_,?_,?_⟩,below8 HU6.out.bel _ _ _ _ _ _ _ _⟩
     ·rw [hn7]
      unfold unD unI Mv.v
      simp only [← HA.out,← HB.out,if_neg HCL.out]
      simp only [← HUU.out]
      have e2:decide (a % 2 = 1) = bb:=by rw [HBB.out,Bool.eq_iff_iff]; simp; omega
      rw [e2]
     ·rw [hn7]
      refine own_intsT (base := (W5.alloc (.cells #[.int .i64 (c:Int)] 3)).drew.heap.size + 2) (e := 3) (c := c7) (own8 ?_ ?_ _ _ _ _ _ _ _ _)
      ·exact OWS.out
      ·have:=HU.out.i.lt; have := HU.out.lo; simp; omega
     ·rw [hn7]
      refine own_intsT (base := (W5.alloc (.cells #[.int .i64 (c:Int)] 3)).drew.heap.size + 2) (e := 3) (c := c8) (own8 ?_ ?_ _ _ _ _ _ _ _ _)
      ·rw [map_nats]
       have:=OWM.out
       rw [HLL.out] at this
       exact this
      ·have:=HU.out.i.lt; have := HU.out.lo; simp; omega
 ·rw [Pl.vb_false (show ¬ isK d c from hK)]
  unfold kinkE
  rw [if_neg (by decide)]
  have HK:=hide hK
  clear hK
  go_wp2
  refine bodyPost_ret (v := .tuple #[nilD,nilM,.int .i64 6]) ?_ rfl ?_
  ·obtain ⟨e0,e1,e2,e3,e4,e5,e6,e7⟩:=fin8 Y2.out Y3.out rfl rfl (by omega) (.slice none 0 0) (.slice none 0 0) (.int .i64 0) (.int .i64 0) (.int .i64 0) (.int .i64 0) (.int .i64 0) (.bool false)
   unfold nilD nilM
   simp [results,Tryz.results47,go_sem,e0,e1,e2,e3,e4,e5,e6,e7]
  ·have e6:uncC d c = 6:=by unfold uncC; rw [if_neg HK.out]
   refine ⟨fun _ => by rw [e6]; exact rfl,fun h => absurd h (by rw [e6]; decide),below8 B1.out _ _ _ _ _ _ _ _⟩
end Go.Proofs.YtghdiolnonejaaaGreatDoor
end
section
namespace Go.Proofs.YtghdiolnonejaaaGreatDoor
open Go Go.RowKit
attribute [local go_sem ↓] Go.wp_at_zero Go.wp_at_succ
structure Ln where
 p0:Nat
 p1:Nat
 p2:Nat
 p3:Nat
 q0:Nat
 q1:Nat
 q2:Nat
 q3:Nat
def Ln.cells (l:Ln):List Value := [.int .i64 (l.p0:Int),.int .i64 (l.p1:Int),.int .i64 (l.p2:Int),.int .i64 (l.p3:Int),.int .i64 (l.q0:Int),.int .i64 (l.q1:Int),.int .i64 (l.q2:Int),.int .i64 (l.q3:Int)]
def lensOf (d:Pl.Dg) (h:Nat):Ln := ⟨h,d.m (Pl.nx d h),Pl.tn h 2,Pl.tn (d.m (Pl.nx d h)) 2,Pl.tn (d.m h) 2,Pl.nx d h,d.m h,Pl.tn (Pl.nx d h) 2⟩
theorem lensOf_v (d:Pl.Dg) (h:Nat):lensV d h = .agg (lensOf d h).cells.toArray := rfl
def pusX (d:Pl.Dg) (l:Ln) (x y:Nat):Int :=
 if d.m l.q3 = l.q0 then (if d.m l.p2 = l.p3 then lpv d l.p3 else oldv d x y l.p3)
 else if d.m l.p2 = l.p3 then oldv d x y l.q0 else if d.m l.p3 = l.q3 then lpv d l.p3 else oldv d x y l.p3
def pusY (d:Pl.Dg) (l:Ln) (x y:Nat):Int :=
 if d.m l.q3 = l.q0 then (if d.m l.p2 = l.p3 then lpv d l.p3 else oldv d x y l.p3)
 else if d.m l.p2 = l.p3 then oldv d x y l.q0 else if d.m l.q0 = l.p2 then lpv d l.q0 else oldv d x y l.q0
def pusS (d:Pl.Dg) (l:Ln):Int := if d.m l.q3 = l.q0 then 1 else if d.m l.p2 = l.p3 then -1 else 0
def pusI (d:Pl.Dg) (l:Ln) (x y:Nat):Mv := ⟨3,pusX d l x y,pusY d l x y,pusS d l,decide (l.q1 % 2 = 1)⟩
structure PV (w:World) (gi:Nat) (dv lv mv iv:List Value) (W:World):Prop where
 d:Row W w.heap.size 24 dv
 l:Row W (w.heap.size + 1) 131 lv
 m:Row W (w.heap.size + 1 + 1) 43 mv
 r:∃ us,Row W (w.heap.size + 1 + 1 + 1) 43 us ∧ us.length = 5
 i:Row W gi 43 iv
 bel:Below w.heap.size w W
 lo:w.heap.size + 1 + 1 + 1 < gi
section
variable {w W W':World} {gi:Nat} {dv lv mv iv:List Value}
theorem PV.drew (h:PV w gi dv lv mv iv W):PV w gi dv lv mv iv W.drew := ⟨h.d,h.l,h.m,h.r,h.i,h.bel.drew,h.lo⟩
theorem PV.drewN (h:PV w gi dv lv mv iv W) (n:Nat):PV w gi dv lv mv iv (W.drewN n) := ⟨h.d,h.l,h.m,h.r,h.i,below_drewN h.bel n,h.lo⟩
theorem PV.below (h:PV w gi dv lv mv iv W) (hb:Below W.heap.size W W'):PV w gi dv lv mv iv W' :=
 let ⟨us,r2,l2⟩:=h.r
 ⟨h.d.below hb,h.l.below hb,h.m.below hb,⟨us,r2.below hb,l2⟩,h.i.below hb,h.bel.trans (hb.mono h.bel.size),h.lo⟩
theorem PV.set (h:PV w gi dv lv mv iv W) (o:Nat) (v:Value):PV w gi dv lv mv (iv.set o v) (W.setCell ⟨gi,o,none⟩ v) :=
 have a:=h.lo
 let ⟨us,r2,l2⟩:=h.r
 ⟨h.d.other (by show _ ≠ gi; omega) v,h.l.other (by show _ ≠ gi; omega) v,h.m.other (by show _ ≠ gi; omega) v,⟨us,r2.other (by show _ ≠ gi; omega) v,l2⟩,h.i.set o v,h.bel.setCell (by show _ ≤ gi; omega) v,h.lo⟩
end
def PW (w:World) (gi:Nat) (dv lv mv:List Value) (a s e:Value) (W:World):Prop := ∃ b c,PV w gi dv lv mv [a,b,c,s,e] W
section
variable {w W W':World} {gi:Nat} {dv lv mv:List Value} {a s e:Value}
theorem PW.drew (h:PW w gi dv lv mv a s e W):PW w gi dv lv mv a s e W.drew := let ⟨b,c,h⟩:=h; ⟨b,c,h.drew⟩
theorem PW.below (h:PW w gi dv lv mv a s e W) (hb:Below W.heap.size W W'):PW w gi dv lv mv a s e W' := let ⟨b,c,h⟩:=h; ⟨b,c,h.below hb⟩
theorem PW.set1 (h:PW w gi dv lv mv a s e W) (v:Value):PW w gi dv lv mv a s e (W.setCell ⟨gi,1,none⟩ v) := let ⟨_,c,h⟩:=h; ⟨v,c,h.set 1 v⟩
theorem PW.set2 (h:PW w gi dv lv mv a s e W) (v:Value):PW w gi dv lv mv a s e (W.setCell ⟨gi,2,none⟩ v) := let ⟨b,_,h⟩:=h; ⟨b,v,h.set 2 v⟩
theorem PW.fin (h:PW w gi dv lv mv a s e W) (v u:Value):PV w gi dv lv mv [a,v,u,s,e] ((W.setCell ⟨gi,1,none⟩ v).setCell ⟨gi,2,none⟩ u) := let ⟨_,_,h⟩:=h; (h.set 1 v).set 2 u
theorem PW.all {l0 l1 l2 l3 l4 l5 l6 l7:Value} (h:PW w gi dv [l0,l1,l2,l3,l4,l5,l6,l7] mv a s e W):W.cell? ⟨w.heap.size + 1,3,none⟩ = some l3 ∧ W.cell? ⟨w.heap.size + 1,4,none⟩ = some l4 ∧ W.cell? ⟨gi,1,none⟩ = some (cv W ⟨gi,1,none⟩) ∧ W.cell? ⟨gi,2,none⟩ = some (cv W ⟨gi,2,none⟩) ∧ (∀ o,W.frozen? ⟨gi,o,none⟩ = false) ∧ PW w gi dv [l0,l1,l2,l3,l4,l5,l6,l7] mv a s e W := by
 have h':=h
 obtain ⟨b,c,h⟩:=h
 obtain ⟨_,_,_,e3,e4,_⟩:=box8 h.l
 obtain ⟨_,f1,f2,_,_,ff⟩:=box5 h.i
 exact ⟨e3,e4,cv_some f1,cv_some f2,ff,h'⟩
end
theorem row5 {W:World} {g:Nat} {t:TypeId} {vs:List Value} (h:Row W g t vs) (l:vs.length = 5) (y0 y1 y2 y3 y4:Value) :
 Row (((((W.setCell ⟨g,0,none⟩ y0).setCell ⟨g,1,none⟩ y1).setCell ⟨g,2,none⟩ y2).setCell ⟨g,3,none⟩ y3).setCell ⟨g,4,none⟩ y4) g t [y0,y1,y2,y3,y4] := by
 obtain ⟨a,b,c,d,e,rfl⟩:∃ a b c d e,vs = [a,b,c,d,e] := by
  match vs,l with
  | [a,b,c,d,e],_ => exact ⟨a,b,c,d,e,rfl⟩
 exact ((((h.set 0 y0).set 1 y1).set 2 y2).set 3 y3).set 4 y4
def PusPost (d:Pl.Dg) (l:Ln) (x y:Nat) (w:World) (e:Ending) (w':World):Prop := e = .returned (pusI d l x y).v ∧ Below w.heap.size w w'
set_option maxRecDepth 100000 in
set_option maxHeartbeats 4000000 in
theorem pushed_any (d:Pl.Dg) (hd:Pl.Wf d) (A B:Option Addr) (cp cq m x y:Nat) (k sg:Int) (ov:Bool) (l:Ln) (w:World) (hm:m = 4 * d.n) (hg:DgAt w A B d) (hxy:x < y)
 (h2:l.p2 < 4 * d.n) (h3:l.p3 < 4 * d.n) (k0:l.q0 < 4 * d.n) (k3:l.q3 < 4 * d.n) (k1:l.q1 < 4 * d.n) :
 Calls Tryz.prog 89 #[.agg #[.slice A d.n cp,.slice B m cq,.int .i64 d.lp],.agg l.cells.toArray,.agg #[.int .i64 k,.int .i64 (x:Int),.int .i64 (y:Int),.int .i64 sg,.bool ov]] w (PusPost d l x y w) := by
 obtain ⟨p0,p1,p2,p3,q0,q1,q2,q3⟩:=l
 simp only at h2 h3 k0 k3 k1
 have hn:=hd.few
 have HM:=hide hm
 have HG:=hide hg
 have hm2:m ≤ 256:=by omega
 obtain ⟨g0,hg0⟩:∃ g0,g0 = w.heap.size + 1 + 1 + 1 + 1 := ⟨_,rfl⟩
 have V0:=hide (show PV w g0 [.slice A d.n cp,.slice B m cq,.int .i64 (d.lp:Int)] [.int .i64 (p0:Int),.int .i64 (p1:Int),.int .i64 (p2:Int),.int .i64 (p3:Int),.int .i64 (q0:Int),.int .i64 (q1:Int),.int .i64 (q2:Int),.int .i64 (q3:Int)] [.int .i64 k,.int .i64 (x:Int),.int .i64 (y:Int),.int .i64 sg,.bool ov] [.int .i64 3,.int .i64 0,.int .i64 0,.int .i64 0,.bool ((q1:Int) % 2 == 1)]
  (((((w.alloc (.cells #[.slice A d.n cp,.slice B m cq,.int .i64 (d.lp:Int)] 24)).alloc (.cells #[.int .i64 (p0:Int),.int .i64 (p1:Int),.int .i64 (p2:Int),.int .i64 (p3:Int),.int .i64 (q0:Int),.int .i64 (q1:Int),.int .i64 (q2:Int),.int .i64 (q3:Int)] 131)).alloc (.cells #[.int .i64 k,.int .i64 (x:Int),.int .i64 (y:Int),.int .i64 sg,.bool ov] 43)).alloc (.cells #[.int .i64 0,.int .i64 0,.int .i64 0,.int .i64 0,.bool false] 43)).alloc (.cells #[.int .i64 3,.int .i64 0,.int .i64 0,.int .i64 0,.bool ((q1:Int) % 2 == 1)] 43)) by
  refine ⟨((((row_at (vs := [_,_,_]) rfl).alloc _).alloc _).alloc _).alloc _,(((row_at (vs := [_,_,_,_,_,_,_,_]) (by simp)).alloc _).alloc _).alloc _,((row_at (vs := [_,_,_,_,_]) (by simp)).alloc _).alloc _,⟨[_,_,_,_,_],(row_at (vs := [_,_,_,_,_]) (by simp)).alloc _,rfl⟩,row_at (vs := [_,_,_,_,_]) (by rw [hg0]; simp),?_,by omega⟩
  exact (((((Below.refl _ _).alloc (Nat.le_refl _) _).alloc (by simp) _).alloc (by simp; omega) _).alloc (by simp; omega) _).alloc (by simp; omega) _)
 clear hm hg
 unfold Ln.cells
 go_enter Tryz.func89,Tryz.ntmps89
 go_wp2_with fail
 rw [← hg0]
 clear hg0
 obtain ⟨bb,hbb⟩:∃ bb:Bool,bb = ((q1:Int) % 2 == 1) := ⟨_,rfl⟩
 rw [← hbb] at V0 ⊢
 have HBB:=hide (show bb = decide (q1 % 2 = 1) by rw [hbb,Bool.eq_iff_iff]; simp; omega)
 clear hbb
 obtain ⟨mb,mo,rfl,_⟩:=mate_at (HG.out).m k3
 obtain ⟨W0,hW0⟩:∃ W0:World,W0 = (((((w.alloc (.cells #[.slice A d.n cp,.slice (some ⟨mb,mo,none⟩) m cq,.int .i64 (d.lp:Int)] 24)).alloc (.cells #[.int .i64 (p0:Int),.int .i64 (p1:Int),.int .i64 (p2:Int),.int .i64 (p3:Int),.int .i64 (q0:Int),.int .i64 (q1:Int),.int .i64 (q2:Int),.int .i64 (q3:Int)] 131)).alloc (.cells #[.int .i64 k,.int .i64 (x:Int),.int .i64 (y:Int),.int .i64 sg,.bool ov] 43)).alloc (.cells #[.int .i64 0,.int .i64 0,.int .i64 0,.int .i64 0,.bool false] 43)).alloc (.cells #[.int .i64 3,.int .i64 0,.int .i64 0,.int .i64 0,.bool bb] 43)) := ⟨_,rfl⟩
 rw [← hW0] at V0 ⊢
 clear hW0
 have c3:∀ W,Below w.heap.size w W → W.cell? ⟨mb,mo + q3,none⟩ = some (.int .i64 (d.m q3:Nat)):=fun W hb => by
  obtain ⟨b',o',e,c⟩:=mate_at (HG.out.keep hb).m k3
  injection e with e; injection e with e1 e2; subst e1; subst e2; exact c
 have c2:∀ W,Below w.heap.size w W → W.cell? ⟨mb,mo + p2,none⟩ = some (.int .i64 (d.m p2:Nat)):=fun W hb => by
  obtain ⟨b',o',e,c⟩:=mate_at (HG.out.keep hb).m h2
  injection e with e; injection e with e1 e2; subst e1; subst e2; exact c
 have c5:∀ W,Below w.heap.size w W → W.cell? ⟨mb,mo + p3,none⟩ = some (.int .i64 (d.m p3:Nat)):=fun W hb => by
  obtain ⟨b',o',e,c⟩:=mate_at (HG.out.keep hb).m h3
  injection e with e; injection e with e1 e2; subst e1; subst e2; exact c
 have c0:∀ W,Below w.heap.size w W → W.cell? ⟨mb,mo + q0,none⟩ = some (.int .i64 (d.m q0:Nat)):=fun W hb => by
  obtain ⟨b',o',e,c⟩:=mate_at (HG.out.keep hb).m k0
  injection e with e; injection e with e1 e2; subst e1; subst e2; exact c
 have EX:=hide (show pusI d ⟨p0,p1,p2,p3,q0,q1,q2,q3⟩ x y = ⟨3,(if d.m q3 = q0 then (if d.m p2 = p3 then lpv d p3 else oldv d x y p3) else if d.m p2 = p3 then oldv d x y q0 else if d.m p3 = q3 then lpv d p3 else oldv d x y p3),
  (if d.m q3 = q0 then (if d.m p2 = p3 then lpv d p3 else oldv d x y p3) else if d.m p2 = p3 then oldv d x y q0 else if d.m q0 = p2 then lpv d q0 else oldv d x y q0),(if d.m q3 = q0 then 1 else if d.m p2 = p3 then -1 else 0),bb⟩ by rw [HBB.out]; rfl)
 obtain ⟨a3,ha3⟩:∃ a,a = d.m q3 := ⟨_,rfl⟩
 obtain ⟨a2,ha2⟩:∃ a,a = d.m p2 := ⟨_,rfl⟩
 obtain ⟨a5,ha5⟩:∃ a,a = d.m p3 := ⟨_,rfl⟩
 obtain ⟨a0,ha0⟩:∃ a,a = d.m q0 := ⟨_,rfl⟩
 rw [← ha3] at c3 EX
 rw [← ha2] at c2 EX
 rw [← ha5] at c5 EX
 rw [← ha0] at c0 EX
 clear ha3 ha2 ha5 ha0
 have C3:=hide c3
 have C2:=hide c2
 have C5:=hide c5
 have C0:=hide c0
 clear c3 c2 c5 c0
 obtain ⟨XX,hXX⟩:∃ X,X = (if a3 = q0 then (if a2 = p3 then lpv d p3 else oldv d x y p3) else if a2 = p3 then oldv d x y q0 else if a5 = q3 then lpv d p3 else oldv d x y p3) := ⟨_,rfl⟩
 obtain ⟨YY,hYY⟩:∃ Y,Y = (if a3 = q0 then (if a2 = p3 then lpv d p3 else oldv d x y p3) else if a2 = p3 then oldv d x y q0 else if a0 = p2 then lpv d q0 else oldv d x y q0) := ⟨_,rfl⟩
 obtain ⟨SS,hSS⟩:∃ S:Int,S = (if a3 = q0 then 1 else if a2 = p3 then -1 else 0) := ⟨_,rfl⟩
 rw [← hXX,← hYY,← hSS] at EX
 have HXX:=hide hXX
 have HYY:=hide hYY
 have HSS:=hide hSS
 clear hXX hYY hSS
 have i3:(0:Int) ≤ (p3:Int) ∧ (p3:Int) < (m:Int):=by have := HM.out; omega
 have i2:(0:Int) ≤ (p2:Int) ∧ (p2:Int) < (m:Int):=by have := HM.out; omega
 have j0:(0:Int) ≤ (q0:Int) ∧ (q0:Int) < (m:Int):=by have := HM.out; omega
 have j3:(0:Int) ≤ (q3:Int) ∧ (q3:Int) < (m:Int):=by have := HM.out; omega
 obtain ⟨i31,i32⟩:=i3
 obtain ⟨i21,i22⟩:=i2
 obtain ⟨j01,j02⟩:=j0
 obtain ⟨j31,j32⟩:=j3
 obtain ⟨d0,d1,d2,d3⟩:=box3 V0.out.d
 obtain ⟨l0,l1,l2,l3,l4,l5,l6,l7,l8⟩:=box8 V0.out.l
 have c3:=C3.out W0 V0.out.bel
 have c2:=C2.out W0 V0.out.bel
 go_quiet (fail)
 have V1:=hide (V0.out.drewN nq)
 obtain ⟨W1,hW1⟩:∃ W1:World,W1 = W0.drewN nq := ⟨_,rfl⟩
 rw [← hW1] at V1 ⊢
 clear hW1 d0 d1 d2 d3 l0 l1 l2 l3 l4 l5 l6 l7 l8 c3 c2
 obtain ⟨d0,d1,d2,d3⟩:=box3 V1.out.d
 obtain ⟨l0,l1,l2,l3,l4,l5,l6,l7,l8⟩:=box8 V1.out.l
 have c3:=C3.out W1 V1.out.bel
 have c2:=C2.out W1 V1.out.bel
 go_wp2_with fail
 go_quiet (fail)
 have V2:=hide (V1.out.drewN nq)
 obtain ⟨W2,hW2⟩:∃ W2:World,W2 = W1.drewN nq := ⟨_,rfl⟩
 rw [← hW2] at V2 ⊢
 clear hW2 d0 d1 d2 d3 l0 l1 l2 l3 l4 l5 l6 l7 l8 c3 c2
 go_upto_block 0 with fail
 go_cut [10,11] (fun _ _ wx => PV w g0 [.slice A d.n cp,.slice (some ⟨mb,mo,none⟩) m cq,.int .i64 (d.lp:Int)] [.int .i64 (p0:Int),.int .i64 (p1:Int),.int .i64 (p2:Int),.int .i64 (p3:Int),.int .i64 (q0:Int),.int .i64 (q1:Int),.int .i64 (q2:Int),.int .i64 (q3:Int)] [.int .i64 k,.int .i64 (x:Int),.int .i64 (y:Int),.int .i64 sg,.bool ov] [.int .i64 3,.int .i64 XX,.int .i64 YY,.int .i64 SS,.bool bb] wx)
 case first =>
  by_cases e1:a3 = q0
  ·have t1:((a3:Int) == (q0:Int)) = true:=by rw [beq_iff_eq]; omega
   by_cases e2:a2 = p3
   ·have t2:((a2:Int) == (p3:Int)) = true:=by rw [beq_iff_eq]; omega
    have F:=hide (show XX = lpv d p3 ∧ YY = lpv d p3 ∧ SS = 1 from ⟨by rw [HXX.out,if_pos e1,if_pos e2],by rw [HYY.out,if_pos e1,if_pos e2],by rw [HSS.out,if_pos e1]⟩)
    clear e1 e2
    obtain ⟨l0,l1,l2,l3,l4,l5,l6,l7,l8⟩:=box8 V2.out.l
    go_wp2_with fail
    refine (loopF_any d hd A (some ⟨mb,mo,none⟩) cp cq m w.heap.size p3 W2 V2.out.d (HG.out.keep V2.out.bel) h3).mono ?_
    rintro e W3 ⟨rfl,hb3⟩
    have V3:=hide (V2.out.below hb3)
    clear hb3 l0 l1 l2 l3 l4 l5 l6 l7 l8
    obtain ⟨v0,v1,v2,v3,v4,v5⟩:=box5 V3.out.i
    go_wp2_with fail
    go_meet
    rw [F.out.1,F.out.2.1,F.out.2.2]
    exact ((V3.out.set 1 _).set 3 _).set 2 _
   ·have t2:((a2:Int) == (p3:Int)) = false:=by rw [beq_eq_false_iff_ne]; omega
    have F:=hide (show XX = oldv d x y p3 ∧ YY = oldv d x y p3 ∧ SS = 1 from ⟨by rw [HXX.out,if_pos e1,if_neg e2],by rw [HYY.out,if_pos e1,if_neg e2],by rw [HSS.out,if_pos e1]⟩)
    clear e1 e2
    obtain ⟨l0,l1,l2,l3,l4,l5,l6,l7,l8⟩:=box8 V2.out.l
    go_wp2_with fail
    refine (oldF_any d hd A (some ⟨mb,mo,none⟩) cp cq m w.heap.size (w.heap.size + 1 + 1) x y p3 k sg ov W2 HM.out V2.out.d V2.out.m (HG.out.keep V2.out.bel) h3 hxy).mono ?_
    rintro e W3 ⟨rfl,hb3⟩
    have V3:=hide (V2.out.below hb3)
    clear hb3 l0 l1 l2 l3 l4 l5 l6 l7 l8
    obtain ⟨v0,v1,v2,v3,v4,v5⟩:=box5 V3.out.i
    go_wp2_with fail
    go_meet
    rw [F.out.1,F.out.2.1,F.out.2.2]
    exact ((V3.out.set 1 _).set 3 _).set 2 _
  ·have t1:((a3:Int) == (q0:Int)) = false:=by rw [beq_eq_false_iff_ne]; omega
   by_cases e2:a2 = p3
   ·have t2:((a2:Int) == (p3:Int)) = true:=by rw [beq_iff_eq]; omega
    have F:=hide (show XX = oldv d x y q0 ∧ YY = oldv d x y q0 ∧ SS = -1 from ⟨by rw [HXX.out,if_neg e1,if_pos e2],by rw [HYY.out,if_neg e1,if_pos e2],by rw [HSS.out,if_neg e1,if_pos e2]⟩)
    clear e1 e2
    obtain ⟨l0,l1,l2,l3,l4,l5,l6,l7,l8⟩:=box8 V2.out.l
    go_wp2_with fail
    refine (oldF_any d hd A (some ⟨mb,mo,none⟩) cp cq m w.heap.size (w.heap.size + 1 + 1) x y q0 k sg ov W2 HM.out V2.out.d V2.out.m (HG.out.keep V2.out.bel) k0 hxy).mono ?_
    rintro e W3 ⟨rfl,hb3⟩
    have V3:=hide (V2.out.below hb3)
    clear hb3 l0 l1 l2 l3 l4 l5 l6 l7 l8
    obtain ⟨v0,v1,v2,v3,v4,v5⟩:=box5 V3.out.i
    go_wp2_with fail
    go_meet
    rw [F.out.1,F.out.2.1,F.out.2.2]
    exact ((V3.out.set 1 _).set 3 _).set 2 _
   ·have t2:((a2:Int) == (p3:Int)) = false:=by rw [beq_eq_false_iff_ne]; omega
    have F:=hide (show XX = (if a5 = q3 then lpv d p3 else oldv d x y p3) ∧ YY = (if a0 = p2 then lpv d q0 else oldv d x y q0) ∧ SS = 0 from ⟨by rw [HXX.out,if_neg e1,if_neg e2],by rw [HYY.out,if_neg e1,if_neg e2],by rw [HSS.out,if_neg e1,if_neg e2]⟩)
    clear e1 e2
    go_upto_region 6 with fail
    go_cut [] (fun wx => PV w g0 [.slice A d.n cp,.slice (some ⟨mb,mo,none⟩) m cq,.int .i64 (d.lp:Int)] [.int .i64 (p0:Int),.int .i64 (p1:Int),.int .i64 (p2:Int),.int .i64 (p3:Int),.int .i64 (q0:Int),.int .i64 (q1:Int),.int .i64 (q2:Int),.int .i64 (q3:Int)] [.int .i64 k,.int .i64 (x:Int),.int .i64 (y:Int),.int .i64 sg,.bool ov] [.int .i64 3,.int .i64 (oldv d x y p3),.int .i64 (oldv d x y q0),.int .i64 0,.bool bb] wx)
    case first =>
     have HPW:=hide (show PW w g0 [.slice A d.n cp,.slice (some ⟨mb,mo,none⟩) m cq,.int .i64 (d.lp:Int)] [.int .i64 (p0:Int),.int .i64 (p1:Int),.int .i64 (p2:Int),.int .i64 (p3:Int),.int .i64 (q0:Int),.int .i64 (q1:Int),.int .i64 (q2:Int),.int .i64 (q3:Int)] [.int .i64 k,.int .i64 (x:Int),.int .i64 (y:Int),.int .i64 sg,.bool ov] (.int .i64 3) (.int .i64 0) (.bool bb) W2 from ⟨_,_,V2.out⟩)
     go_region_held3 (fun w' => w'.cell? ⟨w.heap.size + 1,3,none⟩ = some (.int .i64 (p3:Int)) ∧ w'.cell? ⟨w.heap.size + 1,4,none⟩ = some (.int .i64 (q0:Int)) ∧ w'.cell? ⟨g0,1,none⟩ = some (cv w' ⟨g0,1,none⟩) ∧ w'.cell? ⟨g0,2,none⟩ = some (cv w' ⟨g0,2,none⟩) ∧ (∀ o,w'.frozen? ⟨g0,o,none⟩ = false) ∧ PW w g0 [.slice A d.n cp,.slice (some ⟨mb,mo,none⟩) m cq,.int .i64 (d.lp:Int)] [.int .i64 (p0:Int),.int .i64 (p1:Int),.int .i64 (p2:Int),.int .i64 (p3:Int),.int .i64 (q0:Int),.int .i64 (q1:Int),.int .i64 (q2:Int),.int .i64 (q3:Int)] [.int .i64 k,.int .i64 (x:Int),.int .i64 (y:Int),.int .i64 sg,.bool ov] (.int .i64 3) (.int .i64 0) (.bool bb) w')
      ((go_split_ands; refine PW.all ?_; (repeat (first | (with_reducible assumption) | (with_reducible exact HPW.out) | (with_reducible refine PW.set1 ?_ _) | (with_reducible refine PW.set2 ?_ _) | (with_reducible refine PW.drew ?_) | (with_reducible refine PW.below ?_ hb5) | (with_reducible refine PW.below ?_ hb4)))))
      (first
        | (have hx5 := hb4
           clear hx5
           go_at_call 113
           refine Calls.mono (oldF_any d hd A (some ⟨mb,mo,none⟩) cp cq m w.heap.size (w.heap.size + 1 + 1) x y q0 k sg ov _ HM.out ?_ ?_ ?_ k0 hxy) ?_
           ·exact (V2.out.drew.below hb4).d
           ·exact (V2.out.drew.below hb4).m
           ·exact HG.out.keep (V2.out.drew.below hb4).bel
           rintro e w5 ⟨rfl,hb5⟩)
        | (go_at_call 113
           refine Calls.mono (oldF_any d hd A (some ⟨mb,mo,none⟩) cp cq m w.heap.size (w.heap.size + 1 + 1) x y p3 k sg ov _ HM.out ?_ ?_ ?_ h3 hxy) ?_
           ·exact V2.out.drew.d
           ·exact V2.out.drew.m
           ·exact HG.out.keep V2.out.drew.bel
           rintro e w4 ⟨rfl,hb4⟩))
     all_goals
      have HP5:=hide (show PW w g0 [.slice A d.n cp,.slice (some ⟨mb,mo,none⟩) m cq,.int .i64 (d.lp:Int)] [.int .i64 (p0:Int),.int .i64 (p1:Int),.int .i64 (p2:Int),.int .i64 (p3:Int),.int .i64 (q0:Int),.int .i64 (q1:Int),.int .i64 (q2:Int),.int .i64 (q3:Int)] [.int .i64 k,.int .i64 (x:Int),.int .i64 (y:Int),.int .i64 sg,.bool ov] (.int .i64 3) (.int .i64 0) (.bool bb) w5 from (HPW.out.drew.below hb4).below hb5)
      go_wp2_with fail
      go_meet
      exact HP5.out.fin _ _
    case rest =>
     have VC:=hide hcut
     clear hcut V0 V1 V2
     obtain ⟨W3,hW⟩:∃ W:World,W = wc := ⟨_,rfl⟩
     rw [← hW] at VC ⊢
     clear hW
     have V3:=VC
     clear VC
     obtain ⟨d0,d1,d2,d3⟩:=box3 V3.out.d
     obtain ⟨l0,l1,l2,l3,l4,l5,l6,l7,l8⟩:=box8 V3.out.l
     have c5:=C5.out W3 V3.out.bel
     go_upto_region 7 with fail
     go_quiet (fail)
     have V4:=hide (V3.out.drewN nq)
     obtain ⟨W4,hW⟩:∃ W:World,W = W3.drewN nq := ⟨_,rfl⟩
     rw [← hW] at V4 ⊢
     clear hW d0 d1 d2 d3 l0 l1 l2 l3 l4 l5 l6 l7 l8 c5
     by_cases e5:a5 = q3
     ·have t5:((a5:Int) == (q3:Int)) = true:=by rw [beq_iff_eq]; omega
      have G5:=hide (show (if a5 = q3 then lpv d p3 else oldv d x y p3) = lpv d p3 from if_pos e5)
      clear e5
      obtain ⟨l0,l1,l2,l3,l4,l5,l6,l7,l8⟩:=box8 V4.out.l
      go_wp2_with fail
      refine (loopF_any d hd A (some ⟨mb,mo,none⟩) cp cq m w.heap.size p3 W4 V4.out.d (HG.out.keep V4.out.bel) h3).mono ?_
      rintro e W5 ⟨rfl,hb5⟩
      have V5:=hide (V4.out.below hb5)
      clear hb5 l0 l1 l2 l3 l4 l5 l6 l7 l8
      obtain ⟨v0,v1,v2,v3,v4,v5⟩:=box5 V5.out.i
      go_upto_region 9 with fail
      obtain ⟨W6,hW⟩:∃ W:World,W = W5.setCell ⟨g0,1,none⟩ (.int .i64 (lpv d p3)) := ⟨_,rfl⟩
      have V6:=hide (V5.out.set 1 (.int .i64 (lpv d p3)))
      rw [← hW] at V6 ⊢
      clear hW v0 v1 v2 v3 v4 v5
      obtain ⟨d0,d1,d2,d3⟩:=box3 V6.out.d
      obtain ⟨l0,l1,l2,l3,l4,l5,l6,l7,l8⟩:=box8 V6.out.l
      have c0:=C0.out W6 V6.out.bel
      go_upto_region 9 with fail
      go_quiet (fail)
      have V7:=hide (V6.out.drewN nq)
      obtain ⟨W7,hW⟩:∃ W:World,W = W6.drewN nq := ⟨_,rfl⟩
      rw [← hW] at V7 ⊢
      clear hW d0 d1 d2 d3 l0 l1 l2 l3 l4 l5 l6 l7 l8 c0
      by_cases e0:a0 = p2
      ·have t0:((a0:Int) == (p2:Int)) = true:=by rw [beq_iff_eq]; omega
       have G0:=hide (show (if a0 = p2 then lpv d q0 else oldv d x y q0) = lpv d q0 from if_pos e0)
       clear e0
       obtain ⟨l0,l1,l2,l3,l4,l5,l6,l7,l8⟩:=box8 V7.out.l
       go_wp2_with fail
       refine (loopF_any d hd A (some ⟨mb,mo,none⟩) cp cq m w.heap.size q0 W7 V7.out.d (HG.out.keep V7.out.bel) k0).mono ?_
       rintro e W8 ⟨rfl,hb8⟩
       have V8:=hide (V7.out.below hb8)
       clear hb8 l0 l1 l2 l3 l4 l5 l6 l7 l8
       obtain ⟨v0,v1,v2,v3,v4,v5⟩:=box5 V8.out.i
       go_wp2_with fail
       go_meet
       rw [F.out.1,F.out.2.1,F.out.2.2,G5.out,G0.out]
       exact V8.out.set 2 _
      ·have t0:((a0:Int) == (p2:Int)) = false:=by rw [beq_eq_false_iff_ne]; omega
       have G0:=hide (show (if a0 = p2 then lpv d q0 else oldv d x y q0) = oldv d x y q0 from if_neg e0)
       clear e0
       go_wp2_with fail
       go_meet
       rw [F.out.1,F.out.2.1,F.out.2.2,G5.out,G0.out]
       exact V7.out
     ·have t5:((a5:Int) == (q3:Int)) = false:=by rw [beq_eq_false_iff_ne]; omega
      have G5:=hide (show (if a5 = q3 then lpv d p3 else oldv d x y p3) = oldv d x y p3 from if_neg e5)
      clear e5
      obtain ⟨d0,d1,d2,d3⟩:=box3 V4.out.d
      obtain ⟨l0,l1,l2,l3,l4,l5,l6,l7,l8⟩:=box8 V4.out.l
      have c0:=C0.out W4 V4.out.bel
      go_upto_region 9 with fail
      go_quiet (fail)
      have V5:=hide (V4.out.drewN nq)
      obtain ⟨W5,hW⟩:∃ W:World,W = W4.drewN nq := ⟨_,rfl⟩
      rw [← hW] at V5 ⊢
      clear hW d0 d1 d2 d3 l0 l1 l2 l3 l4 l5 l6 l7 l8 c0
      by_cases e0:a0 = p2
      ·have t0:((a0:Int) == (p2:Int)) = true:=by rw [beq_iff_eq]; omega
       have G0:=hide (show (if a0 = p2 then lpv d q0 else oldv d x y q0) = lpv d q0 from if_pos e0)
       clear e0
       obtain ⟨l0,l1,l2,l3,l4,l5,l6,l7,l8⟩:=box8 V5.out.l
       go_wp2_with fail
       refine (loopF_any d hd A (some ⟨mb,mo,none⟩) cp cq m w.heap.size q0 W5 V5.out.d (HG.out.keep V5.out.bel) k0).mono ?_
       rintro e W6 ⟨rfl,hb6⟩
       have V6:=hide (V5.out.below hb6)
       clear hb6 l0 l1 l2 l3 l4 l5 l6 l7 l8
       obtain ⟨v0,v1,v2,v3,v4,v5⟩:=box5 V6.out.i
       go_wp2_with fail
       go_meet
       rw [F.out.1,F.out.2.1,F.out.2.2,G5.out,G0.out]
       exact V6.out.set 2 _
      ·have t0:((a0:Int) == (p2:Int)) = false:=by rw [beq_eq_false_iff_ne]; omega
       have G0:=hide (show (if a0 = p2 then lpv d q0 else oldv d x y q0) = oldv d x y q0 from if_neg e0)
       clear e0
       go_wp2_with fail
       go_meet
       rw [F.out.1,F.out.2.1,F.out.2.2,G5.out,G0.out]
       exact V5.out
 case rest =>
  have V3:=hide hcut
  clear hcut V0 V1 V2
  obtain ⟨v0,v1,v2,v3,v4,v5⟩:=box5 V3.out.i
  obtain ⟨us,r2,l2⟩:=V3.out.r
  obtain ⟨b0,b1,b2,b3,b4,b5⟩:wc.cell? ⟨w.heap.size + 1 + 1 + 1,0,none⟩ = some (cv wc ⟨w.heap.size + 1 + 1 + 1,0,none⟩) ∧ wc.cell? ⟨w.heap.size + 1 + 1 + 1,1,none⟩ = some (cv wc ⟨w.heap.size + 1 + 1 + 1,1,none⟩) ∧ wc.cell? ⟨w.heap.size + 1 + 1 + 1,2,none⟩ = some (cv wc ⟨w.heap.size + 1 + 1 + 1,2,none⟩) ∧ wc.cell? ⟨w.heap.size + 1 + 1 + 1,3,none⟩ = some (cv wc ⟨w.heap.size + 1 + 1 + 1,3,none⟩) ∧ wc.cell? ⟨w.heap.size + 1 + 1 + 1,4,none⟩ = some (cv wc ⟨w.heap.size + 1 + 1 + 1,4,none⟩) ∧ (∀ o,wc.frozen? ⟨w.heap.size + 1 + 1 + 1,o,none⟩ = false) := ⟨cv_some (r2.cell (i := 0) (by omega)),cv_some (r2.cell (i := 1) (by omega)),cv_some (r2.cell (i := 2) (by omega)),cv_some (r2.cell (i := 3) (by omega)),cv_some (r2.cell (i := 4) (by omega)),r2.free⟩
  go_wp2
  refine bodyPost_ret (v := .agg #[.int .i64 3,.int .i64 XX,.int .i64 YY,.int .i64 SS,.bool bb]) ?_ rfl ?_
  ·obtain ⟨f0,f1,f2,f3,f4,_⟩:=box5 (row5 r2 l2 (.int .i64 3) (.int .i64 XX) (.int .i64 YY) (.int .i64 SS) (.bool bb))
   clear b0 b1 b2 b3 b4 b5 v0 v1 v2 v3 v4 v5
   simp [results,Tryz.results89,go_sem,f0,f1,f2,f3,f4]
  ·refine ⟨?_,((((V3.out.bel.setCell (by show _ ≤ w.heap.size + 1 + 1 + 1; omega) _).setCell (by show _ ≤ w.heap.size + 1 + 1 + 1; omega) _).setCell (by show _ ≤ w.heap.size + 1 + 1 + 1; omega) _).setCell (by show _ ≤ w.heap.size + 1 + 1 + 1; omega) _).setCell (by show _ ≤ w.heap.size + 1 + 1 + 1; omega) _⟩
   rw [EX.out]
   rfl
end Go.Proofs.YtghdiolnonejaaaGreatDoor
end
section
namespace Go.Proofs.YtghdiolnonejaaaGreatDoor
open Go Go.RowKit
def leadM (d:Pl.Dg) (mt:List Nat) (x:Int) (i o:Nat):List Nat := if x < 0 then jn mt i o else jn (jn mt x.toNat i) o (d.m x.toNat)
structure PK (w:World) (gd gn gr gf g1 c1 n1 g2 c2 n2 base n u0 u1:Nat) (s5 m5 dv ss:List Value) (lpr:Int) (mt:List Nat) (W:World):Prop where
 s:Row W w.heap.size 82 s5
 m:Row W (w.heap.size + 1) 43 m5
 rd:∃ vs,Row W (w.heap.size + 1 + 1) 24 vs ∧ vs.length = 3
 rm:∃ us,Row W (w.heap.size + 1 + 1 + 1) 43 us ∧ us.length = 5
 d:Row W gd 24 dv
 nb:Row W gn 3 [.int .i64 (n:Int)]
 f:Row W gf 124 [.int .i64 (u0:Int),.int .i64 (u1:Int)]
 r:Row W gr 24 [.slice (some ⟨g1,0,none⟩) n1 c1,.slice (some ⟨g2,0,none⟩) n2 c2,.int .i64 lpr]
 o1:W.ownsRow base 3 1 (.slice (some ⟨g1,0,none⟩) n1 c1) n1 ss
 o2:OwnN W base g2 n2 c2 mt
 ne:g1 ≠ g2
 bel:Below w.heap.size w W
 a1:w.heap.size + 1 + 1 + 1 < gd
 a2:w.heap.size + 1 + 1 + 1 < gn
 a3:w.heap.size + 1 + 1 + 1 < gr
 a5:gn < base
 a6:gr ≠ gd
section
variable {w:World} {gd gn gr gf g1 c1 n1 g2 c2 n2 base n u0 u1:Nat} {s5 m5 dv ss:List Value} {lpr:Int} {mt:List Nat} {W W2:World}
end
end Go.Proofs.YtghdiolnonejaaaGreatDoor
end
section
namespace Go.Proofs.YtghdiolnonejaaaGreatDoor
open Go Go.RowKit
def needP (x y sg:Int):Nat := (if x < 0 then 1 else 0) + (if y < 0 ∧ sg = 0 then 1 else 0)
end Go.Proofs.YtghdiolnonejaaaGreatDoor
end
section
namespace Go.Proofs.YtghdiolnonejaaaGreatDoor
open Go Go.RowKit
attribute [local go_sem ↓] Go.wp_at_zero Go.wp_at_succ
section
variable {w W W':World} {s5 m5:List Value}
end
section
variable {w:World} {gd gn gr gf g1 c1 n1 g2 c2 n2 base n u0 u1:Nat} {s5 m5 dv ss:List Value} {lpr:Int} {mt:List Nat} {W W2:World}
end
def pP (d:Pl.Dg) (x y:Int) (ov:Bool) (t:Nat):Nat := plc d.n (un0 d x y ov) t
def pQ (d:Pl.Dg) (x y:Int) (ov:Bool) (t:Nat):Nat := plc (d.n + 1) (un1 d x y ov) t
def pk0 (d:Pl.Dg) (x y:Int) (ov:Bool):List Nat := jn (jn (d.mt ++ List.replicate 8 0) (pP d x y ov 1) (pQ d x y ov 1)) (pQ d x y ov 2) (pP d x y ov 0)
def pkM (d:Pl.Dg) (x y sg:Int) (ov:Bool):List Nat :=
 if sg ≠ 0 ∧ x < 0 then jn (jn (pk0 d x y ov) (pQ d x y ov 3) (pQ d x y ov 0)) (pP d x y ov 2) (pP d x y ov 3)
 else if sg = 1 then jn (jn (jn (pk0 d x y ov) x.toNat (pP d x y ov 3)) (pQ d x y ov 3) (pQ d x y ov 0)) (pP d x y ov 2) (d.m x.toNat)
 else if sg = -1 then jn (jn (jn (pk0 d x y ov) x.toNat (pQ d x y ov 0)) (pP d x y ov 2) (pP d x y ov 3)) (pQ d x y ov 3) (d.m x.toNat)
 else leadM d (leadM d (pk0 d x y ov) y (pQ d x y ov 0) (pP d x y ov 2)) x (pP d x y ov 3) (pQ d x y ov 3)
def pkL (d:Pl.Dg) (x y sg:Int):Int := if sg ≠ 0 ∧ x < 0 then (d.lp:Int) - 1 else if sg = 0 then (if x < 0 then (if y < 0 then (d.lp:Int) - 1 else d.lp) - 1 else (if y < 0 then (d.lp:Int) - 1 else d.lp)) else d.lp
def pkD (d:Pl.Dg) (x y sg:Int) (ov:Bool):Pl.Dg := ⟨d.sg ++ [sgn2 (un0 d x y ov) (ov0 d x y ov),sgn2 (un1 d x y ov) (ov1 d x y ov)],pkM d x y sg ov,(pkL d x y sg).toNat⟩
end Go.Proofs.YtghdiolnonejaaaGreatDoor
end
section
namespace Go.Proofs.YtghdiolnonejaaaGreatDoor
open Go Go.RowKit
def Gl (ps:List Int) (k i:Nat):List Nat := (List.range k).filter (fun c => decide (Pl.pv ps c = (i:Int)))
theorem Gl_succ (ps:List Int) (k i:Nat):Gl ps (k + 1) i = Gl ps k i ++ if Pl.pv ps k = (i:Int) then [k] else [] := by
 unfold Gl
 rw [List.range_succ,List.filter_append]
 by_cases h:Pl.pv ps k = (i:Int) <;> simp [List.filter_cons,h]
theorem Gl_len (ps:List Int) (k i:Nat):(Gl ps k i).length ≤ k := by
 unfold Gl
 have:=List.length_filter_le (fun c => decide (Pl.pv ps c = (i:Int))) (List.range k)
 simpa using this
theorem mem_Gl {ps:List Int} {k i c:Nat}:c ∈ Gl ps k i ↔ c < k ∧ Pl.pv ps c = (i:Int) := by unfold Gl; simp
def gv (vs:List Value) (i:Nat):Value := vs.getD i (.slice none 0 0)
structure Grp (w:World) (g P:Nat) (ps:List Int) (k:Nat) (vs:List Value) (W:World):Prop where
 len:vs.length = P
 row:Row W g 22 vs
 own:∀ i,i < P → W.ownsRow (g + 1) 3 1 (gv vs i) (Gl ps k i).length ((Gl ps k i).map (fun k:Nat => Value.int .i64 k))
 ne:∀ i j,i < P → j < P → i ≠ j → ∀ b,(gv vs i).ownBlock = some b → (gv vs j).ownBlock ≠ some b
 bel:Below w.heap.size w W
 lo:w.heap.size ≤ g
theorem Grp.below {w:World} {g P:Nat} {ps:List Int} {k:Nat} {vs:List Value} {W W':World} (h:Grp w g P ps k vs W) (hb:Below W.heap.size W W'):Grp w g P ps k vs W' :=
 ⟨h.len,h.row.below hb,fun i hi => own_keep (h.own i hi) hb (Nat.le_refl _),h.ne,h.bel.trans (hb.mono h.bel.size),h.lo⟩
theorem gv_set {vs:List Value} {q:Nat} (hq:q < vs.length) (v:Value) (i:Nat):gv (vs.set q v) i = if i = q then v else gv vs i := by
 unfold gv
 rw [List.getD_eq_getElem?_getD,List.getD_eq_getElem?_getD,List.getElem?_set]
 by_cases h:q = i
 ·subst h; simp [hq]
 ·rw [if_neg h,if_neg (fun e => h e.symm)]
theorem Grp.put {w:World} {g P:Nat} {ps:List Int} {k q:Nat} {vs:List Value} {W W2:World} {v':Value} {g':Nat} (h:Grp w g P ps k vs W) (hq:q < P) (hp:Pl.pv ps k = (q:Int))
 (own:W2.ownsRow (g + 1) 3 1 v' ((Gl ps k q).length + 1) ((Gl ps k q).map (fun k:Nat => Value.int .i64 k) ++ [.int .i64 (k:Nat)])) (gr:W.grownBy W2 (gv vs q).ownBlock) (hv:v'.ownBlock = some g') (hat:(gv vs q).ownBlock = some g' ∨ g' = W.heap.size) :
 Grp w g P ps (k + 1) (vs.set q v') (W2.setCell ⟨g,q,none⟩ v') := by
 have hql:q < vs.length:=by rw [h.len]; exact hq
 have hlt:=fun i hi => (h.own i hi).lt
 refine ⟨by rw [List.length_set,h.len],(h.row.grown gr ?_).set q v',fun i hi => ?_,fun i j hi hj hij b e1 e2 => ?_,(h.bel.grown gr h.bel.size (fun b e => by have := (hlt q hq b e).1; have := h.lo; omega)).setCell h.lo _,h.lo⟩
 ·intro e
  have:=(hlt q hq g e.symm).1
  omega
 ·rw [gv_set hql,Gl_succ]
  by_cases e:i = q
  ·subst e
   rw [if_pos rfl,if_pos hp]
   refine ownsRow_setCell_below ?_ (by show g < g + 1; omega) _
   simpa using own
  ·rw [if_neg e,if_neg (by omega),List.append_nil]
   refine ownsRow_setCell_below ((h.own i hi).kept gr ?_) (by show g < g + 1; omega) _
   cases hm:(gv vs i).ownBlock with
   | none => exact .inl rfl
   | some b => exact .inr (fun e' => h.ne i q hi hq e b hm e'.symm)
 ·rw [gv_set hql] at e1 e2
  by_cases ei:i = q
  ·rw [if_pos ei,hv] at e1
   injection e1 with e1
   rw [if_neg (by omega)] at e2
   rcases hat with e | e
   ·exact h.ne q j hq hj (by omega) g' e (by rw [e2,e1])
   ·have:=(hlt j hj b e2).2
    omega
  ·rw [if_neg ei] at e1
   by_cases ej:j = q
   ·rw [if_pos ej,hv] at e2
    injection e2 with e2
    rcases hat with e | e
    ·exact h.ne i q hi hq ei g' (by rw [e1,e2]) e
    ·have:=(hlt i hi b e1).2
     omega
   ·rw [if_neg ej] at e2
    exact h.ne i j hi hj hij b e1 e2
def GraphPost (d:Pl.Dg) (w:World) (e:Ending) (w':World):Prop :=
 ∃ (A:Option Addr) (c P:Nat) (ps:List Int) (vs:List Value),e = .returned (.slice A P c) ∧ P ≤ d.n ∧ Pl.LB d ps P ∧ (∀ a,a < d.n → 0 ≤ Pl.pv ps a) ∧ RowT w' 22 A P vs ∧ Vs w' vs ((List.range P).map (Gl ps d.n)) ∧ Below w.heap.size w w' ∧ Far w.heap.size vs
theorem run_rows (n:Nat) (hn:n ≤ 100000) (w:World):(Instr.makeSlice 59 (.int .i64 (n:Int)) (.int .i64 (n:Int))).run Tryz.prog w = .ok (.slice (some ⟨w.heap.size,0,none⟩) n n) (w.alloc (.cells (Array.replicate n (Value.slice none 0 0)) 22)) := by
 obtain ⟨i0,hi,hz0,hz1,hz2⟩:=info_parts rowInfo
 have:=run_make (P := Tryz.prog) w 59 22 i0 (.slice none 0 0) Tryz.underlying59 hi hz0 .i64 .i64 n n (by omega) (Int.le_refl _) (by rw [hz2]; omega) (by omega)
 rw [hz1,Nat.mul_one,Int.toNat_natCast,show madeCells (Value.cells (.slice none 0 0)) n = (List.replicate n (.slice none 0 0)).toArray from made_rep _ _] at this
 exact this
theorem Row.gv {W:World} {g:Nat} {t:TypeId} {vs:List Value} (h:Row W g t vs) {q:Nat} (hq:q < vs.length):W.cell? ⟨g,q,none⟩ = some (gv vs q) := by
 rw [h.cell hq]
 unfold Go.Proofs.YtghdiolnonejaaaGreatDoor.gv
 rw [List.getD_eq_getElem?_getD,List.getElem?_eq_getElem hq]; rfl
theorem range_get {P i:Nat} {l:List Nat} {f:Nat → List Nat} (e:((List.range P).map f)[i]? = some l):i < P ∧ l = f i := by
 rw [List.getElem?_map] at e
 by_cases h:i < P
 ·rw [List.getElem?_range h] at e
  injection e with e
  exact ⟨h,e.symm⟩
 ·rw [List.getElem?_eq_none (by simpa using Nat.le_of_not_lt h)] at e
  cases e
theorem Grp.vs {w:World} {g P:Nat} {ps:List Int} {k:Nat} {vs:List Value} {W:World} (h:Grp w g P ps k vs W):Vs W vs ((List.range P).map (Gl ps k)) := by
 refine ⟨by simp [h.len],fun i l e => ?_⟩
 obtain ⟨hi,rfl⟩:=range_get e
 have ho:=h.own i hi
 obtain ⟨A,c,e2⟩:=owns_slice ho
 refine ⟨Go.Proofs.YtghdiolnonejaaaGreatDoor.gv vs i,?_,A,c,e2,by rw [e2] at ho; exact own_rowT ho⟩
 unfold Go.Proofs.YtghdiolnonejaaaGreatDoor.gv
 rw [List.getD_eq_getElem?_getD,List.getElem?_eq_getElem (by rw [h.len]; exact hi)]; rfl
theorem Grp.far {w:World} {g P:Nat} {ps:List Int} {k:Nat} {vs:List Value} {W:World} (h:Grp w g P ps k vs W):Far w.heap.size vs := fun v hv b hb => by
 obtain ⟨i,hi,e⟩:=List.mem_iff_getElem.1 hv
 have h1:Go.Proofs.YtghdiolnonejaaaGreatDoor.gv vs i = v:=by unfold Go.Proofs.YtghdiolnonejaaaGreatDoor.gv; rw [List.getD_eq_getElem?_getD,List.getElem?_eq_getElem hi]; exact e
 have h2:=(h.own i (by rw [← h.len]; exact hi)).lt b (by rw [h1]; exact hb)
 have:=h.lo
 omega
set_option maxRecDepth 100000 in
set_option maxHeartbeats 2000000 in
theorem graph_any (d:Pl.Dg) (hd:Pl.Valid d) (A B:Option Addr) (cp cq m:Nat) (w:World) (hm:m = 4 * d.n) (hg:DgAt w A B d) :
 Calls Tryz.prog 87 #[.agg #[.slice A d.n cp,.slice B m cq,.int .i64 d.lp]] w (GraphPost d w) := by
 have hn:=hd.wf.few
 have HM:=hide hm
 have HG:=hide hg
 have B0:=hide (show Below w.heap.size w (w.alloc (.cells #[.slice A d.n cp,.slice B m cq,.int .i64 d.lp] 24)) from (Below.refl _ _).alloc (Nat.le_refl _) _)
 have X0:=hide (show Row (w.alloc (.cells #[.slice A d.n cp,.slice B m cq,.int .i64 d.lp] 24)) w.heap.size 24 [.slice A d.n cp,.slice B m cq,.int .i64 d.lp] from Row.new w _ [_,_,_])
 clear hg
 subst hm
 go_enter Tryz.func87,Tryz.ntmps87
 go_wp2_with fail
 refine (valid_yes d hd A B cp cq _ _ rfl (HG.out.keep B0.out)).mono ?_
 rintro e w1 ⟨rfl,hb1⟩
 have B1:=hide (B0.out.trans (hb1.mono B0.out.size))
 have X1:=hide (X0.out.below hb1)
 obtain ⟨f0,f1,f2,f3⟩:=box3 X1.out
 clear hb1
 go_wp2_with fail
 refine (label_any d hd.wf A B cp cq _ _ (HG.out.keep B1.out)).mono ?_
 rintro e w2 ⟨ps,P,gp,rfl,hlb,hall,hgp,hir,hb2⟩
 have HLB:=hide hlb
 have HALL:=hide hall
 have hPn:=hlb.le
 have HIR:=hide hir
 have B2:=hide (B1.out.trans (hb2.mono B1.out.size))
 have hgps:=hir.lt
 have hps:ps.length = d.n:=hlb.len
 have HPS:=hide hps
 clear hlb hall hir hb2 f0 f1 f2 f3 hps
 have hmk:=fun W:World => run_rows P (by omega) W
 have H0:=hide (show Grp w w2.heap.size P ps 0 (List.replicate P (.slice none 0 0)) (w2.alloc (.cells (Array.replicate P (Value.slice none 0 0)) 22)) from by
  have hgv:∀ i,gv (List.replicate P (.slice none 0 0)) i = .slice none 0 0:=fun i => by
   unfold Go.Proofs.YtghdiolnonejaaaGreatDoor.gv
   rw [List.getD_eq_getElem?_getD,List.getElem?_replicate]
   split <;> rfl
  refine ⟨by simp,?_,fun i hi => ?_,fun i j hi hj hij b e => ?_,B2.out.alloc B2.out.size _,B2.out.size⟩
  ·have:=Row.new w2 22 (List.replicate P (.slice none 0 0))
   simpa using this
  ·rw [hgv]; exact World.ownsRow_nil _ _ _ _
  ·rw [hgv] at e; simp [Value.ownBlock] at e)
 have HI0:=hide (show IRow (w2.alloc (.cells (Array.replicate P (Value.slice none 0 0)) 22)) gp ps from Row.alloc HIR.out _)
 go_wp2
 clear hmk
 obtain ⟨gg,hgg⟩:∃ gg,gg = w2.heap.size := ⟨_,rfl⟩
 rw [← hgg] at H0 hgps ⊢
 have HGG:=hide hgg
 go_loopg [20] d.n (fun g i wx => ∃ (k:Nat) (vs:List Value),k + g = d.n ∧ i = .int .i64 k ∧ Grp w gg P ps k vs wx ∧ IRow wx gp ps)
 case atStart => exact ⟨0,_,by omega,rfl,by have := H0.out; rw [hgg] at this ⊢; exact this,HI0.out⟩
 case round =>
  clear H0 HI0 HIR hgg HGG
  obtain ⟨k,vs,hkg,rfl,hgr,hir⟩:=hrel
  have HKG:=hide hkg
  have hkn:k ≤ d.n:=by omega
  have HGR:=hide hgr
  have HIR:=hide hir
  have hsz:=hgr.row.lt
  clear hkg hgr hir
  by_cases hlt:k < d.n
  ·have c1:=HIR.out.cell (i := k) (by rw [HPS.out]; exact hlt)
   have h0:=HALL.out k hlt
   have h1:=(HLB.out.lo k hlt).2
   obtain ⟨q,hq⟩:=Int.eq_ofNat_of_zero_le h0
   rw [hq] at c1 h1
   have HQ:=hide hq
   clear hq h0
   have hqP:q < P:=by omega
   have hql:q < vs.length:=by rw [HGR.out.len]; exact hqP
   have c2:=HGR.out.row.gv hql
   have fr2:=HGR.out.row.free q
   obtain ⟨vq,hvq⟩:∃ v,v = gv vs q := ⟨_,rfl⟩
   rw [← hvq] at c2
   have HVQ:=hide hvq
   clear hvq
   have iq:(0:Int) ≤ (q:Int):=by omega
   have jq:(q:Int) < (P:Int):=by omega
   have hgl:=Gl_len ps k q
   obtain ⟨i0,hi0,hz0,hz1,hz2⟩:=info_parts intInfo
   have OQ:=hide (show wr.ownsRow (gg + 1) 3 1 vq (Gl ps k q).length ((Gl ps k q).map (fun k:Nat => Value.int .i64 k)) by rw [HVQ.out]; exact HGR.out.own q hqP)
   go_wp2_with (at_builtin; refine wpList_append_lies _ (by rfl) _ _ 22 (by rfl) (gg + 1) 3 i0 (.int .i64 0) 1 8 Tryz.underlying22 hi0 hz0 hz1 hz2 rfl (by omega) vq (Gl ps k q).length _ (by rfl) (OQ.out.alloc _) ⟨wr.heap.size,0,none⟩ 1 1 [.int .i64 (k:Nat)] (by rfl) (by rfl) (one_news wr (.int .i64 (k:Nat))) (by simp [Value.oneCell']) (by omega) (by unfold maxLen; omega) (by omega) (by simp; omega) (wr.heap.size + 1) (by simp) ?_; intro g3 c3 w3 own3 grow3 at3 lt3; have hrow3 := Row.grown (Row.alloc HGR.out.row (.cells #[.int .i64 (k:Nat)] 3)) grow3 (by intro e; have := (OQ.out.lt gg e.symm).1; omega); have cq3 := hrow3.gv hql; have fq3 := hrow3.free q; have OWN3 := hide own3; have GR3 := hide grow3; have AT3 := hide at3; have HROW3 := hide hrow3; clear own3 grow3 at3 hrow3)
   go_roundg (gk - 1)
   case measure => have := HKG.out; omega
   case rel =>
    refine ⟨k + 1,vs.set q (.slice (some ⟨g3,0,none⟩) ((Gl ps k q).length + 1) c3),by have := HKG.out; omega,by go_num,?_,?_⟩
    ·exact Grp.put (HGR.out.below ((Below.refl _ _).alloc (Nat.le_refl _) (.cells #[.int .i64 (k:Nat)] 3))) hqP HQ.out OWN3.out (by rw [← HVQ.out]; exact GR3.out) rfl (by rw [← HVQ.out]; simpa using AT3.out)
    ·refine Row.other (Row.grown (Row.alloc HIR.out _) GR3.out ?_) (by show gp ≠ gg; omega) _
     intro e
     have:=(OQ.out.lt gp e.symm).1
     omega
  ·go_wp2
   go_ret
   obtain rfl:k = d.n := by omega
   refine ⟨_,_,P,ps,vs,rfl,hPn,HLB.out,HALL.out,?_,HGR.out.vs,HGR.out.bel,HGR.out.far⟩
   refine ⟨HGR.out.len,fun _ => ⟨gg,0,vs.toArray,(0,0),rfl,HGR.out.row,fun j u hu => ?_⟩⟩
   rw [Nat.zero_add]
   simpa using hu
end Go.Proofs.YtghdiolnonejaaaGreatDoor
end
section
namespace Go.Proofs.YtghdiolnonejaaaGreatDoor
open Go.RowKit
def inR (n:Nat) (m:Mv):Prop :=
 if m.kind = 1 then -1 ≤ m.x ∧ m.x < 4 * n ∧ m.y = 0 ∧ (m.sign = 1 ∨ m.sign = -1)
 else if m.kind = 2 then 0 ≤ m.x ∧ m.x < n ∧ m.y = 0 ∧ m.sign = 0 ∧ m.over = false
 else if m.kind = 4 then 0 ≤ m.x ∧ m.x < m.y ∧ m.y < n ∧ m.sign = 0 ∧ m.over = false
 else if m.kind = 5 then 0 ≤ m.x ∧ m.x < 4 * n ∧ m.y = 0 ∧ m.sign = 0 ∧ m.over = false
 else -2 ≤ m.x ∧ m.x < 4 * n ∧ -2 ≤ m.y ∧ m.y < 4 * n ∧ (if m.x ≠ m.y then m.sign = 0 else if m.x < 0 then m.sign = 0 ∨ m.sign = 1 else m.sign = 1 ∨ m.sign = -1)
def InPost (n:Nat) (m:Mv) (w:World) (e:Ending) (w':World):Prop := e = .returned (.bool (Pl.vb (inR n m))) ∧ Below w.heap.size w w'
theorem in_ret {p:Prop} {b:Bool} (h:b = true ↔ p):Ending.returned (.bool b) = .returned (.bool (Pl.vb p)) := by
 refine ret_bool ?_
 rw [Bool.eq_iff_iff,Pl.vb_iff,h]
set_option maxRecDepth 100000 in
set_option maxHeartbeats 1000000 in
theorem inRange_2 (n:Nat) (x y s:Int) (o:Bool) (w:World) (hn:n ≤ 1000) :
 Calls Tryz.prog 45 #[.int .i64 (n:Int),(Mv.mk 2 x y s o).v] w (InPost n ⟨2,x,y,s,o⟩ w) := by
 unfold Mv.v
 by_cases hs:s = 0
 ·subst hs
  cases o
  all_goals
   go_enter Tryz.func45,Tryz.ntmps45
   go_wp2
   all_goals
    go_ret
    refine ⟨in_ret ?_,(Below.refl _ _).alloc (Nat.le_refl _) _⟩
    unfold inR
    (try simp only [beq_iff_eq,beq_eq_false_iff_ne,ne_eq,bne_iff_ne,decide_eq_true_eq,decide_eq_false_iff_not] at *); (first | (simp; done) | (simp; omega) | omega | (simp_all; done) | (simp_all; omega))
 ·have t0:(s == 0) = false:=by simpa using hs
  go_enter Tryz.func45,Tryz.ntmps45
  go_wp2
  all_goals
   go_ret
   refine ⟨in_ret ?_,(Below.refl _ _).alloc (Nat.le_refl _) _⟩
   unfold inR
   (try simp only [beq_iff_eq,beq_eq_false_iff_ne,ne_eq,bne_iff_ne,decide_eq_true_eq,decide_eq_false_iff_not] at *); (first | (simp; done) | (simp; omega) | omega | (simp_all; done) | (simp_all; omega))
set_option maxRecDepth 100000 in
set_option maxHeartbeats 1000000 in
theorem inRange_4 (n:Nat) (x y s:Int) (o:Bool) (w:World) (hn:n ≤ 1000) :
 Calls Tryz.prog 45 #[.int .i64 (n:Int),(Mv.mk 4 x y s o).v] w (InPost n ⟨4,x,y,s,o⟩ w) := by
 unfold Mv.v
 by_cases hs:s = 0
 ·subst hs
  cases o
  all_goals
   go_enter Tryz.func45,Tryz.ntmps45
   go_wp2
   all_goals
    go_ret
    refine ⟨in_ret ?_,(Below.refl _ _).alloc (Nat.le_refl _) _⟩
    unfold inR
    (try simp only [beq_iff_eq,beq_eq_false_iff_ne,ne_eq,bne_iff_ne,decide_eq_true_eq,decide_eq_false_iff_not] at *); (first | (simp; done) | (simp; omega) | omega | (simp_all; done) | (simp_all; omega))
 ·have t0:(s == 0) = false:=by simpa using hs
  go_enter Tryz.func45,Tryz.ntmps45
  go_wp2
  all_goals
   go_ret
   refine ⟨in_ret ?_,(Below.refl _ _).alloc (Nat.le_refl _) _⟩
   unfold inR
   (try simp only [beq_iff_eq,beq_eq_false_iff_ne,ne_eq,bne_iff_ne,decide_eq_true_eq,decide_eq_false_iff_not] at *); (first | (simp; done) | (simp; omega) | omega | (simp_all; done) | (simp_all; omega))
set_option maxRecDepth 100000 in
set_option maxHeartbeats 1000000 in
theorem inRange_5 (n:Nat) (x y s:Int) (o:Bool) (w:World) (hn:n ≤ 1000) :
 Calls Tryz.prog 45 #[.int .i64 (n:Int),(Mv.mk 5 x y s o).v] w (InPost n ⟨5,x,y,s,o⟩ w) := by
 unfold Mv.v
 by_cases hs:s = 0
 ·subst hs
  cases o
  all_goals
   go_enter Tryz.func45,Tryz.ntmps45
   go_wp2
   all_goals
    go_ret
    refine ⟨in_ret ?_,(Below.refl _ _).alloc (Nat.le_refl _) _⟩
    unfold inR
    (try simp only [beq_iff_eq,beq_eq_false_iff_ne,ne_eq,bne_iff_ne,decide_eq_true_eq,decide_eq_false_iff_not] at *); (first | (simp; done) | (simp; omega) | omega | (simp_all; done) | (simp_all; omega))
 ·have t0:(s == 0) = false:=by simpa using hs
  go_enter Tryz.func45,Tryz.ntmps45
  go_wp2
  all_goals
   go_ret
   refine ⟨in_ret ?_,(Below.refl _ _).alloc (Nat.le_refl _) _⟩
   unfold inR
   (try simp only [beq_iff_eq,beq_eq_false_iff_ne,ne_eq,bne_iff_ne,decide_eq_true_eq,decide_eq_false_iff_not] at *); (first | (simp; done) | (simp; omega) | omega | (simp_all; done) | (simp_all; omega))
end Go.Proofs.YtghdiolnonejaaaGreatDoor
end
section
namespace Go.Proofs.YtghdiolnonejaaaGreatDoor
open Go Go.RowKit
theorem own_row_ne {W:World} {base b n:Nat} {t:TypeId} {v:Value} {xs vs:List Value} (h:W.ownsRow base 3 1 v n xs) (hr:Row W b t vs) (ht:3 ≠ t):some b ≠ v.ownBlock := by
 intro e
 obtain ⟨cs,fr,h3⟩:=ownsRow_block h b e.symm
 rw [hr] at h3
 injection h3 with h3
 injection h3 with _ h4
 exact ht h4.symm
structure RK (base:Nat) (w:World) (vS vM:Value) (n q:Nat) (lp:Int) (mv:List Value) (ss:List Int) (l:List Nat) (W:World):Prop where
 d:Row W w.heap.size 24 [vS,vM,.int .i64 lp]
 m:Row W (w.heap.size + 1) 43 mv
 rd:∃ vs,Row W (w.heap.size + 1 + 1) 24 vs ∧ vs.length = 3
 rm:∃ us,Row W (w.heap.size + 1 + 1 + 1) 43 us ∧ us.length = 5
 s:W.ownsRow base 3 1 vS n (ss.map (.int .i64))
 o:W.ownsRow base 3 1 vM q (l.map (fun k:Nat => Value.int .i64 k))
 ne:∀ k,vS.ownBlock = some k → vM.ownBlock ≠ some k
 bel:Below base w W
 le:base ≤ w.heap.size
section
variable {base:Nat} {w W W' W2:World} {vS vM v':Value} {n q:Nat} {lp:Int} {mv:List Value} {ss:List Int} {l:List Nat}
end
end Go.Proofs.YtghdiolnonejaaaGreatDoor
end
section
namespace Go.Proofs.YtghdiolnonejaaaGreatDoor.Pl
variable {N:Nat} {S:Nat → Prop} {r a:Nat → Nat}
theorem gen_id (h:Hm N S r a) (hid:∀ x,S x → a x = x):Gen S r a 0 := by
 obtain ⟨z,hz⟩:=h.gen
 have hz':=hz
 obtain ⟨v,d,k,f,c,h1,h2,h3,h4,h5,rfl⟩:=hz
 have e1:d = k:=h2.unique (h3.congr (fun _ => Iff.rfl) (fun x y hx _ => ⟨fun e => (free_orb (hid x hx) e).symm,fun e => e ▸ Orb.refl a x⟩))
 have hp:∀ x y,S x → (Orb (phi r a) x y ↔ Orb r x y):=fun x y hx =>
  ⟨fun e => orb_sub h.pb h.rb.eqv (fun z hz => by unfold phi; rw [hid z hz]; exact Orb.step r z) hx e,
   fun e => orb_sub h.rb h.pb.eqv (fun z hz => by have := Orb.step (phi r a) z; unfold phi at this; rw [hid z hz] at this; exact this) hx e⟩
 have e2:f = v:=h4.unique (h1.congr (fun _ => Iff.rfl) (fun x y hx _ => (hp x y hx).symm))
 have e3:c = v:=h5.unique (h1.congr (fun _ => Iff.rfl) (fun x y hx _ => ⟨fun e => orb_con_left a e,fun e => con_sub h h.rb.eqv (fun z _ => Orb.step r z) (fun z hz => by rw [hid z hz]; exact Orb.refl r z) hx e⟩))
 have:(2 * (c:Int) - v + d - k - f) = 0:=by omega
 rw [this] at hz'
 exact hz'
theorem Orb.congr {f g:Nat → Nat} (hm:∀ x,S x → S (f x)) (h:∀ x,S x → f x = g x) {x y:Nat} (hx:S x):Orb f x y ↔ Orb g x y := by
 have key:∀ k,it f k x = it g k x ∧ S (it f k x):=by
  intro k
  induction k with
  | zero => exact ⟨rfl,hx⟩
  | succ k ih => exact ⟨by show f (it f k x) = g (it g k x); rw [← ih.1,h _ ih.2],hm _ ih.2⟩
 constructor
 ·rintro ⟨k,rfl⟩; exact ⟨k,(key k).1.symm⟩
 ·rintro ⟨k,rfl⟩; exact ⟨k,(key k).1⟩
theorem Con.congr {f g f' g':Nat → Nat} (h1:∀ x,S x → S (f x)) (h2:∀ x,S x → S (g x)) (e1:∀ x,S x → f x = f' x) (e2:∀ x,S x → g x = g' x) {x y:Nat} (hx:S x):Con f g x y ↔ Con f' g' x y := by
 constructor
 ·intro h
  have:Con f' g' x y ∧ S y:=by
   induction h with
   | refl => exact ⟨.refl,hx⟩
   | left _ ih => exact ⟨by rw [e1 _ ih.2]; exact ih.1.left,h1 _ ih.2⟩
   | right _ ih => exact ⟨by rw [e2 _ ih.2]; exact ih.1.right,h2 _ ih.2⟩
  exact this.1
 ·intro h
  have:Con f g x y ∧ S y:=by
   induction h with
   | refl => exact ⟨.refl,hx⟩
   | left _ ih => exact ⟨by rw [← e1 _ ih.2]; exact ih.1.left,by rw [← e1 _ ih.2]; exact h1 _ ih.2⟩
   | right _ ih => exact ⟨by rw [← e2 _ ih.2]; exact ih.1.right,by rw [← e2 _ ih.2]; exact h2 _ ih.2⟩
  exact this.1
theorem Gen.congr {r' a':Nat → Nat} {z:Int} (h:Hm N S r a) (e1:∀ x,S x → r x = r' x) (e2:∀ x,S x → a x = a' x) (hz:Gen S r a z):Gen S r' a' z := by
 obtain ⟨v,d,k,f,c,h1,h2,h3,h4,h5,rfl⟩:=hz
 exact ⟨v,d,k,f,c,h1.congr (fun _ => Iff.rfl) (fun _ _ hx _ => Orb.congr h.rb.maps e1 hx),h2,h3.congr (fun _ => Iff.rfl) (fun _ _ hx _ => Orb.congr h.ab.maps e2 hx),
  h4.congr (fun _ => Iff.rfl) (fun _ _ hx _ => Orb.congr h.pb.maps (fun x hx => by unfold phi; rw [← e2 x hx,e1 _ (h.ab.maps x hx)]) hx),
  h5.congr (fun _ => Iff.rfl) (fun _ _ hx _ => Con.congr h.rb.maps h.ab.maps e1 e2 hx),rfl⟩
theorem Hm.congr {r' a':Nat → Nat} (h:Hm N S r a) (e1:∀ x,S x → r x = r' x) (e2:∀ x,S x → a x = a' x):Hm N S r' a' :=
 ⟨⟨h.rb.lt,fun x hx => by rw [← e1 x hx]; exact h.rb.maps x hx,fun x y hx hy e => h.rb.inj x y hx hy (by rw [e1 x hx,e1 y hy,e])⟩,
  ⟨h.ab.lt,fun x hx => by rw [← e2 x hx]; exact h.ab.maps x hx,fun x y hx hy e => h.ab.inj x y hx hy (by rw [e2 x hx,e2 y hy,e])⟩,
  fun x hx => by rw [← e2 x hx,← e2 _ (h.ab.maps x hx)]; exact h.inv x hx⟩
theorem Gen.edge (h:Hm N S r a) {x y:Nat} {z:Int} (hx:S x) (hy:S y) (hne:x ≠ y) (fx:a x = x) (fy:a y = y) (hz:Gen S r a z) :
 ((Con r a x y → Orb (phi r a) x y) ∧ Gen S r (tr a x y) z) ∨ ((Con r a x y ∧ ¬ Orb (phi r a) x y) ∧ Gen S r (tr a x y) (z + 2)) := by
 by_cases ho:Orb (phi r a) x y
 ·exact .inl ⟨fun _ => ho,Gen.within h hx hy hne fx fy ho hz⟩
 ·by_cases hc:Con r a x y
  ·exact .inr ⟨⟨hc,ho⟩,Gen.handle h hx hy fx fy ho hc hz⟩
  ·exact .inl ⟨fun e => absurd e hc,Gen.between h hx hy fx fy hc hz⟩
theorem Gen.detour (h:Hm N S r a) {x y u v:Nat} (hx:S x) (hy:S y) (hu:S u) (hv:S v) (hxy:x ≠ y) (huv:u ≠ v) (fx:a x = x) (fy:a y = y) (fu:a u = u) (fv:a v = v)
 (n1:¬ Con r a x u) (n2:¬ Con r a y u) (ho:Orb (phi r a) v u) {z:Int} (hz:Gen S r (tr a x y) z):Gen S r (tr (tr a x u) v y) z := by
 have hvu:=orb_phi_con ho
 have n3:¬ Con r a v y:=fun e => n2 ((h.con_symm hv e).trans hvu)
 have n4:¬ Con r a x v:=fun e => n1 (e.trans hvu)
 have xu:x ≠ u:=fun e => n1 (e ▸ .refl)
 have xv:x ≠ v:=fun e => n4 (e ▸ .refl)
 have vy:v ≠ y:=fun e => n3 (e ▸ .refl)
 have yu:y ≠ u:=fun e => n2 (e ▸ .refl)
 obtain ⟨z0,hz0⟩:=h.gen
 have h1:=h.tr hx hu fx fu
 have g1:=Gen.between h hx hu fx fu n1 hz0
 have fv1:tr a x u v = v:=by rw [tr_ne (Ne.symm xv) (Ne.symm huv),fv]
 have fy1:tr a x u y = y:=by rw [tr_ne (Ne.symm hxy) yu,fy]
 have nf:¬ Orb (phi r a) x u:=fun e => n1 (orb_phi_con e)
 -- connected,and in one face,at the same time
 have ec:Con r (tr a x u) v y ↔ Con r a x y:=by
  rw [h.con_tr hx hu fx fu hv]
  constructor
  ·rintro (e | ⟨e1,_⟩ | ⟨_,e2⟩)
   ·exact absurd e n3
   ·exact absurd (h.con_symm hv e1) n4
   ·exact e2
  ·intro e; exact .inr (.inr ⟨hvu,e⟩)
 have eo:Orb (phi r (tr a x u)) v y ↔ Orb (phi r a) x y:=by
  rw [phi_tr,h.pb.merge hx hu nf hv]
  constructor
  ·rintro (e | ⟨e1,_⟩ | ⟨_,e2⟩)
   ·exact absurd (orb_phi_con e) n3
   ·exact absurd (h.con_symm hv (orb_phi_con e1)) n4
   ·exact e2
  ·intro e; exact .inr (.inr ⟨ho,e⟩)
 rcases Gen.edge h hx hy hxy fx fy hz0 with ⟨c1,k1⟩ | ⟨c1,k1⟩ <;> rcases Gen.edge h1 hv hy vy fv1 fy1 g1 with ⟨c2,k2⟩ | ⟨c2,k2⟩
 ·rw [hz.unique k1]; exact k2
 ·rw [ec,eo] at c2; exact absurd (c1 c2.1) c2.2
 ·rw [ec,eo] at c2; exact absurd (c2 c1.1) c1.2
 ·rw [hz.unique k1]; exact k2
theorem Flat.push (h:Hm N S r a) {y y' c d p:Nat} (hy:S y) (hy':S y') (hc:S c) (hd:S d) (yy:y ≠ y') (yc:y ≠ c) (yd:y ≠ d) (cd:c ≠ d) (y'c:y' ≠ c) (y'd:y' ≠ d)
 (fy:a y = y) (fy':a y' = y') (fc:a c = c) (fd:a d = d) (e1:phi r a d = p) (e2:phi r a p = c) (py:p ≠ y) (pc:p ≠ c)
 (hn:Orb (phi r (tr a y y')) c y ∨ ¬ Con r (tr a y y') c y) (hf:Flat S r (tr a y y')):Flat S r (tr (tr a y c) d y') := by
 have h1:=h.tr hy hc fy fc
 have h2:=h.tr hy hy' fy fy'
 have fd1:tr a y c d = d:=by rw [tr_ne (Ne.symm yd) (Ne.symm cd),fd]
 have fy1:tr a y c y' = y':=by rw [tr_ne (Ne.symm yy) y'c,fy']
 obtain ⟨f0,k0⟩:=Flat.del h hy hy' yy fy fy' hf
 have odc:Orb (phi r a) d c:=⟨2,by show phi r a (phi r a d) = c; rw [e1,e2]⟩
 have cdc:=orb_phi_con odc
 have odc':Orb (phi r (tr a y c)) d c:=by
  refine ⟨2,?_⟩
  show phi r (tr a y c) (phi r (tr a y c) d) = c
  rw [phi_tr,tr_ne (Ne.symm yd) (Ne.symm cd),e1,tr_ne py pc,e2]
 -- what a holds,the map with (y y') holds
 have up:∀ {u v},S u → Con r a u v → Con r (tr a y y') u v:=fun hu e => (h.con_tr hy hy' fy fy' hu).2 (.inl e)
 have eyy:Con r (tr a y y') y y':=(h.con_tr hy hy' fy fy' hy).2 (.inr (.inl ⟨.refl,.refl⟩))
 by_cases hcy:Con r (tr a y y') c y
 ·have hocy:=hn.resolve_right (fun e => e hcy)
  by_cases hyy:Con r a y y'
  ·-- (i): one orbit of a,parted by (y y')
   have oyy:=k0 hyy
   have hno:¬ Orb (phi r (tr a y y')) y y':=by rw [phi_tr]; exact h.pb.part hy hy' yy oyy
   have ocy:Orb (phi r a) c y:=by
    have hg:=h.pb.tr hy hy'
    have:=(hg.merge hy hy' (h.pb.part hy hy' yy oyy) hc (y := y)).2 (.inl (by rw [← phi_tr]; exact hocy))
    rwa [tr_tr] at this
   have f1:Flat S r (tr a y c):=Flat.add h hy hc yc fy fc (fun _ => h.pb.symm hc ocy) f0
   refine Flat.add h1 hd hy' (Ne.symm y'd) fd1 fy1 (fun _ => odc'.trans ?_) f1
   -- c and y' in one orbit behind (y c): by the three values
   have key:phi r (tr a y c) = tr (tr (phi r (tr a y y')) y c) c y':=by
    rw [phi_tr,phi_tr]
    funext x
    by_cases x1:x = y
    ·subst x1
     rw [tr_a,tr_ne yc yy,tr_a,tr_ne (Ne.symm yc) (Ne.symm y'c)]
    ·by_cases x2:x = c
     ·subst x2
      rw [tr_b,tr_a,tr_ne (Ne.symm yy) y'c,tr_b]
     ·by_cases x3:x = y'
      ·subst x3
       rw [tr_ne x1 x2,tr_b,tr_b,tr_a]
      ·rw [tr_ne x1 x2,tr_ne x2 x3,tr_ne x1 x2,tr_ne x1 x3]
   have hg2:Bij N S (tr (phi r (tr a y y')) y c):=h2.pb.tr hy hc
   have hn2:¬ Orb (tr (phi r (tr a y y')) y c) c y':=by
    intro e
    have oyc2:Orb (phi r (tr a y y')) y c:=h2.pb.symm hc hocy
    have hn3:=h2.pb.part hy hc yc oyc2
    have:=(hg2.merge hy hc hn3 hc (y := y')).2 (.inl e)
    rw [tr_tr] at this
    exact hno (oyc2.trans this)
   rw [key]
   exact hg2.run hy' hn2 hc
  ·have nf:¬ Orb (phi r a) y y':=fun e => hyy (orb_phi_con e)
   rw [phi_tr,h.pb.merge hy hy' nf hc] at hocy
   rcases hocy with e | ⟨e3,e4⟩ | ⟨e3,_⟩
   ·-- c in y's orbit
    have f1:Flat S r (tr a y c):=Flat.add h hy hc yc fy fc (fun _ => h.pb.symm hc e) f0
    refine Flat.add h1 hd hy' (Ne.symm y'd) fd1 fy1 (fun hx => ?_) f1
    rw [h.con_tr hy hc fy fc hd] at hx
    have ecy:=orb_phi_con e
    rcases hx with x1 | ⟨_,x2⟩ | ⟨_,x2⟩
    ·exact absurd (((h.con_symm hc ecy).trans (h.con_symm hd cdc)).trans x1) hyy
    ·exact absurd ((h.con_symm hc ecy).trans x2) hyy
    ·exact absurd x2 hyy
   ·exact absurd (h.con_symm hy' (orb_phi_con e4)) hyy
   ·-- c in the orbit of y'
    have ncy:¬ Con r a y c:=fun e => hyy (e.trans (orb_phi_con e3))
    have f1:Flat S r (tr a y c):=Flat.add h hy hc yc fy fc (fun e => absurd e ncy) f0
    refine Flat.add h1 hd hy' (Ne.symm y'd) fd1 fy1 (fun _ => ?_) f1
    rw [phi_tr,h.pb.merge hy hc (fun e => ncy (orb_phi_con e)) hd]
    exact .inl (odc.trans e3)
 ·have ncy:¬ Con r a y c:=fun e => hcy (h2.con_symm hy (up hy e))
  have f1:Flat S r (tr a y c):=Flat.add h hy hc yc fy fc (fun e => absurd e ncy) f0
  refine Flat.add h1 hd hy' (Ne.symm y'd) fd1 fy1 (fun hx => ?_) f1
  rw [h.con_tr hy hc fy fc hd] at hx
  rw [phi_tr,h.pb.merge hy hc (fun e => ncy (orb_phi_con e)) hd]
  rcases hx with x1 | ⟨x1,_⟩ | ⟨_,x2⟩
  ·have:Con r (tr a y y') c y:=(up hc (h.con_symm hd cdc)).trans ((up hd x1).trans (h2.con_symm hy eyy))
   exact absurd this hcy
  ·exact absurd ((h.con_symm hd x1).trans cdc) ncy
  ·exact .inr (.inr ⟨odc,k0 x2⟩)
end Go.Proofs.YtghdiolnonejaaaGreatDoor.Pl
end
section
namespace Go.Proofs.YtghdiolnonejaaaGreatDoor.Pl
def ex (n:Nat) (a:Nat → Nat) (x:Nat):Nat := if x < 4 * n then a x else x
theorem ex_old {n:Nat} {a:Nat → Nat} {x:Nat} (h:x < 4 * n):ex n a x = a x := if_pos h
theorem ex_new {n:Nat} {a:Nat → Nat} {x:Nat} (h:4 * n ≤ x):ex n a x = x := if_neg (by omega)
theorem rot_lt {k x:Nat} (h:x < 4 * k):rot x < 4 * k := tn_lt h
theorem rot_ge {k x:Nat} (h:4 * k ≤ x):4 * k ≤ rot x := by unfold rot tn; omega
theorem rot_at (n e:Nat) (h:e < 4):rot (4 * n + e) = 4 * n + (e + 3) % 4 := by unfold rot tn; omega
theorem ext_hm {n M:Nat} {a:Nat → Nat} (hM:n ≤ M) (h:Hm (4 * n) (fun h => h < 4 * n) rot a):Hm (4 * M) (fun h => h < 4 * M) rot (ex n a) := by
 refine ⟨rot_bij M,⟨fun _ h => h,fun x hx => ?_,fun x y hx hy e => ?_⟩,fun x hx => ?_⟩
 ·by_cases h1:x < 4 * n
  ·show ex n a x < 4 * M
   rw [ex_old h1]; have := h.ab.maps x h1; omega
  ·show ex n a x < 4 * M
   rw [ex_new (by omega)]; exact hx
 ·by_cases h1:x < 4 * n <;> by_cases h2:y < 4 * n
  ·rw [ex_old h1,ex_old h2] at e; exact h.ab.inj x y h1 h2 e
  ·rw [ex_old h1,ex_new (by omega)] at e; have := h.ab.maps x h1; omega
  ·rw [ex_new (by omega),ex_old h2] at e; have := h.ab.maps y h2; omega
  ·rw [ex_new (by omega),ex_new (by omega)] at e; exact e
 ·by_cases h1:x < 4 * n
  ·rw [ex_old h1,ex_old (h.ab.maps x h1)]; exact h.inv x h1
  ·rw [ex_new (x := x) (by omega),ex_new (by omega)]
theorem ext_gen {n M:Nat} {a:Nat → Nat} {z:Int} (hM:n ≤ M) (h:Hm (4 * n) (fun h => h < 4 * n) rot a) (hf:Gen (fun h => h < 4 * n) rot a z):Gen (fun h => h < 4 * M) rot (ex n a) z := by
 have h':=ext_hm hM h
 have hS:Hm (4 * M) (fun h => h < 4 * n) rot (ex n a):=⟨⟨fun x hx => by omega,fun x hx => rot_lt hx,fun x y _ _ e => tn_inj e⟩,⟨fun x hx => by omega,fun x hx => by rw [ex_old hx]; exact h.ab.maps x hx,fun x y hx hy e => by rw [ex_old hx,ex_old hy] at e; exact h.ab.inj x y hx hy e⟩,fun x hx => by rw [ex_old hx,ex_old (h.ab.maps x hx)]; exact h.inv x hx⟩
 have hT:Hm (4 * M) (fun h => 4 * n ≤ h ∧ h < 4 * M) rot (ex n a):=⟨⟨fun x hx => hx.2,fun x hx => ⟨rot_ge hx.1,rot_lt hx.2⟩,fun x y _ _ e => tn_inj e⟩,⟨fun x hx => hx.2,fun x hx => by rw [ex_new hx.1]; exact hx,fun x y hx hy e => by rw [ex_new hx.1,ex_new hy.1] at e; exact e⟩,fun x hx => by rw [ex_new (x := x) hx.1,ex_new hx.1]⟩
 have g1:Gen (fun h => h < 4 * n) rot (ex n a) z:=Gen.congr h (fun _ _ => rfl) (fun x hx => (ex_old hx).symm) hf
 have g2:=gen_id hT (fun x hx => ex_new hx.1)
 have:=Gen.add hS hT (fun x hx hx' => by omega) g1 g2
 rw [Int.add_zero] at this
 have e:(fun x => x < 4 * n ∨ (4 * n ≤ x ∧ x < 4 * M)) = (fun h => h < 4 * M):=by funext x; exact propext ⟨fun h => by omega,fun h => by omega⟩
 rwa [e] at this
def Kq (n i0 o0 i1 o1:Nat):Prop :=
 (i0 = 4 * n + 0 ∧ o0 = 4 * n + 2 ∧ i1 = 4 * n + 3 ∧ o1 = 4 * n + 1) ∨ (i0 = 4 * n + 0 ∧ o0 = 4 * n + 2 ∧ i1 = 4 * n + 1 ∧ o1 = 4 * n + 3) ∨
 (i0 = 4 * n + 3 ∧ o0 = 4 * n + 1 ∧ i1 = 4 * n + 0 ∧ o1 = 4 * n + 2) ∨ (i0 = 4 * n + 1 ∧ o0 = 4 * n + 3 ∧ i1 = 4 * n + 0 ∧ o1 = 4 * n + 2)
theorem Kq.face {n i0 o0 i1 o1:Nat} (k:Kq n i0 o0 i1 o1) {b:Nat → Nat} (b1:b o0 = i1) (b2:b i1 = o0) (b3:b o1 = o1):Orb (phi rot b) o1 i0 := by
 rcases k with ⟨rfl,rfl,rfl,rfl⟩ | ⟨rfl,rfl,rfl,rfl⟩ | ⟨rfl,rfl,rfl,rfl⟩ | ⟨rfl,rfl,rfl,rfl⟩
 ·exact ⟨1,by show rot (b (4 * n + 1)) = _; rw [b3,rot_at n 1 (by omega)]⟩
 ·exact ⟨2,by show rot (b (rot (b (4 * n + 3)))) = _; rw [b3,rot_at n 3 (by omega),b1,rot_at n 1 (by omega)]⟩
 ·exact ⟨2,by show rot (b (rot (b (4 * n + 2)))) = _; rw [b3,rot_at n 2 (by omega),b1,rot_at n 0 (by omega)]⟩
 ·exact ⟨1,by show rot (b (4 * n + 2)) = _; rw [b3,rot_at n 2 (by omega)]⟩
theorem Kq.bd {n i0 o0 i1 o1:Nat} (k:Kq n i0 o0 i1 o1):(4 * n ≤ i0 ∧ i0 < 4 * (n + 1)) ∧ (4 * n ≤ o0 ∧ o0 < 4 * (n + 1)) ∧ (4 * n ≤ i1 ∧ i1 < 4 * (n + 1)) ∧ (4 * n ≤ o1 ∧ o1 < 4 * (n + 1)) ∧ i0 ≠ o0 ∧ i0 ≠ i1 ∧ i0 ≠ o1 ∧ o0 ≠ i1 ∧ o0 ≠ o1 ∧ i1 ≠ o1 := by
 unfold Kq at k; omega
theorem orb_new {n x y:Nat} {b:Nat → Nat} (hx:4 * n ≤ x ∧ x < 4 * (n + 1)) (hy:4 * n ≤ y ∧ y < 4 * (n + 1)) (hb:∀ z,4 * n ≤ z → z < 4 * (n + 1) → b z = z):Orb (phi rot b) x y := by
 have st:∀ z,4 * n ≤ z → z < 4 * (n + 1) → phi rot b z = rot z:=fun z h1 h2 => by unfold phi; rw [hb z h1 h2]
 have r1:∀ z,4 * n ≤ z → z < 4 * (n + 1) → 4 * n ≤ rot z ∧ rot z < 4 * (n + 1):=fun z h1 h2 => ⟨rot_ge h1,rot_lt h2⟩
 have a1:=r1 x hx.1 hx.2
 have a2:=r1 _ a1.1 a1.2
 have key:y = x ∨ y = rot x ∨ y = rot (rot x) ∨ y = rot (rot (rot x)):=by unfold rot tn; omega
 rcases key with rfl | rfl | rfl | rfl
 ·exact Orb.refl _ _
 ·exact ⟨1,st x hx.1 hx.2⟩
 ·exact ⟨2,by show phi rot b (phi rot b x) = _; rw [st x hx.1 hx.2,st _ a1.1 a1.2]⟩
 ·exact ⟨3,by show phi rot b (phi rot b (phi rot b x)) = _; rw [st x hx.1 hx.2,st _ a1.1 a1.2,st _ a2.1 a2.2]⟩
theorem loop_flat {n i0 o0 i1 o1:Nat} {a:Nat → Nat} (h:Hm (4 * n) (fun h => h < 4 * n) rot a) (hf:Flat (fun h => h < 4 * n) rot a) (k:Kq n i0 o0 i1 o1):Flat (fun h => h < 4 * (n + 1)) rot (tr (ex n a) o0 i1) := by
 obtain ⟨a1,a2,a3,a4,n1,n2,n3,n4,n5,n6⟩:=k.bd
 exact Flat.add (ext_hm (by omega) h) a2.2 a3.2 n4 (ex_new a2.1) (ex_new a3.1) (fun _ => orb_new a2 a3 (fun z h1 _ => ex_new h1)) (ext_gen (by omega) h hf)
theorem kink_loop {n i0 o0 i1 o1:Nat} {a:Nat → Nat} (h:Hm (4 * n) (fun h => h < 4 * n) rot a) (hf:Flat (fun h => h < 4 * n) rot a) (k:Kq n i0 o0 i1 o1):Flat (fun h => h < 4 * (n + 1)) rot (tr (tr (ex n a) o0 i1) o1 i0) := by
 obtain ⟨a1,a2,a3,a4,n1,n2,n3,n4,n5,n6⟩:=k.bd
 have hx:=ext_hm (Nat.le_succ n) h
 have h1:=hx.tr (x := o0) (y := i1) a2.2 a3.2 (ex_new a2.1) (ex_new a3.1)
 have f1:tr (ex n a) o0 i1 o1 = o1:=by rw [tr_ne (Ne.symm n5) (Ne.symm n6),ex_new a4.1]
 have f2:tr (ex n a) o0 i1 i0 = i0:=by rw [tr_ne n1 n2,ex_new a1.1]
 refine Flat.add h1 a4.2 a1.2 (Ne.symm n3) f1 f2 (fun _ => k.face ?_ ?_ f1) (loop_flat h hf k)
 ·rw [tr_a,ex_new a3.1]
 ·rw [tr_b,ex_new a2.1]
theorem con_old {n:Nat} {b:Nat → Nat} (hb:∀ z,z < 4 * n → b z < 4 * n) {x y:Nat} (hx:x < 4 * n) (e:Con rot b x y):y < 4 * n := by
 induction e with
 | refl => exact hx
 | left _ ih => exact rot_lt ih
 | right _ ih => exact hb _ ih
theorem kink_edge {n i0 o0 i1 o1 x y:Nat} {a:Nat → Nat} (h:Hm (4 * n) (fun h => h < 4 * n) rot a) (hf:Flat (fun h => h < 4 * n) rot a) (k:Kq n i0 o0 i1 o1) (hx:x < 4 * n) (hy:a x = y) (hne:x ≠ y) :
 Flat (fun h => h < 4 * (n + 1)) rot (tr (tr (tr (ex n (tr a x y)) o0 i1) x i0) o1 y) := by
 obtain ⟨a1,a2,a3,a4,n1,n2,n3,n4,n5,n6⟩:=k.bd
 subst hy
 have hyn:a x < 4 * n:=h.ab.maps x hx
 obtain ⟨hc,c1,c2⟩:=Hm.cut h hx (Ne.symm hne)
 have hX:=ext_hm (Nat.le_succ n) hc
 have h1:=hX.tr (x := o0) (y := i1) a2.2 a3.2 (ex_new a2.1) (ex_new a3.1)
 have old:∀ z,z < 4 * n → tr (ex n (tr a x (a x))) o0 i1 z = tr a x (a x) z:=fun z hz => by rw [tr_ne (by omega) (by omega),ex_old hz]
 have cl:∀ z,z < 4 * n → tr (ex n (tr a x (a x))) o0 i1 z < 4 * n:=fun z hz => by rw [old z hz]; exact hc.ab.maps z hz
 have fu:tr (ex n (tr a x (a x))) o0 i1 i0 = i0:=by rw [tr_ne n1 n2,ex_new a1.1]
 have fv:tr (ex n (tr a x (a x))) o0 i1 o1 = o1:=by rw [tr_ne (Ne.symm n5) (Ne.symm n6),ex_new a4.1]
 have hx':x < 4 * (n + 1):=by omega
 have hy':a x < 4 * (n + 1):=by omega
 refine Gen.detour h1 hx' hy' a1.2 a4.2 hne n3 (by rw [old x hx,c1]) (by rw [old _ hyn,c2]) fu fv (fun e => by have := con_old cl hx e; omega) (fun e => by have := con_old cl hyn e; omega) (k.face ?_ ?_ fv) ?_
 ·rw [tr_a,ex_new a3.1]
 ·rw [tr_b,ex_new a2.1]
 ·refine Gen.congr ((ext_hm (Nat.le_succ n) h).tr (x := o0) (y := i1) a2.2 a3.2 (ex_new a2.1) (ex_new a3.1)) (fun _ _ => rfl) (fun z hz => ?_) (loop_flat h hf k)
  by_cases z1:z = x
  ·subst z1
   rw [tr_a,old _ hyn,c2,tr_ne (by omega) (by omega),ex_old hx]
  ·by_cases z2:z = a x
   ·subst z2
    rw [tr_b,old _ hx,c1,tr_ne (by omega) (by omega),ex_old hyn,h.inv x hx]
   ·rw [tr_ne z1 z2]
    by_cases z3:z < 4 * n
    ·rw [old z z3,tr_ne z1 z2,tr_ne (by omega) (by omega),ex_old z3]
    ·by_cases z4:z = o0
     ·subst z4; rw [tr_a,tr_a,ex_new a3.1,ex_new a3.1]
     ·by_cases z5:z = i1
      ·subst z5; rw [tr_b,tr_b,ex_new a2.1,ex_new a2.1]
      ·rw [tr_ne z4 z5,tr_ne z4 z5,ex_new (by omega),ex_new (by omega)]
end Go.Proofs.YtghdiolnonejaaaGreatDoor.Pl
end
section
namespace Go.Proofs.YtghdiolnonejaaaGreatDoor.Pl
theorem out_old {d d':Dg} {h:Nat} (e:d'.s (h / 4) = d.s (h / 4)):out d' h = out d h := by unfold out; rw [e]
theorem Kq.cover {n i0 o0 i1 o1 z:Nat} (k:Kq n i0 o0 i1 o1) (h:4 * n ≤ z ∧ z < 4 * (n + 1)):z = i0 ∨ z = o0 ∨ z = i1 ∨ z = o1 := by unfold Kq at k; omega
structure Kd (d d':Dg) (i0 o0 i1 o1:Nat):Prop where
 few:d.n + 1 ≤ 64
 n:d'.n = d.n + 1
 len:d'.mt.length = 4 * (d.n + 1)
 lp:d'.lp ≤ 64
 old:∀ c,c < d.n → d'.s c = d.s c
 new:d'.s d.n = 1 ∨ d'.s d.n = -1
 k:Kq d.n i0 o0 i1 o1
 wi0:out d' i0 = false
 wi1:out d' i1 = false
 wo0:out d' o0 = true
 wo1:out d' o1 = true
 m1:d'.m o0 = i1
 m2:d'.m i1 = o0
theorem Kd.out {d d':Dg} {i0 o0 i1 o1:Nat} (K:Kd d d' i0 o0 i1 o1) {h:Nat} (hh:h < 4 * d.n):out d' h = out d h := out_old (K.old _ (by omega))
theorem Kd.sign {d d':Dg} (hd:Wf d) {i0 o0 i1 o1:Nat} (K:Kd d d' i0 o0 i1 o1):∀ c,c < d'.n → d'.s c = 1 ∨ d'.s c = -1 := fun c hc => by
 rw [K.n] at hc
 rcases Nat.lt_or_ge c d.n with h | h
 ·rw [K.old c h]; exact hd.sign c h
 ·rw [show c = d.n by omega]; exact K.new
theorem wf_by {d':Dg} (few:d'.n ≤ 64) (len:d'.mt.length = 4 * d'.n) (lp:d'.lp ≤ 64) (sign:∀ c,c < d'.n → d'.s c = 1 ∨ d'.s c = -1)
 (h:∀ z,z < 4 * d'.n → d'.m z < 4 * d'.n ∧ d'.m (d'.m z) = z ∧ Pl.out d' z ≠ Pl.out d' (d'.m z)):Wf d' :=
 ⟨few,len,lp,sign,fun z hz => (h z hz).1,fun z hz e => (h z hz).2.2 (by rw [e]),fun z hz => (h z hz).2.1,fun z hz => (h z hz).2.2⟩
theorem Kd.loop {d d':Dg} (hd:Valid d) {i0 o0 i1 o1:Nat} (K:Kd d d' i0 o0 i1 o1) (mo:∀ h,h < 4 * d.n → d'.m h = d.m h) (m3:d'.m o1 = i0) (m4:d'.m i0 = o1):Valid d' := by
 have hv:=Valid.iff.1 hd
 obtain ⟨a1,a2,a3,a4,n1,n2,n3,n4,n5,n6⟩:=K.k.bd
 refine Valid.iff.2 ⟨wf_by (by rw [K.n]; exact K.few) (by rw [K.n]; exact K.len) K.lp (K.sign hv.1) (fun z hz => ?_),?_⟩
 ·rw [K.n] at hz ⊢
  rcases Nat.lt_or_ge z (4 * d.n) with h | h
  ·have:=hv.1.lt z h
   rw [mo z h,mo _ this,K.out h,K.out this]
   exact ⟨by omega,hv.1.inv z h,hv.1.way z h⟩
  ·rcases K.k.cover ⟨h,hz⟩ with rfl | rfl | rfl | rfl
   ·rw [m4,m3,K.wi0,K.wo1]; exact ⟨a4.2,rfl,by decide⟩
   ·rw [K.m1,K.m2,K.wi1,K.wo0]; exact ⟨a3.2,rfl,by decide⟩
   ·rw [K.m2,K.m1,K.wi1,K.wo0]; exact ⟨a2.2,rfl,by decide⟩
   ·rw [m3,m4,K.wi0,K.wo1]; exact ⟨a1.2,rfl,by decide⟩
 ·have hf:=kink_loop hv.1.hm hv.2 K.k
  have hx:=ext_hm (Nat.le_succ d.n) hv.1.hm
  have h1:=hx.tr (x := o0) (y := i1) a2.2 a3.2 (ex_new a2.1) (ex_new a3.1)
  have f1:tr (ex d.n d.m) o0 i1 o1 = o1:=by rw [tr_ne (Ne.symm n5) (Ne.symm n6),ex_new a4.1]
  have f2:tr (ex d.n d.m) o0 i1 i0 = i0:=by rw [tr_ne n1 n2,ex_new a1.1]
  have h2:=h1.tr (x := o1) (y := i0) a4.2 a1.2 f1 f2
  have e:dart d' = (fun h => h < 4 * (d.n + 1)):=by funext x; unfold dart; rw [K.n]
  rw [e]
  refine Gen.congr h2 (fun _ _ => rfl) (fun z hz => ?_) hf
  rcases Nat.lt_or_ge z (4 * d.n) with h | h
  ·rw [mo z h,tr_ne (by omega) (by omega),tr_ne (by omega) (by omega),ex_old h]
  ·rcases K.k.cover ⟨h,hz⟩ with rfl | rfl | rfl | rfl
   ·rw [m4,tr_b,f1]
   ·rw [K.m1,tr_ne n5 (Ne.symm n1),tr_a,ex_new a3.1]
   ·rw [K.m2,tr_ne n6 (Ne.symm n2),tr_b,ex_new a2.1]
   ·rw [m3,tr_a,f2]
theorem Kd.edge {d d':Dg} (hd:Valid d) {i0 o0 i1 o1 x:Nat} (K:Kd d d' i0 o0 i1 o1) (hx:x < 4 * d.n) (ho:Pl.out d x = true) (mo:∀ h,h < 4 * d.n → h ≠ x → h ≠ d.m x → d'.m h = d.m h)
 (m3:d'.m o1 = d.m x) (m4:d'.m (d.m x) = o1) (m5:d'.m x = i0) (m6:d'.m i0 = x):Valid d' := by
 have hv:=Valid.iff.1 hd
 have hyn:=hv.1.lt x hx
 have hne:=hv.1.ne x hx
 have hinv:=hv.1.inv x hx
 have hoy:Pl.out d (d.m x) = false:=by have := hv.1.way x hx; rw [ho] at this; cases h:Pl.out d (d.m x) with
  | true => rw [h] at this; exact absurd rfl this
  | false => rfl
 obtain ⟨a1,a2,a3,a4,n1,n2,n3,n4,n5,n6⟩:=K.k.bd
 refine Valid.iff.2 ⟨wf_by (by rw [K.n]; exact K.few) (by rw [K.n]; exact K.len) K.lp (K.sign hv.1) (fun z hz => ?_),?_⟩
 ·rw [K.n] at hz ⊢
  rcases Nat.lt_or_ge z (4 * d.n) with h | h
  ·by_cases z1:z = x
   ·subst z1
    rw [m5,m6,K.out h,K.wi0,ho]
    exact ⟨a1.2,rfl,by decide⟩
   ·by_cases z2:z = d.m x
    ·subst z2
     rw [m4,m3,K.out h,K.wo1,hoy]
     exact ⟨a4.2,rfl,by decide⟩
    ·have hm:=hv.1.lt z h
     have q1:d.m z ≠ x:=fun e => z2 (by rw [← e,hv.1.inv z h])
     have q2:d.m z ≠ d.m x:=fun e => z1 (by rw [← hv.1.inv z h,e,hinv])
     rw [mo z h z1 z2,mo _ hm q1 q2,K.out h,K.out hm]
     exact ⟨by omega,hv.1.inv z h,hv.1.way z h⟩
  ·rcases K.k.cover ⟨h,hz⟩ with rfl | rfl | rfl | rfl
   ·rw [m6,m5,K.wi0,K.out hx,ho]; exact ⟨by omega,rfl,by decide⟩
   ·rw [K.m1,K.m2,K.wi1,K.wo0]; exact ⟨a3.2,rfl,by decide⟩
   ·rw [K.m2,K.m1,K.wi1,K.wo0]; exact ⟨a2.2,rfl,by decide⟩
   ·rw [m3,m4,K.wo1,K.out hyn,hoy]; exact ⟨by omega,rfl,by decide⟩
 ·have hf:=kink_edge hv.1.hm hv.2 K.k hx rfl (Ne.symm hne)
  obtain ⟨hc,c1,c2⟩:=Hm.cut hv.1.hm hx hne
  have hX:=ext_hm (Nat.le_succ d.n) hc
  have h1:=hX.tr (x := o0) (y := i1) a2.2 a3.2 (ex_new a2.1) (ex_new a3.1)
  have old:∀ z,z < 4 * d.n → tr (ex d.n (tr d.m x (d.m x))) o0 i1 z = tr d.m x (d.m x) z:=fun z hz => by rw [tr_ne (by omega) (by omega),ex_old hz]
  have fu:tr (ex d.n (tr d.m x (d.m x))) o0 i1 i0 = i0:=by rw [tr_ne n1 n2,ex_new a1.1]
  have fv:tr (ex d.n (tr d.m x (d.m x))) o0 i1 o1 = o1:=by rw [tr_ne (Ne.symm n5) (Ne.symm n6),ex_new a4.1]
  have fx:tr (ex d.n (tr d.m x (d.m x))) o0 i1 x = x:=by rw [old x hx,c1]
  have fy:tr (ex d.n (tr d.m x (d.m x))) o0 i1 (d.m x) = d.m x:=by rw [old _ hyn,c2]
  have hx':x < 4 * (d.n + 1):=by omega
  have hy':d.m x < 4 * (d.n + 1):=by omega
  have h2:=h1.tr (x := x) (y := i0) hx' a1.2 fx fu
  have g1:tr (tr (ex d.n (tr d.m x (d.m x))) o0 i1) x i0 o1 = o1:=by rw [tr_ne (by omega) (Ne.symm n3),fv]
  have g2:tr (tr (ex d.n (tr d.m x (d.m x))) o0 i1) x i0 (d.m x) = d.m x:=by rw [tr_ne hne (by omega),fy]
  have h3:=h2.tr (x := o1) (y := d.m x) a4.2 hy' g1 g2
  have e:dart d' = (fun h => h < 4 * (d.n + 1)):=by funext x; unfold dart; rw [K.n]
  rw [e]
  refine Gen.congr h3 (fun _ _ => rfl) (fun z hz => ?_) hf
  rcases Nat.lt_or_ge z (4 * d.n) with h | h
  ·by_cases z2:z = d.m x
   ·subst z2
    rw [tr_b,g1,m4]
   ·rw [tr_ne (by omega) z2]
    by_cases z1:z = x
    ·subst z1
     rw [tr_a,fu,m5]
    ·rw [tr_ne z1 (by omega),old z h,tr_ne z1 z2,mo z h z1 z2]
  ·rcases K.k.cover ⟨h,hz⟩ with rfl | rfl | rfl | rfl
   ·rw [m6,tr_ne n3 (by omega),tr_b,fx]
   ·rw [K.m1,tr_ne n5 (by omega),tr_ne (by omega) (Ne.symm n1),tr_a,ex_new a3.1]
   ·rw [K.m2,tr_ne n6 (by omega),tr_ne (by omega) (Ne.symm n2),tr_b,ex_new a2.1]
   ·rw [m3,tr_a,g2]
end Go.Proofs.YtghdiolnonejaaaGreatDoor.Pl
end
section
namespace Go.Proofs.YtghdiolnonejaaaGreatDoor.Pl
def leP (p q:Pc):Prop := kle p.code q.code
theorem leP_trans {p q r:Pc} (h:leP p q) (h':leP q r):leP p r := kle_trans h h'
theorem leP_total (p q:Pc):leP p q ∨ leP q p := kle_total _ _
structure Ins (qs ps:List Pc) (i j:Nat):Prop where
 ex:∃ (pre:List Pc) (x:Pc) (mid suf:List Pc),ps = pre ++ x :: (mid ++ suf) ∧ pre.length = j ∧ pre.length + mid.length = i ∧ (pre ++ mid).Pairwise leP ∧ ∀ m,m ∈ mid → leP x m
 perm:ps.Perm qs
theorem Ins.start {qs ps:List Pc} {i:Nat} (hp:ps.Perm qs) (hs:(ps.take i).Pairwise leP) (hi:i < ps.length):Ins qs ps i i := by
 refine ⟨⟨ps.take i,ps[i],[],ps.drop (i + 1),?_,by rw [List.length_take]; omega,by rw [List.length_take]; simp; omega,by simpa using hs,fun m h => by simp at h⟩,hp⟩
 rw [List.nil_append,← List.drop_eq_getElem_cons hi,List.take_append_drop]
theorem snoc_of {l:List Pc} {j:Nat} (h:l.length = j + 1):∃ (l':List Pc) (y:Pc),l = l' ++ [y] ∧ l'.length = j := by
 have hne:l ≠ []:=by intro e; rw [e] at h; simp at h
 refine ⟨l.dropLast,l.getLast hne,(List.dropLast_concat_getLast hne).symm,by rw [List.length_dropLast]; omega⟩
theorem get_mid {a:List Pc} {x:Pc} {b:List Pc} {j:Nat} (h:a.length = j):(a ++ x :: b)[j]? = some x := by
 subst h
 rw [List.getElem?_append_right (Nat.le_refl _),Nat.sub_self]; rfl
theorem Ins.step {qs ps:List Pc} {i j:Nat} (h:Ins qs ps i (j + 1)) {x y:Pc} (hx:ps[j + 1]? = some x) (hy:ps[j]? = some y) (hn:¬ leP y x):Ins qs ((ps.set (j + 1) y).set j x) i j := by
 obtain ⟨pre,x',mid,suf,e,h1,h2,h3,h4⟩:=h.ex
 obtain ⟨l,y',rfl,hl⟩:=snoc_of h1
 rw [e,get_mid h1] at hx
 injection hx with hx
 subst hx
 have e2:l ++ [y'] ++ x' :: (mid ++ suf) = l ++ y' :: x' :: (mid ++ suf):=by simp
 rw [e,e2,get_mid hl] at hy
 injection hy with hy
 subst hy
 have e3:(ps.set (j + 1) y').set j x' = l ++ x' :: (y' :: mid ++ suf):=by
  rw [e,e2,List.set_append_right _ _ (by omega),List.set_append_right _ _ (by omega),hl,show j + 1 - j = 1 by omega,Nat.sub_self]
  rfl
 have hle:leP x' y':=(leP_total x' y').resolve_right hn
 refine ⟨⟨l,x',y' :: mid,suf,e3,hl,by simp at h2 ⊢; omega,by simpa using h3,fun m hm => ?_⟩,?_⟩
 ·rcases List.mem_cons.1 hm with rfl | hm
  ·exact hle
  ·exact h4 m hm
 ·rw [e3]
  refine List.Perm.trans ?_ h.perm
  rw [e,e2]
  exact List.Perm.append_left _ (List.Perm.swap _ _ _)
theorem Ins.stop {qs ps:List Pc} {i j:Nat} (h:Ins qs ps i j) (hs:j = 0 ∨ ∃ x y,ps[j]? = some x ∧ ps[j - 1]? = some y ∧ leP y x):(ps.take (i + 1)).Pairwise leP := by
 obtain ⟨pre,x,mid,suf,e,h1,h2,h3,h4⟩:=h.ex
 have ht:ps.take (i + 1) = pre ++ x :: mid:=by
  have e2:pre ++ x :: (mid ++ suf) = (pre ++ x :: mid) ++ suf:=by simp
  rw [e,e2,List.take_append_of_le_length (by simp; omega),List.take_of_length_le (by simp; omega)]
 have hpre:∀ a,a ∈ pre → leP a x:=by
  intro a ha
  rcases hs with h0 | ⟨x',y,hx,hy,hle⟩
  ·rw [h0] at h1
   rw [List.eq_nil_of_length_eq_zero h1] at ha
   simp at ha
  ·rw [e,get_mid h1] at hx
   injection hx with hx
   subst hx
   cases j with
   | zero => rw [List.eq_nil_of_length_eq_zero h1] at ha; simp at ha
   | succ j =>
     obtain ⟨l,y',rfl,hl⟩:=snoc_of h1
     have e2:l ++ [y'] ++ x :: (mid ++ suf) = l ++ y' :: x :: (mid ++ suf):=by simp
     rw [e,e2,show j + 1 - 1 = j by omega,get_mid hl] at hy
     injection hy with hy
     subst hy
     rcases List.mem_append.1 ha with ha | ha
     ·have h5:(l ++ y' :: mid).Pairwise leP:=by simpa using h3
      exact leP_trans ((List.pairwise_append.1 h5).2.2 a ha y' (by simp)) hle
     ·obtain rfl:a = y' := by simpa using ha
      exact hle
 rw [ht]
 have h6:=List.pairwise_append.1 h3
 refine List.pairwise_append.2 ⟨h6.1,List.pairwise_cons.2 ⟨h4,h6.2.1⟩,fun a ha b hb => ?_⟩
 rcases List.mem_cons.1 hb with rfl | hb
 ·exact hpre a ha
 ·exact h6.2.2 a ha b hb
end Go.Proofs.YtghdiolnonejaaaGreatDoor.Pl
end
