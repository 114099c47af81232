/-
 The texts Xr, Xt, Pcs, Va, Num, Pcb, Ins.
-/
import Derived.Test.YtghdiolnonejaaaR10
set_option linter.unusedVariables false
set_option linter.unusedSimpArgs false
section
namespace Go.Proofs.Ytghdiolnonejaaa
open Go Go.RowKit
attribute [local go_sem ↓] Go.wp_at_zero Go.wp_at_succ
structure MG (w:World) (T:TypeId) (gd gl:Nat) (dv:List Value) (v:Value) (ms:List Mv) (W:World):Prop where
 d:Row W gd T dv
 l:Row W gl 27 [v]
 o:W.ownsRow (gl + 1) 37 5 v ms.length (mvs ms)
 bel:Below w.heap.size w W
 lo:w.heap.size ≤ gd
 lt:gd < gl
section
variable {w W W' W2:World} {T:TypeId} {gd gl:Nat} {dv:List Value} {v v':Value} {ms:List Mv} {m:Mv}
theorem MG.below (h:MG w T gd gl dv v ms W) (hb:Below W.heap.size W W'):MG w T gd gl dv v ms W' :=
 ⟨h.d.below hb,h.l.below hb,own_below h.o hb,h.bel.trans (hb.mono h.bel.size),h.lo,h.lt⟩
theorem MG.alloc (h:MG w T gd gl dv v ms W) (o:Obj):MG w T gd gl dv v ms (W.alloc o) := h.below ((Below.refl _ _).alloc (Nat.le_refl _) o)
theorem MG.big (h:MG w T gd gl dv v ms W):gl < W.heap.size := h.l.lt
theorem MG.far (h:MG w T gd gl dv v ms W) {g:Nat} (hg:g ≤ gl):some g ≠ v.ownBlock := fun e => by have := (h.o.lt g e.symm).1; omega
theorem MG.push (h:MG w T gd gl dv v ms W) (own:W2.ownsRow (gl + 1) 37 5 v' (ms.length + 1) (mvs ms ++ m.cells)) (gr:W.grownBy W2 v.ownBlock):MG w T gd gl dv v' (ms ++ [m]) (W2.setCell ⟨gl,0,none⟩ v') := by
 have a:=h.lo
 have b:=h.lt
 refine ⟨(h.d.grown gr (h.far (by omega))).other (by show gd ≠ gl; omega) _,(h.l.grown gr (h.far (Nat.le_refl _))).set 0 v',?_,?_,h.lo,h.lt⟩
 ·rw [mvs_app,List.length_append]
  exact ownsRow_setCell_below own (by show gl < gl + 1; omega) _
 ·exact (h.bel.grown gr h.bel.size (fun k hk => by have := (h.o.lt k hk).1; omega)).setCell (by show _ ≤ gl; omega) _
end
def one (c:Int) (m:Mv):List Mv := if c = 0 then [m] else []
theorem one_yes {c:Int} {m:Mv} (h:c = 0):one c m = [m] := by unfold one; rw [if_pos h]
theorem one_no {c:Int} {m:Mv} (h:¬ c = 0):one c m = [] := by unfold one; rw [if_neg h]
theorem one_len (c:Int) (m:Mv):(one c m).length ≤ 1 := by unfold one; split <;> simp
set_option maxRecDepth 100000 in
set_option maxHeartbeats 4000000 in
theorem cuTry_any (d:Pl.Dg) (hd:Pl.Wf d) (A B:Option Addr) (cp cq m gd gl:Nat) (v:Value) (ms:List Mv) (x s:Int) (o:Bool) (w0 w:World) (hm:m = 4 * d.n) (hg:DgAt w A B d) (hx:-1 ≤ x ∧ x < 4 * (d.n:Int)) (hms:ms.length ≤ 1000000)
 (hp:MG w0 24 gd gl [.slice A d.n cp,.slice B m cq,.int .i64 (d.lp:Int)] v ms w) :
 Calls Try.prog 102 #[.agg #[.int .i64 1,.int .i64 x,.int .i64 0,.int .i64 s,.bool o],.pointer (some ⟨gd,0,none⟩),.pointer (some ⟨gl,0,none⟩)] w fun e w' => e = .returned (.tuple #[]) ∧ ∃ v',MG w0 24 gd gl [.slice A d.n cp,.slice B m cq,.int .i64 (d.lp:Int)] v' (ms ++ one (curlableC d x) ⟨1,x,0,s,o⟩) w' := by
 have HM:=hide hm
 have HG:=hide hg
 have hn:=hd.few
 have hlp:=hd.lp
 obtain ⟨cc,hcc⟩:∃ c,c = curlableC d x := ⟨_,rfl⟩
 have HC:=hide hcc
 have hb0:Below w.heap.size w (w.alloc (.cells #[.int .i64 1,.int .i64 x,.int .i64 0,.int .i64 s,.bool o] 37)):=(Below.refl _ _).alloc (Nat.le_refl _) _
 have HB0:=hide hb0
 have P1:=hide (hp.below hb0)
 have M1:=hide (row_at (W := w) (g := w.heap.size) (t := 37) (vs := [.int .i64 1,.int .i64 x,.int .i64 0,.int .i64 s,.bool o]) rfl)
 have hgl:gl < w.heap.size:=hp.big
 have hgd:gd < gl:=hp.lt
 clear hp hb0 hg hm hcc
 obtain ⟨d0,d1,d2,d3⟩:=box3 P1.out.d
 obtain ⟨e0,e1,e2,e3,e4,e5⟩:=box5 M1.out
 go_enter Try.func102,Try.ntmps102
 go_wp2_with fail
 refine (curlable_m d A B cp cq m 1 x 0 s o _ HM.out (HG.out.keep HB0.out) hn hlp hx).mono ?_
 rintro e w1 ⟨rfl,hb1⟩
 have P2:=hide (P1.out.below hb1)
 have M2:=hide (M1.out.below hb1)
 have hs2:w.heap.size < w1.heap.size:=M2.out.lt
 have hs3:gl < w1.heap.size:=by omega
 clear hb1 d0 d1 d2 d3 e0 e1 e2 e3 e4 e5 HB0 P1 M1
 obtain ⟨e0,e1,e2,e3,e4,e5⟩:=box5 M2.out
 rw [← HC.out]
 by_cases h0:cc = 0
 ·have E:=hide (show one cc ⟨1,x,0,s,o⟩ = [⟨1,x,0,s,o⟩] from one_yes h0)
  have t1:(cc == 0) = true:=by rw [beq_iff_eq]; exact h0
  clear h0
  obtain ⟨q0,q1⟩:=box1 P2.out.l
  obtain ⟨n0,hn0,hz0,hz1,hz2⟩:=info_parts moveInfo
  have A0:=hide (P2.out.alloc (.cells (Mv.cells ⟨1,x,0,s,o⟩).toArray 37)).o
  have A1:∀ u ∈ Mv.cells ⟨1,x,0,s,o⟩,u.oneCell' = true:=by simp [Mv.cells,Value.oneCell']
  have A2:ms.length + 1 ≤ maxLen:=by unfold maxLen; omega
  have A3:(ms.length + 1) * 40 ≤ 140737488355328:=by omega
  have A6:=hide (five_news w1 w1.heap.size rfl ⟨1,x,0,s,o⟩)
  go_wp2_with (at_builtin; refine wpList_append_lies _ (by rfl) _ _ 27 (by rfl) (gl + 1) 37 n0 (.agg #[.int .i64 0,.int .i64 0,.int .i64 0,.int .i64 0,.bool false]) 5 40 Try.underlying27 hn0 hz0 hz1 hz2 rfl (by omega) v ms.length (mvs ms) (by rfl) A0.out ⟨w1.heap.size,0,none⟩ 1 1 (Mv.cells ⟨1,x,0,s,o⟩) (by rfl) (by rfl) A6.out A1 (by omega) A2 A3 (by simp; omega) (w1.heap.size + 1) (by simp) ?_; intro g2 c2 w2 own2 grow2 at2 lt2; obtain ⟨q2,q3⟩:=box1 ((P2.out.alloc (.cells (Mv.cells ⟨1,x,0,s,o⟩).toArray 37)).l.grown grow2 ((P2.out.alloc (.cells (Mv.cells ⟨1,x,0,s,o⟩).toArray 37)).far (Nat.le_refl _))); have OWN2 := hide own2; have GR2 := hide grow2; clear own2 grow2 at2)
  refine bodyPost_end (results_none rfl _ _ _) rfl ⟨rfl,.slice (some ⟨g2,0,none⟩) (ms.length + 1) c2,?_⟩
  rw [← HC.out,E.out]
  exact (P2.out.alloc _).push OWN2.out GR2.out
 ·have E:=hide (show one cc ⟨1,x,0,s,o⟩ = [] from one_no h0)
  have t1:(cc == 0) = false:=by rw [beq_eq_false_iff_ne]; exact h0
  clear h0
  go_wp2
  refine bodyPost_end (results_none rfl _ _ _) rfl ⟨rfl,v,?_⟩
  rw [← HC.out,E.out,List.append_nil]
  exact P2.out
def cuX (d:Pl.Dg) (x:Int):List Mv := one (curlableC d x) ⟨1,x,0,-1,false⟩ ++ one (curlableC d x) ⟨1,x,0,-1,true⟩ ++ (one (curlableC d x) ⟨1,x,0,1,false⟩ ++ one (curlableC d x) ⟨1,x,0,1,true⟩)
def cuL (d:Pl.Dg):Nat → List Mv
 | 0 => []
 | k + 1 => cuL d k ++ cuX d ((k:Int) - 1)
theorem cuX_len (d:Pl.Dg) (x:Int):(cuX d x).length ≤ 4 := by
 unfold cuX
 have a:=one_len (curlableC d x) ⟨1,x,0,-1,false⟩
 have b:=one_len (curlableC d x) ⟨1,x,0,-1,true⟩
 have c:=one_len (curlableC d x) ⟨1,x,0,1,false⟩
 have e:=one_len (curlableC d x) ⟨1,x,0,1,true⟩
 simp only [List.length_append]
 omega
theorem cuL_len (d:Pl.Dg):∀ k,(cuL d k).length ≤ 4 * k
 | 0 => Nat.le_refl _
 | k + 1 => by
   have a:=cuL_len d k
   have b:=cuX_len d ((k:Int) - 1)
   show (cuL d k ++ cuX d ((k:Int) - 1)).length ≤ _
   rw [List.length_append]
   omega
def MovesIn (b:Nat) (w:World) (v:Value) (ms:List Mv):Prop := ∃ base,b ≤ base ∧ base ≤ w.heap.size ∧ w.ownsRow base 37 5 v ms.length (mvs ms)
theorem MovesIn.at {b:Nat} {w:World} {v:Value} {ms:List Mv} (h:MovesIn b w v ms):MovesAt w v ms := let ⟨base,_,_,h⟩:=h; ⟨base,h⟩
set_option maxRecDepth 100000 in
set_option maxHeartbeats 4000000 in
theorem curls_any (d:Pl.Dg) (hd:Pl.Wf d) (A B:Option Addr) (cp cq m:Nat) (w:World) (hm:m = 4 * d.n) (hg:DgAt w A B d) :
 Calls Try.prog 58 #[.agg #[.slice A d.n cp,.slice B m cq,.int .i64 d.lp]] w fun e w' => ∃ v,e = .returned v ∧ MovesIn w.heap.size w' v (cuL d (m + 1)) ∧ Below w.heap.size w w' := by
 have HM:=hide hm
 have HG:=hide hg
 have hn:=hd.few
 have hm2:m ≤ 256:=by omega
 have P0:=hide (show MG w 24 w.heap.size (w.heap.size + 1) [.slice A d.n cp,.slice B m cq,.int .i64 (d.lp:Int)] (.slice none 0 0) [] ((w.alloc (.cells #[.slice A d.n cp,.slice B m cq,.int .i64 (d.lp:Int)] 24)).alloc (.cells #[.slice none 0 0] 27)) from
  ⟨(row_at (vs := [_,_,_]) rfl).alloc _,row_at (vs := [_]) (by simp),⟨rfl,.inl ⟨rfl,rfl⟩⟩,((Below.refl _ _).alloc (Nat.le_refl _) _).alloc (by simp) _,Nat.le_refl _,by omega⟩)
 clear hg hm
 go_enter Try.func58,Try.ntmps58
 go_wp2
 go_loopg [5] (m + 1) (fun g s5 wx => ∃ (k:Nat) (v:Value),k + g = m + 1 ∧ s5 = .int .i64 ((k:Int) - 1) ∧ MG w 24 w.heap.size (w.heap.size + 1) [.slice A d.n cp,.slice B m cq,.int .i64 (d.lp:Int)] v (cuL d k) wx)
 case atStart => exact ⟨0,_,by omega,rfl,P0.out⟩
 case round =>
  clear P0
  obtain ⟨k,v,hkg,rfl,hp⟩:=hrel
  obtain ⟨go,rfl⟩:∃ go,go = gk := ⟨_,rfl⟩
  have HKG:=hide hkg
  have PK:=hide hp
  have hlen:=cuL_len d k
  obtain ⟨x,hx⟩:∃ x:Int,x = (k:Int) - 1 := ⟨_,rfl⟩
  have HX:=hide hx
  rw [← hx]
  obtain ⟨d0,d1,d2,d3⟩:=box3 hp.d
  clear hp hx
  by_cases hk:k < m + 1
  ·have hki:x < (m:Int):=by have := HX.out; omega
   have x0:-1 ≤ x:=by have := HX.out; omega
   have x1:x < 4 * (d.n:Int):=by have := HM.out; omega
   clear hkg
   have i0:∀ W,(Instr.index 93 (.agg #[.int .i64 (-1),.int .i64 1]) (.int .i64 0)).run Try.prog W = .ok (.int .i64 (-1)) W:=fun _ => by kernel_rfl
   have i1:∀ W,(Instr.index 93 (.agg #[.int .i64 (-1),.int .i64 1]) (.int .i64 1)).run Try.prog W = .ok (.int .i64 1) W:=fun _ => by kernel_rfl
   go_wp2
   go_loopg [17,7] 2 (fun g s17 s7 wx => ∃ (j:Nat) (u:Value),j + g = 2 ∧ s17 = .int .i64 (j:Int) ∧ MG w 24 w.heap.size (w.heap.size + 1) [.slice A d.n cp,.slice B m cq,.int .i64 (d.lp:Int)] u (cuL d k ++ ((if 0 < j then one (curlableC d x) ⟨1,x,0,-1,false⟩ ++ one (curlableC d x) ⟨1,x,0,-1,true⟩ else []) ++ (if 1 < j then one (curlableC d x) ⟨1,x,0,1,false⟩ ++ one (curlableC d x) ⟨1,x,0,1,true⟩ else []))) wx)
   case atStart => exact ⟨0,v,by omega,rfl,by simpa using PK.out⟩
   case round =>
    clear PK
    obtain ⟨j,u,hjg,rfl,hq⟩:=hrel
    have HJG:=hide hjg
    have hj3:j = 0 ∨ j = 1 ∨ j = 2:=by omega
    have L1:=one_len (curlableC d x) ⟨1,x,0,-1,false⟩
    have L2:=one_len (curlableC d x) ⟨1,x,0,-1,true⟩
    have L3:=one_len (curlableC d x) ⟨1,x,0,1,false⟩
    clear hjg
    rcases hj3 with rfl | rfl | rfl
    ·have hq1:MG w 24 w.heap.size (w.heap.size + 1) [.slice A d.n cp,.slice B m cq,.int .i64 (d.lp:Int)] u (cuL d k) wr:=by simpa using hq
     have Q0:=hide hq1
     clear hq hq1
     go_wp2_with fail
     refine (cuTry_any d hd A B cp cq m _ _ u (cuL d k) x (-1) false w _ HM.out (HG.out.keep Q0.out.bel) ⟨x0,x1⟩ (by omega) Q0.out).mono ?_
     rintro e w1 ⟨rfl,u1,hp1⟩
     have Q1:=hide hp1
     clear hp1
     go_wp2_with fail
     refine (cuTry_any d hd A B cp cq m _ _ u1 _ x (-1) true w _ HM.out (HG.out.keep Q1.out.bel) ⟨x0,x1⟩ (by rw [List.length_append]; omega) Q1.out).mono ?_
     rintro e w2 ⟨rfl,u2,hp2⟩
     have Q2:=hide hp2
     clear hp2
     go_wp2
     go_roundg 1
     case measure => have := HJG.out; omega
     case rel => exact ⟨1,u2,rfl,by go_num,by simpa using Q2.out⟩
    ·have hq1:MG w 24 w.heap.size (w.heap.size + 1) [.slice A d.n cp,.slice B m cq,.int .i64 (d.lp:Int)] u (cuL d k ++ (one (curlableC d x) ⟨1,x,0,-1,false⟩ ++ one (curlableC d x) ⟨1,x,0,-1,true⟩)) wr:=by simpa using hq
     have Q0:=hide hq1
     clear hq hq1
     go_wp2_with fail
     refine (cuTry_any d hd A B cp cq m _ _ u _ x 1 false w _ HM.out (HG.out.keep Q0.out.bel) ⟨x0,x1⟩ (by rw [List.length_append,List.length_append]; omega) Q0.out).mono ?_
     rintro e w1 ⟨rfl,u1,hp1⟩
     have Q1:=hide hp1
     clear hp1
     go_wp2_with fail
     refine (cuTry_any d hd A B cp cq m _ _ u1 _ x 1 true w _ HM.out (HG.out.keep Q1.out.bel) ⟨x0,x1⟩ (by rw [List.length_append,List.length_append,List.length_append]; omega) Q1.out).mono ?_
     rintro e w2 ⟨rfl,u2,hp2⟩
     have Q2:=hide hp2
     clear hp2
     go_wp2
     go_roundg 0
     case measure => have := HJG.out; omega
     case rel => exact ⟨2,u2,rfl,by go_num,by simpa using Q2.out⟩
    ·have Q0 := hide (show MG w 24 w.heap.size (w.heap.size + 1) [.slice A d.n cp, .slice B m cq, .int .i64 (d.lp : Int)] u (cuL d (k + 1)) wr from by
      have e:cuL d (k + 1) = cuL d k ++ cuX d x:=by rw [HX.out]; rfl
      rw [e]
      unfold cuX
      simpa using hq)
     have EK:=hide (show x + 1 = ((k + 1:Nat):Int) - 1 by have := HX.out; omega)
     clear hq
     go_wp2
     go_roundg (go - 1)
     case measure => have := HKG.out; omega
     case rel => exact ⟨k + 1,u,by have := HKG.out; omega,by rw [EK.out],Q0.out⟩
  ·have hki:¬ (x < (m:Int)):=by have := HX.out; omega
   have e:k = m + 1:=by omega
   subst e
   obtain ⟨q0,q1⟩:=box1 PK.out.l
   clear hkg
   go_wp2
   go_ret
   exact ⟨v,rfl,⟨w.heap.size + 1 + 1,by omega,PK.out.big,PK.out.o⟩,PK.out.bel⟩
def unL (d:Pl.Dg):Nat → List Mv
 | 0 => []
 | k + 1 => unL d k ++ one (uncC d k) ⟨2,k,0,0,false⟩
theorem unL_len (d:Pl.Dg):∀ k,(unL d k).length ≤ k
 | 0 => Nat.le_refl _
 | k + 1 => by
   have a:=unL_len d k
   have b:=one_len (uncC d k) ⟨2,k,0,0,false⟩
   show (unL d k ++ one (uncC d k) ⟨2,k,0,0,false⟩).length ≤ _
   rw [List.length_append]
   omega
set_option maxRecDepth 100000 in
set_option maxHeartbeats 4000000 in
theorem unTry_any (d:Pl.Dg) (hd:Pl.Wf d) (A B:Option Addr) (cp cq m gd gl c:Nat) (v:Value) (ms:List Mv) (w0 w:World) (hm:m = 4 * d.n) (hg:DgAt w A B d) (hc:c < d.n) (hms:ms.length ≤ 1000000)
 (hp:MG w0 24 gd gl [.slice A d.n cp,.slice B m cq,.int .i64 (d.lp:Int)] v ms w) :
 Calls Try.prog 103 #[.agg #[.int .i64 2,.int .i64 (c:Int),.int .i64 0,.int .i64 0,.bool false],.pointer (some ⟨gd,0,none⟩),.pointer (some ⟨gl,0,none⟩)] w fun e w' => e = .returned (.tuple #[]) ∧ ∃ v',MG w0 24 gd gl [.slice A d.n cp,.slice B m cq,.int .i64 (d.lp:Int)] v' (ms ++ one (uncC d c) ⟨2,c,0,0,false⟩) w' := by
 have HM:=hide hm
 have HG:=hide hg
 have hn:=hd.few
 obtain ⟨cc,hcc⟩:∃ c',c' = uncC d c := ⟨_,rfl⟩
 have HC:=hide hcc
 have hb0:Below w.heap.size w (w.alloc (.cells #[.int .i64 2,.int .i64 (c:Int),.int .i64 0,.int .i64 0,.bool false] 37)):=(Below.refl _ _).alloc (Nat.le_refl _) _
 have HB0:=hide hb0
 have P1:=hide (hp.below hb0)
 have M1:=hide (row_at (W := w) (g := w.heap.size) (t := 37) (vs := [.int .i64 2,.int .i64 (c:Int),.int .i64 0,.int .i64 0,.bool false]) rfl)
 have hgl:gl < w.heap.size:=hp.big
 have hgd:gd < gl:=hp.lt
 clear hp hb0 hg hm hcc
 obtain ⟨d0,d1,d2,d3⟩:=box3 P1.out.d
 obtain ⟨e0,e1,e2,e3,e4,e5⟩:=box5 M1.out
 go_enter Try.func103,Try.ntmps103
 go_wp2_with fail
 refine (kink_any d hd A B cp cq m c _ HM.out (HG.out.keep HB0.out) hc).mono ?_
 rintro e w1 ⟨he,hb1⟩
 have P2:=hide (P1.out.below hb1)
 have M2:=hide (M1.out.below hb1)
 have HB1:=hide (HB0.out.trans (hb1.mono HB0.out.size))
 have hs2:w.heap.size < w1.heap.size:=M2.out.lt
 have hs3:gl < w1.heap.size:=by omega
 have HE:=hide he
 clear hb1 d0 d1 d2 d3 e0 e1 e2 e3 e4 e5 HB0 P1 M1 he
 obtain ⟨d0,d1,d2,d3⟩:=box3 P2.out.d
 obtain ⟨e0,e1,e2,e3,e4,e5⟩:=box5 M2.out
 by_cases hI:isK d c
 ·have HE2:=HE.out
  rw [Pl.vb_true hI] at HE2
  unfold kinkE at HE2
  obtain ⟨z1,hz1⟩:∃ z:Nat,z = Pl.tn (kk d c) 2 := ⟨_,rfl⟩
  obtain ⟨z2,hz2⟩:∃ z:Nat,z = Pl.tn (d.m (kk d c)) 2 := ⟨_,rfl⟩
  rw [← hz1,← hz2] at HE2
  simp only [if_true] at HE2
  subst HE2
  clear HE hI hz1 hz2
  go_wp2_with fail
  refine (uncurl_m d hd A B cp cq m c 2 0 0 false _ HM.out (HG.out.keep HB1.out) hc).mono ?_
  rintro e w3 ⟨r1,r2,hb3⟩
  have P3:=hide (P2.out.below hb3)
  have M3:=hide (M2.out.below hb3)
  have hs4:w.heap.size < w3.heap.size:=M3.out.lt
  have hs5:gl < w3.heap.size:=by omega
  rw [← HC.out] at r1 r2
  have R1:=hide r1
  have R2:=hide r2
  clear r1 r2 hb3 d0 d1 d2 d3 e0 e1 e2 e3 e4 e5 HB1 P2 M2
  obtain ⟨e0,e1,e2,e3,e4,e5⟩:=box5 M3.out
  have hs6:gl < w3.heap.size + 1:=by omega
  have hs7:gl < w3.heap.size + 1 + 1:=by omega
  have hs8:w.heap.size < w3.heap.size + 1:=by omega
  have hs9:w.heap.size < w3.heap.size + 1 + 1:=by omega
  by_cases h0:cc = 0
  ·obtain ⟨A9,B9,c8,c9,k9,x9,y9,s9,o9,hmv,rfl,hT⟩:=ResOk.split (R2.out h0)
   have E:=hide (show one cc ⟨2,c,0,0,false⟩ = [⟨2,c,0,0,false⟩] from one_yes h0)
   clear h0 R1 R2 hmv hT
   obtain ⟨N9,hN9⟩:∃ n,n = (unD d c).n := ⟨_,rfl⟩
   obtain ⟨N4,hN4⟩:∃ n,n = 4 * (unD d c).n := ⟨_,rfl⟩
   obtain ⟨L9,hL9⟩:∃ n,n = (unD d c).lp := ⟨_,rfl⟩
   rw [← hN4,← hN9,← hL9]
   clear hN9 hN4 hL9
   obtain ⟨q0,q1⟩:=box1 P3.out.l
   obtain ⟨n0,hn0,hz0,hz1,hz2⟩:=info_parts moveInfo
   have PA:=hide ((P3.out.alloc (.cells #[.slice A9 N9 c8,.slice B9 N4 c9,.int .i64 (L9:Int)] 24)).alloc (.cells #[.int .i64 k9,.int .i64 x9,.int .i64 y9,.int .i64 s9,.bool o9] 37))
   have A0:=hide (PA.out.alloc (.cells (Mv.cells ⟨2,c,0,0,false⟩).toArray 37)).o
   have A1:∀ u ∈ Mv.cells ⟨2,c,0,0,false⟩,u.oneCell' = true:=by simp [Mv.cells,Value.oneCell']
   have A2:ms.length + 1 ≤ maxLen:=by unfold maxLen; omega
   have A3:(ms.length + 1) * 40 ≤ 140737488355328:=by omega
   have A6:=hide (five_news ((w3.alloc (.cells #[.slice A9 N9 c8,.slice B9 N4 c9,.int .i64 (L9:Int)] 24)).alloc (.cells #[.int .i64 k9,.int .i64 x9,.int .i64 y9,.int .i64 s9,.bool o9] 37)) (w3.heap.size + 1 + 1) (by simp) ⟨2,c,0,0,false⟩)
   go_wp2_with (at_builtin; refine wpList_append_lies _ (by rfl) _ _ 27 (by rfl) (gl + 1) 37 n0 (.agg #[.int .i64 0,.int .i64 0,.int .i64 0,.int .i64 0,.bool false]) 5 40 Try.underlying27 hn0 hz0 hz1 hz2 rfl (by omega) v ms.length (mvs ms) (by rfl) A0.out ⟨w3.heap.size + 1 + 1,0,none⟩ 1 1 (Mv.cells ⟨2,c,0,0,false⟩) (by rfl) (by rfl) A6.out A1 (by omega) A2 A3 (by simp; omega) (w3.heap.size + 1 + 1 + 1) (by simp) ?_; intro g2 c2 w2 own2 grow2 at2 lt2; obtain ⟨q2,q3⟩:=box1 ((PA.out.alloc (.cells (Mv.cells ⟨2,c,0,0,false⟩).toArray 37)).l.grown grow2 ((PA.out.alloc (.cells (Mv.cells ⟨2,c,0,0,false⟩).toArray 37)).far (Nat.le_refl _))); have OWN2 := hide own2; have GR2 := hide grow2; clear own2 grow2 at2)
   refine bodyPost_end (results_none rfl _ _ _) rfl ⟨rfl,.slice (some ⟨g2,0,none⟩) (ms.length + 1) c2,?_⟩
   rw [← HC.out,E.out]
   exact (PA.out.alloc _).push OWN2.out GR2.out
  ·have E:=hide (show one cc ⟨2,c,0,0,false⟩ = [] from one_no h0)
   have hE:=ResErr.split (R1.out h0)
   subst hE
   have t1:(cc == 0) = false:=by rw [beq_eq_false_iff_ne]; exact h0
   clear h0 R1 R2
   go_wp2
   refine bodyPost_end (results_none rfl _ _ _) rfl ⟨rfl,v,?_⟩
   rw [← HC.out,E.out,List.append_nil]
   exact (P3.out.alloc _).alloc _
 ·have HE2:=HE.out
  rw [Pl.vb_false hI] at HE2
  have E:=hide (show one cc ⟨2,c,0,0,false⟩ = [] from one_no (by
   rw [HC.out]
   unfold uncC
   rw [if_neg (show ¬ d.m (kk d c) / 4 = c from hI)]
   decide))
  unfold kinkE at HE2
  simp only [Bool.false_eq_true,if_false] at HE2
  subst HE2
  clear HE hI
  go_wp2
  refine bodyPost_ret (results_none rfl _ _ _) rfl ⟨rfl,v,?_⟩
  rw [← HC.out,E.out,List.append_nil]
  exact P2.out
set_option maxRecDepth 100000 in
set_option maxHeartbeats 4000000 in
theorem uncurls_any (d:Pl.Dg) (hd:Pl.Wf d) (A B:Option Addr) (cp cq m:Nat) (w:World) (hm:m = 4 * d.n) (hg:DgAt w A B d) :
 Calls Try.prog 59 #[.agg #[.slice A d.n cp,.slice B m cq,.int .i64 d.lp]] w fun e w' => ∃ v,e = .returned v ∧ MovesIn w.heap.size w' v (unL d d.n) ∧ Below w.heap.size w w' := by
 have HM:=hide hm
 have HG:=hide hg
 have hn:=hd.few
 have P0:=hide (show MG w 24 w.heap.size (w.heap.size + 1) [.slice A d.n cp,.slice B m cq,.int .i64 (d.lp:Int)] (.slice none 0 0) [] ((w.alloc (.cells #[.slice A d.n cp,.slice B m cq,.int .i64 (d.lp:Int)] 24)).alloc (.cells #[.slice none 0 0] 27)) from
  ⟨(row_at (vs := [_,_,_]) rfl).alloc _,row_at (vs := [_]) (by simp),⟨rfl,.inl ⟨rfl,rfl⟩⟩,((Below.refl _ _).alloc (Nat.le_refl _) _).alloc (by simp) _,Nat.le_refl _,by omega⟩)
 clear hg hm
 go_enter Try.func59,Try.ntmps59
 go_wp2
 go_loopg [5,10] d.n (fun g s5 s10 wx => ∃ (k:Nat) (v:Value),k + g = d.n ∧ s10 = .int .i64 (k:Int) ∧ MG w 24 w.heap.size (w.heap.size + 1) [.slice A d.n cp,.slice B m cq,.int .i64 (d.lp:Int)] v (unL d k) wx)
 case atStart => exact ⟨0,_,by omega,rfl,P0.out⟩
 case round =>
  clear P0
  obtain ⟨k,v,hkg,rfl,hp⟩:=hrel
  have HKG:=hide hkg
  have PK:=hide hp
  have hlen:=unL_len d k
  clear hp
  by_cases hk:k < d.n
  ·have hki:(k:Int) < (d.n:Int):=by omega
   clear hkg
   go_wp2_with fail
   refine (unTry_any d hd A B cp cq m w.heap.size (w.heap.size + 1) k v (unL d k) w wr HM.out (HG.out.keep PK.out.bel) hk (by omega) PK.out).mono ?_
   rintro e w1 ⟨rfl,v',hp1⟩
   have P1:=hide hp1
   clear hp1
   go_wp2
   go_roundg (gk - 1)
   case measure => have := HKG.out; omega
   case rel => exact ⟨k + 1,v',by have := HKG.out; omega,by go_num,P1.out⟩
  ·have hki:¬ ((k:Int) < (d.n:Int)):=by omega
   have e:k = d.n:=by omega
   have EL:=hide (show unL d k = unL d d.n by rw [e])
   obtain ⟨q0,q1⟩:=box1 PK.out.l
   clear hkg e
   go_wp2
   go_ret
   exact ⟨v,rfl,⟨w.heap.size + 1 + 1,by omega,PK.out.big,by rw [← EL.out]; exact PK.out.o⟩,PK.out.bel⟩
end Go.Proofs.Ytghdiolnonejaaa
end
section
namespace Go.Proofs.Ytghdiolnonejaaa
open Go Go.RowKit
attribute [local go_sem ↓] Go.wp_at_zero Go.wp_at_succ
def upY (d:Pl.Dg) (x:Nat):Nat → List Mv
 | 0 => []
 | k + 1 => upY d x k ++ (if x < k then one (unpC d x k) ⟨4,x,k,0,false⟩ else [])
def upX (d:Pl.Dg):Nat → List Mv
 | 0 => []
 | k + 1 => upX d k ++ upY d k d.n
theorem upY_none (d:Pl.Dg) (x:Nat):∀ k,k ≤ x + 1 → upY d x k = []
 | 0,_ => rfl
 | k + 1, h => by
   show upY d x k ++ (if x < k then one (unpC d x k) ⟨4,x,k,0,false⟩ else []) = []
   rw [upY_none d x k (by omega),if_neg (by omega)]
   rfl
theorem upY_len (d:Pl.Dg) (x:Nat):∀ k,(upY d x k).length ≤ k
 | 0 => Nat.le_refl _
 | k + 1 => by
   have a:=upY_len d x k
   have b:=one_len (unpC d x k) ⟨4,x,k,0,false⟩
   show (upY d x k ++ (if x < k then one (unpC d x k) ⟨4,x,k,0,false⟩ else [])).length ≤ _
   rw [List.length_append]
   split
   ·omega
   ·simp; omega
theorem upX_len {d:Pl.Dg} (hn:d.n ≤ 64):∀ k,(upX d k).length ≤ 64 * k
 | 0 => Nat.le_refl _
 | k + 1 => by
   have a:=upX_len hn k
   have b:=upY_len d k d.n
   show (upX d k ++ upY d k d.n).length ≤ _
   rw [List.length_append]
   omega
set_option maxRecDepth 100000 in
set_option maxHeartbeats 4000000 in
theorem upTry_any (d:Pl.Dg) (hd:Pl.Wf d) (A B:Option Addr) (cp cq m gd gl x y:Nat) (v:Value) (ms:List Mv) (w0 w:World) (hm:m = 4 * d.n) (hg:DgAt w A B d) (hxy:x < y) (hy:y < d.n) (hms:ms.length ≤ 1000000)
 (hp:MG w0 24 gd gl [.slice A d.n cp,.slice B m cq,.int .i64 (d.lp:Int)] v ms w) :
 Calls Try.prog 106 #[.agg #[.int .i64 4,.int .i64 (x:Int),.int .i64 (y:Int),.int .i64 0,.bool false],.pointer (some ⟨gd,0,none⟩),.pointer (some ⟨gl,0,none⟩)] w fun e w' => e = .returned (.tuple #[]) ∧ ∃ v',MG w0 24 gd gl [.slice A d.n cp,.slice B m cq,.int .i64 (d.lp:Int)] v' (ms ++ one (unpC d x y) ⟨4,x,y,0,false⟩) w' := by
 have HM:=hide hm
 have HG:=hide hg
 have hn:=hd.few
 obtain ⟨cc,hcc⟩:∃ c',c' = unpC d x y := ⟨_,rfl⟩
 have HC:=hide hcc
 have hb0:Below w.heap.size w (w.alloc (.cells #[.int .i64 4,.int .i64 (x:Int),.int .i64 (y:Int),.int .i64 0,.bool false] 37)):=(Below.refl _ _).alloc (Nat.le_refl _) _
 have HB0:=hide hb0
 have P1:=hide (hp.below hb0)
 have M1:=hide (row_at (W := w) (g := w.heap.size) (t := 37) (vs := [.int .i64 4,.int .i64 (x:Int),.int .i64 (y:Int),.int .i64 0,.bool false]) rfl)
 have hgl:gl < w.heap.size:=hp.big
 have hgd:gd < gl:=hp.lt
 clear hp hb0 hg hm hcc
 obtain ⟨d0,d1,d2,d3⟩:=box3 P1.out.d
 obtain ⟨e0,e1,e2,e3,e4,e5⟩:=box5 M1.out
 go_enter Try.func106,Try.ntmps106
 go_wp2_with fail
 refine (find_any d hd A B cp cq m x y _ HM.out (HG.out.keep HB0.out) (by omega) hy).mono ?_
 rintro e w1 ⟨he,hb1⟩
 have P2:=hide (P1.out.below hb1)
 have M2:=hide (M1.out.below hb1)
 have HB1:=hide (HB0.out.trans (hb1.mono HB0.out.size))
 have hs2:w.heap.size < w1.heap.size:=M2.out.lt
 have hs3:gl < w1.heap.size:=by omega
 have hs2':w.heap.size < w1.heap.size + 1:=by omega
 have hs1d:gd < w1.heap.size:=by omega
 have hs3':gl < w1.heap.size + 1:=by omega
 have HE:=hide he
 clear hb1 d0 d1 d2 d3 e0 e1 e2 e3 e4 e5 HB0 P1 M1 he
 obtain ⟨d0,d1,d2,d3⟩:=box3 P2.out.d
 obtain ⟨e0,e1,e2,e3,e4,e5⟩:=box5 M2.out
 obtain ⟨L,hL⟩:∃ L,L = lensI d x y := ⟨_,rfl⟩
 have HL:=hide hL
 have HE2:=HE.out
 rw [← hL] at HE2
 clear hL HE
 cases L with
 | some i =>
   unfold findE lensV at HE2
   dsimp only at HE2
   obtain ⟨l0,hl0⟩:∃ z:Nat,z = lnH x y i := ⟨_,rfl⟩
   rw [← hl0] at HE2
   obtain ⟨l1,hl1⟩:∃ z:Nat,z = d.m (Pl.nx d l0) := ⟨_,rfl⟩
   rw [← hl1] at HE2
   obtain ⟨l2,hl2⟩:∃ z:Nat,z = Pl.tn l0 2 := ⟨_,rfl⟩
   rw [← hl2] at HE2
   obtain ⟨l3,hl3⟩:∃ z:Nat,z = Pl.tn l1 2 := ⟨_,rfl⟩
   rw [← hl3] at HE2
   obtain ⟨l4,hl4⟩:∃ z:Nat,z = Pl.tn (d.m l0) 2 := ⟨_,rfl⟩
   rw [← hl4] at HE2
   obtain ⟨l5,hl5⟩:∃ z:Nat,z = Pl.nx d l0 := ⟨_,rfl⟩
   rw [← hl5] at HE2
   obtain ⟨l6,hl6⟩:∃ z:Nat,z = d.m l0 := ⟨_,rfl⟩
   rw [← hl6] at HE2
   obtain ⟨l7,hl7⟩:∃ z:Nat,z = Pl.tn l5 2 := ⟨_,rfl⟩
   rw [← hl7] at HE2
   clear hl0 hl1 hl2 hl3 hl4 hl5 hl6 hl7
   subst HE2
   have PL:=hide (P2.out.alloc (.cells #[.int .i64 (l0:Int),.int .i64 (l1:Int),.int .i64 (l2:Int),.int .i64 (l3:Int),.int .i64 (l4:Int),.int .i64 (l5:Int),.int .i64 (l6:Int),.int .i64 (l7:Int)] 101))
   have ML0:=hide (M2.out.alloc (.cells #[.int .i64 (l0:Int),.int .i64 (l1:Int),.int .i64 (l2:Int),.int .i64 (l3:Int),.int .i64 (l4:Int),.int .i64 (l5:Int),.int .i64 (l6:Int),.int .i64 (l7:Int)] 101))
   have HBL:=hide (HB1.out.alloc HB1.out.size (.cells #[.int .i64 (l0:Int),.int .i64 (l1:Int),.int .i64 (l2:Int),.int .i64 (l3:Int),.int .i64 (l4:Int),.int .i64 (l5:Int),.int .i64 (l6:Int),.int .i64 (l7:Int)] 101))
   go_wp2_with fail
   refine (unpoke_m d hd A B cp cq m x y 4 0 false _ HM.out (HG.out.keep HBL.out) hxy hy).mono ?_
   rintro e w3 ⟨r1,r2,hb3⟩
   have P3:=hide (PL.out.below hb3)
   have M3:=hide (ML0.out.below hb3)
   have hs4:w.heap.size < w3.heap.size:=M3.out.lt
   have hs5:gl < w3.heap.size:=by omega
   rw [← HC.out] at r1 r2
   have R1:=hide r1
   have R2:=hide r2
   clear r1 r2 hb3 d0 d1 d2 d3 e0 e1 e2 e3 e4 e5 HB1 P2 M2 PL ML0 HBL
   obtain ⟨e0,e1,e2,e3,e4,e5⟩:=box5 M3.out
   have hs6:gl < w3.heap.size + 1:=by omega
   have hs7:gl < w3.heap.size + 1 + 1:=by omega
   have hs8:w.heap.size < w3.heap.size + 1:=by omega
   have hs9:w.heap.size < w3.heap.size + 1 + 1:=by omega
   by_cases h0:cc = 0
   ·obtain ⟨A9,B9,c8,c9,k9,x9,y9,s9,o9,hmv,rfl,hT⟩:=ResOk.split (R2.out h0)
    have E:=hide (show one cc ⟨4,x,y,0,false⟩ = [⟨4,x,y,0,false⟩] from one_yes h0)
    clear h0 R1 R2 hmv hT
    obtain ⟨N9,hN9⟩:∃ n,n = (unpD d x y).n := ⟨_,rfl⟩
    obtain ⟨N4,hN4⟩:∃ n,n = 4 * (unpD d x y).n := ⟨_,rfl⟩
    obtain ⟨L9,hL9⟩:∃ n,n = (unpD d x y).lp := ⟨_,rfl⟩
    rw [← hN4,← hN9,← hL9]
    clear hN9 hN4 hL9
    obtain ⟨q0,q1⟩:=box1 P3.out.l
    obtain ⟨n0,hn0,hz0,hz1,hz2⟩:=info_parts moveInfo
    have PA:=hide ((P3.out.alloc (.cells #[.slice A9 N9 c8,.slice B9 N4 c9,.int .i64 (L9:Int)] 24)).alloc (.cells #[.int .i64 k9,.int .i64 x9,.int .i64 y9,.int .i64 s9,.bool o9] 37))
    have A0:=hide (PA.out.alloc (.cells (Mv.cells ⟨4,x,y,0,false⟩).toArray 37)).o
    have A1:∀ u ∈ Mv.cells ⟨4,x,y,0,false⟩,u.oneCell' = true:=by simp [Mv.cells,Value.oneCell']
    have A2:ms.length + 1 ≤ maxLen:=by unfold maxLen; omega
    have A3:(ms.length + 1) * 40 ≤ 140737488355328:=by omega
    have A6:=hide (five_news ((w3.alloc (.cells #[.slice A9 N9 c8,.slice B9 N4 c9,.int .i64 (L9:Int)] 24)).alloc (.cells #[.int .i64 k9,.int .i64 x9,.int .i64 y9,.int .i64 s9,.bool o9] 37)) (w3.heap.size + 1 + 1) (by simp) ⟨4,x,y,0,false⟩)
    go_wp2_with (at_builtin; refine wpList_append_lies _ (by rfl) _ _ 27 (by rfl) (gl + 1) 37 n0 (.agg #[.int .i64 0,.int .i64 0,.int .i64 0,.int .i64 0,.bool false]) 5 40 Try.underlying27 hn0 hz0 hz1 hz2 rfl (by omega) v ms.length (mvs ms) (by rfl) A0.out ⟨w3.heap.size + 1 + 1,0,none⟩ 1 1 (Mv.cells ⟨4,x,y,0,false⟩) (by rfl) (by rfl) A6.out A1 (by omega) A2 A3 (by simp; omega) (w3.heap.size + 1 + 1 + 1) (by simp) ?_; intro g2 c2 w2 own2 grow2 at2 lt2; obtain ⟨q2,q3⟩:=box1 ((PA.out.alloc (.cells (Mv.cells ⟨4,x,y,0,false⟩).toArray 37)).l.grown grow2 ((PA.out.alloc (.cells (Mv.cells ⟨4,x,y,0,false⟩).toArray 37)).far (Nat.le_refl _))); have OWN2 := hide own2; have GR2 := hide grow2; clear own2 grow2 at2)
    refine bodyPost_end (results_none rfl _ _ _) rfl ⟨rfl,.slice (some ⟨g2,0,none⟩) (ms.length + 1) c2,?_⟩
    rw [← HC.out,E.out]
    exact (PA.out.alloc _).push OWN2.out GR2.out
   ·have E:=hide (show one cc ⟨4,x,y,0,false⟩ = [] from one_no h0)
    have hE:=ResErr.split (R1.out h0)
    subst hE
    have t1:(cc == 0) = false:=by rw [beq_eq_false_iff_ne]; exact h0
    clear h0 R1 R2
    go_wp2
    refine bodyPost_end (results_none rfl _ _ _) rfl ⟨rfl,v,?_⟩
    rw [← HC.out,E.out,List.append_nil]
    exact (P3.out.alloc _).alloc _
 | none =>
   unfold findE noLens at HE2
   dsimp only at HE2
   have E:=hide (show one cc ⟨4,x,y,0,false⟩ = [] from one_no (by
    rw [HC.out]
    unfold unpC
    rw [← HL.out]
    intro h
    cases h))
   subst HE2
   go_wp2
   refine bodyPost_ret (results_none rfl _ _ _) rfl ⟨rfl,v,?_⟩
   rw [← HC.out,E.out,List.append_nil]
   exact P2.out.alloc _
set_option maxRecDepth 100000 in
set_option maxHeartbeats 4000000 in
theorem unpokes_any (d:Pl.Dg) (hd:Pl.Wf d) (A B:Option Addr) (cp cq m:Nat) (w:World) (hm:m = 4 * d.n) (hg:DgAt w A B d) :
 Calls Try.prog 61 #[.agg #[.slice A d.n cp,.slice B m cq,.int .i64 d.lp]] w fun e w' => ∃ v,e = .returned v ∧ MovesIn w.heap.size w' v (upX d d.n) ∧ Below w.heap.size w w' := by
 have HM:=hide hm
 have HG:=hide hg
 have hn:=hd.few
 have P0:=hide (show MG w 24 w.heap.size (w.heap.size + 1) [.slice A d.n cp,.slice B m cq,.int .i64 (d.lp:Int)] (.slice none 0 0) [] ((w.alloc (.cells #[.slice A d.n cp,.slice B m cq,.int .i64 (d.lp:Int)] 24)).alloc (.cells #[.slice none 0 0] 27)) from
  ⟨(row_at (vs := [_,_,_]) rfl).alloc _,row_at (vs := [_]) (by simp),⟨rfl,.inl ⟨rfl,rfl⟩⟩,((Below.refl _ _).alloc (Nat.le_refl _) _).alloc (by simp) _,Nat.le_refl _,by omega⟩)
 clear hg hm
 go_enter Try.func61,Try.ntmps61
 go_wp2
 go_loopg [5,6,11] d.n (fun g s5 s6 s11 wx => ∃ (k:Nat) (v:Value),k + g = d.n ∧ s11 = .int .i64 (k:Int) ∧ MG w 24 w.heap.size (w.heap.size + 1) [.slice A d.n cp,.slice B m cq,.int .i64 (d.lp:Int)] v (upX d k) wx)
 case atStart => exact ⟨0,_,by omega,rfl,P0.out⟩
 case round =>
  clear P0
  obtain ⟨k,v,hkg,rfl,hp⟩:=hrel
  obtain ⟨go,rfl⟩:∃ go,go = gk := ⟨_,rfl⟩
  have HKG:=hide hkg
  have PK:=hide hp
  have hlen:=upX_len hn k
  clear hp
  by_cases hk:k < d.n
  ·have hki:(k:Int) < (d.n:Int):=by omega
   clear hkg
   go_wp2
   go_loopg [6] (d.n - (k + 1)) (fun g s6 wx => ∃ (j:Nat) (u:Value),j + g = d.n ∧ k + 1 ≤ j ∧ s6 = .int .i64 (j:Int) ∧ MG w 24 w.heap.size (w.heap.size + 1) [.slice A d.n cp,.slice B m cq,.int .i64 (d.lp:Int)] u (upX d k ++ upY d k j) wx)
   case atStart => exact ⟨k + 1,v,by omega,by omega,by go_num,by rw [upY_none d k (k + 1) (Nat.le_refl _),List.append_nil]; exact PK.out⟩
   case round =>
    clear PK
    obtain ⟨j,u,hjg,hkj,rfl,hq⟩:=hrel
    have HJG:=hide hjg
    have QJ:=hide hq
    have hlen2:=upY_len d k j
    obtain ⟨d0,d1,d2,d3⟩:=box3 hq.d
    clear hq hjg
    by_cases hj:j < d.n
    ·have hji:(j:Int) < (d.n:Int):=by omega
     go_wp2_with fail
     refine (upTry_any d hd A B cp cq m _ _ k j u _ w _ HM.out (HG.out.keep QJ.out.bel) (by omega) hj (by simp only [List.length_append]; omega) QJ.out).mono ?_
     rintro e w1 ⟨rfl,u1,hp1⟩
     have Q1:=hide hp1
     clear hp1
     go_wp2
     go_roundg (gk - 1)
     case measure => have := HJG.out; omega
     case rel =>
      have e2:upY d k (j + 1) = upY d k j ++ one (unpC d k j) ⟨4,k,j,0,false⟩:=by
       show upY d k j ++ (if k < j then one (unpC d k j) ⟨4,k,j,0,false⟩ else []) = _
       rw [if_pos (by omega)]
      exact ⟨j + 1,u1,by have := HJG.out; omega,by omega,by go_num,by rw [e2]; simpa using Q1.out⟩
    ·have hji:¬ ((j:Int) < (d.n:Int)):=by omega
     have E2:=hide (show upX d (k + 1) = upX d k ++ upY d k j by
      have:j = d.n:=by have := HJG.out; omega
      rw [this]; rfl)
     go_wp2
     go_roundg (go - 1)
     case measure => have := HKG.out; omega
     case rel => exact ⟨k + 1,u,by have := HKG.out; omega,by go_num,by rw [E2.out]; exact QJ.out⟩
  ·have hki:¬ ((k:Int) < (d.n:Int)):=by omega
   have e:k = d.n:=by omega
   have EL:=hide (show upX d k = upX d d.n by rw [e])
   obtain ⟨q0,q1⟩:=box1 PK.out.l
   clear hkg e
   go_wp2
   go_ret
   exact ⟨v,rfl,⟨w.heap.size + 1 + 1,by omega,PK.out.big,by rw [← EL.out]; exact PK.out.o⟩,PK.out.bel⟩
end Go.Proofs.Ytghdiolnonejaaa
end
section
namespace Go.Proofs.Ytghdiolnonejaaa.Pl
def lx:List Int → List Int → Int
 | [],[] => 0
 | [],_ :: _ => -1
 | _ :: _,[] => 1
 | x :: l,y :: m => if x < y then -1 else if y < x then 1 else lx l m
theorem lx_self:∀ l,lx l l = 0
 | [] => rfl
 | x :: l => by unfold lx; rw [if_neg (by omega),if_neg (by omega),lx_self l]
theorem lx_eq:∀ {l m:List Int},lx l m = 0 → l = m
 | [],[],_ => rfl
 | [],_ :: _,h => by simp [lx] at h
 | _ :: _,[],h => by simp [lx] at h
 | x :: l, y :: m, h => by
   unfold lx at h
   by_cases h1:x < y
   ·rw [if_pos h1] at h; omega
   ·by_cases h2:y < x
    ·rw [if_neg h1,if_pos h2] at h; omega
    ·rw [if_neg h1,if_neg h2] at h
     rw [lx_eq h,show x = y by omega]
theorem lx_neg:∀ (l m:List Int),lx m l = - lx l m
 | [],[] => rfl
 | [],_ :: _ => rfl
 | _ :: _,[] => rfl
 | x :: l, y :: m => by
   unfold lx
   by_cases h1:x < y
   ·rw [if_pos h1,if_neg (by omega),if_pos h1]; rfl
   ·by_cases h2:y < x
    ·rw [if_pos h2,if_neg h1,if_pos h2]
    ·rw [if_neg h1,if_neg h2,if_neg h1,if_neg h2,lx_neg l m]
theorem lx_trans:∀ {l m k:List Int},lx l m ≤ 0 → lx m k ≤ 0 → lx l k ≤ 0
 | [],[],k,_,h => h
 | [],_ :: _,[],_,_ => by simp [lx]
 | [],_ :: _,_ :: _,_,_ => by simp [lx]
 | _ :: _,[],_,h,_ => by simp [lx] at h
 | _ :: _,_ :: _,[],_,h => by simp [lx] at h
 | x :: l, y :: m, z :: k, h1, h2 => by
   unfold lx at h1 h2 ⊢
   by_cases a1:x < y
   ·by_cases b1:y < z
    ·rw [if_pos (by omega)]; omega
    ·by_cases b2:z < y
     ·rw [if_neg b1,if_pos b2] at h2; omega
     ·rw [if_pos (by omega)]; omega
   ·by_cases a2:y < x
    ·rw [if_neg a1,if_pos a2] at h1; omega
    ·rw [if_neg a1,if_neg a2] at h1
     by_cases b1:y < z
     ·rw [if_pos (by omega)]; omega
     ·by_cases b2:z < y
      ·rw [if_neg b1,if_pos b2] at h2; omega
      ·rw [if_neg b1,if_neg b2] at h2
       rw [if_neg (by omega),if_neg (by omega)]; exact lx_trans h1 h2
theorem lx_anti {l m:List Int} (h1:lx l m ≤ 0) (h2:lx m l ≤ 0):l = m := lx_eq (by rw [lx_neg l m] at h2; omega)
theorem lx_app:∀ {l m:List Int},l.length = m.length → ∀ l' m',lx (l ++ l') (m ++ m') = if lx l m = 0 then lx l' m' else lx l m
 | [],[],_,l',m' => by simp [lx]
 | [],_ :: _,h,_,_ => by simp at h
 | _ :: _,[],h,_,_ => by simp at h
 | x :: l, y :: m, h, l', m' => by
   have ih:=lx_app (l := l) (m := m) (by simpa using h) l' m'
   have e:∀ (x y:Int) (l m:List Int),lx (x :: l) (y :: m) = if x < y then -1 else if y < x then 1 else lx l m:=fun _ _ _ _ => rfl
   rw [List.cons_append,List.cons_append,e,e]
   by_cases h1:x < y
   ·rw [if_pos h1,if_pos h1,if_neg (by omega)]
   ·by_cases h2:y < x
    ·rw [if_neg h1,if_pos h2,if_neg h1,if_pos h2,if_neg (by omega)]
    ·rw [if_neg h1,if_neg h2,if_neg h1,if_neg h2,ih]
def kle (c c':List Int):Prop := c.length < c'.length ∨ (c.length = c'.length ∧ lx c c' ≤ 0)
theorem kle_anti {c c':List Int} (h1:kle c c') (h2:kle c' c):c = c' := by
 rcases h1 with h1 | ⟨h1,h1'⟩ <;> rcases h2 with h2 | ⟨h2,h2'⟩
 ·omega
 ·omega
 ·omega
 ·exact lx_anti h1' h2'
theorem kle_trans {c c' c'':List Int} (h1:kle c c') (h2:kle c' c''):kle c c'' := by
 rcases h1 with h1 | ⟨h1,h1'⟩ <;> rcases h2 with h2 | ⟨h2,h2'⟩
 ·exact .inl (by omega)
 ·exact .inl (by omega)
 ·exact .inl (by omega)
 ·exact .inr ⟨by omega,lx_trans h1' h2'⟩
theorem kle_total (c c':List Int):kle c c' ∨ kle c' c := by
 rcases Nat.lt_trichotomy c.length c'.length with h | h | h
 ·exact .inl (.inl h)
 ·rcases Int.le_total (lx c c') 0 with h1 | h1
  ·exact .inl (.inr ⟨h,h1⟩)
  ·exact .inr (.inr ⟨h.symm,by rw [lx_neg c c']; omega⟩)
 ·exact .inr (.inl h)
structure Pc where
 code:List Int
 order:List Nat
 roots:Int
def PcOk (d:Dg) (p:Pc):Prop := ∃ r,r < d.n ∧ p.code = code d r ∧ p.order = ord d r ∧ ∀ q,Comp d r q → lx (code d r) (code d q) ≤ 0
structure Pcs (d:Dg) (ps:List Pc):Prop where
 ok:∀ p,p ∈ ps → PcOk d p
 nd:(ps.flatMap Pc.order).Nodup
 all:∀ c,c < d.n → ∃ p,p ∈ ps ∧ c ∈ p.order
def Srt (ps:List Pc):Prop := ps.Pairwise (fun p q => kle p.code q.code)
def pcode (lp:Nat) (ps:List Pc):List Int := (lp:Int) :: (ps.length:Int) :: ps.flatMap (fun p => (p.order.length:Int) :: p.code)
theorem Pcs.uniq {d:Dg} {ps:List Pc} (h:Pcs d ps) {i j c:Nat} {p q:Pc} (hi:ps[i]? = some p) (hj:ps[j]? = some q) (hp:c ∈ p.order) (hq:c ∈ q.order):i = j := by
 have h1:=(List.pairwise_flatMap.1 h.nd).2
 rw [List.pairwise_iff_getElem] at h1
 obtain ⟨li,ei⟩:=List.getElem?_eq_some_iff.1 hi
 obtain ⟨lj,ej⟩:=List.getElem?_eq_some_iff.1 hj
 rcases Nat.lt_trichotomy i j with e | e | e
 ·exact absurd rfl (h1 i j li lj e c (by rw [ei]; exact hp) c (by rw [ej]; exact hq))
 ·exact e
 ·exact absurd rfl (h1 j i lj li e c (by rw [ej]; exact hq) c (by rw [ei]; exact hp))
theorem Pcs.at_ {d:Dg} {ps:List Pc} (h:Pcs d ps) {c:Nat} (hc:c < d.n):∃ (i:Nat) (p:Pc),ps[i]? = some p ∧ c ∈ p.order := by
 obtain ⟨p,hp,hm⟩:=h.all c hc
 obtain ⟨i,hi,rfl⟩:=List.getElem_of_mem hp
 exact ⟨i,_,List.getElem?_eq_getElem hi,hm⟩
theorem PcOk.len {d:Dg} {p:Pc} (h:PcOk d p):p.code.length = 5 * p.order.length := by
 obtain ⟨r,_,e1,e2,_⟩:=h
 rw [e1,e2,code_len]
theorem perm_of_corr {α:Type}:∀ (K L:List α) (π:Nat → Nat),(∀ i,i < K.length → π i < L.length ∧ L[π i]? = K[i]?) → (∀ i j,i < K.length → j < K.length → π i = π j → i = j) → ∃ r,L.Perm (K ++ r)
 | [],L,_,_,_ => ⟨L,by simp⟩
 | k :: K, L, π, h, hinj => by
   obtain ⟨hl,he⟩:=h 0 (by simp)
   have he':L[π 0] = k:=by
    rw [List.getElem?_eq_getElem hl] at he
    simpa using he
   have hL:L.Perm (k :: L.eraseIdx (π 0)):=by
    have h1:L = L.take (π 0) ++ k :: L.drop (π 0 + 1):=by
     conv => lhs; rw [← List.take_append_drop (π 0) L]
     rw [List.drop_eq_getElem_cons hl,he']
    have h2:L.eraseIdx (π 0) = L.take (π 0) ++ L.drop (π 0 + 1):=List.eraseIdx_eq_take_drop_succ _ _
    rw [h2]
    conv => lhs; rw [h1]
    exact List.perm_middle
   have hlen:(L.eraseIdx (π 0)).length + 1 = L.length:=by rw [List.length_eraseIdx,if_pos hl]; omega
   have key:∀ i,i < K.length → π (i + 1) ≠ π 0:=fun i hi e => by
    have:=hinj (i + 1) 0 (by simp; omega) (by simp) e
    omega
   obtain ⟨r,hr⟩:=perm_of_corr K (L.eraseIdx (π 0)) (fun i => if π (i + 1) < π 0 then π (i + 1) else π (i + 1) - 1) (fun i hi => by
    obtain ⟨h1,h2⟩:=h (i + 1) (by simp; omega)
    have hne:=key i hi
    rw [List.getElem?_cons_succ] at h2
    by_cases e:π (i + 1) < π 0
    ·simp only [if_pos e]
     exact ⟨by omega,by rw [List.getElem?_eraseIdx_of_lt e,h2]⟩
    ·simp only [if_neg e]
     refine ⟨by omega,?_⟩
     rw [List.getElem?_eraseIdx_of_ge (by omega),show π (i + 1) - 1 + 1 = π (i + 1) by omega,h2]) (fun i j hi hj e => by
    have hne1:=key i hi
    have hne2:=key j hj
    have:π (i + 1) = π (j + 1):=by
     split at e <;> split at e <;> omega
    have:=hinj (i + 1) (j + 1) (by simp; omega) (by simp; omega) this
    omega)
   exact ⟨r,hL.trans (hr.cons k)⟩
section
variable {a b:Dg} {ps qs:List Pc} {σ:Nat → Nat}
theorem Pcs.corr (I:Iso a b σ) (ha:Wf a) (hb:Wf b) (hp:Pcs a ps) (hq:Pcs b qs):ps.length ≤ qs.length ∧ ∃ r,(qs.map Pc.code).Perm (ps.map Pc.code ++ r) := by
 obtain ⟨τ,J,t1,t2⟩:=I.symm ha
 have hw:∀ i,∃ j,i < ps.length → ∃ (p q:Pc),ps[i]? = some p ∧ qs[j]? = some q ∧ p.code = q.code ∧ ∃ r,r ∈ p.order ∧ σ r ∈ q.order ∧ r < a.n:=fun i => by
  by_cases hi:i < ps.length
  ·obtain ⟨r,hr,e1,e2,hl⟩:=hp.ok _ (List.getElem_mem hi)
   have hsr:σ r < b.n:=by rw [← I.n]; exact I.lt r hr
   obtain ⟨j,q,hj,hm⟩:=hq.at_ hsr
   refine ⟨j,fun _ => ⟨_,q,List.getElem?_eq_getElem hi,hj,?_,r,by rw [e2]; exact (ord_ok ha hr).root,hm,hr⟩⟩
   obtain ⟨r',hr',f1,f2,fl⟩:=hq.ok q (List.mem_of_getElem? hj)
   rw [f2,ord_mem hb hr'] at hm
   have k1:lx (code b r') (code b (σ r)) ≤ 0:=fl _ hm
   have ht:τ r' < a.n:=by rw [I.n]; exact J.lt r' hr'
   have k2:Comp a r (τ r'):=by
    have:Comp b (σ r) (σ (τ r')):=by rw [t2 r' (by rw [I.n]; exact hr')]; exact comp_symm hb hr' hm
    exact (I.comp ha hb hr ht).1 this
   have k3:=hl _ k2
   rw [I.code ha hr] at k1
   rw [J.code hb hr'] at k3
   rw [e1,f1]
   exact lx_anti k3 k1
  ·exact ⟨0,fun h => absurd h hi⟩
 let π := fun i => Classical.choose (hw i)
 have h1:∀ i,i < ps.length → ∃ (p q:Pc),ps[i]? = some p ∧ qs[π i]? = some q ∧ p.code = q.code ∧ ∃ r,r ∈ p.order ∧ σ r ∈ q.order ∧ r < a.n:=fun i hi => Classical.choose_spec (hw i) hi
 have hlt:∀ i,i < ps.length → π i < qs.length:=fun i hi => by
  obtain ⟨p,q,_,h,_⟩:=h1 i hi
  exact (List.getElem?_eq_some_iff.1 h).1
 have hinj:∀ i j,i < ps.length → j < ps.length → π i = π j → i = j:=fun i j hi hj e => by
  obtain ⟨p,q,e1,e2,_,r,m1,m2,hr⟩:=h1 i hi
  obtain ⟨p',q',f1,f2,_,r',n1,n2,hr'⟩:=h1 j hj
  rw [e] at e2
  rw [e2] at f2
  injection f2 with f2
  subst f2
  obtain ⟨x,hx,x1,x2,_⟩:=hq.ok q (List.mem_of_getElem? e2)
  rw [x2,ord_mem hb hx] at m2 n2
  have k1:Comp a r r':=(I.comp ha hb hr hr').1 ((comp_symm hb hx m2).trans n2)
  obtain ⟨y,hy,y1,y2,_⟩:=hp.ok p (List.mem_of_getElem? e1)
  refine hp.uniq (c := r') e1 f1 ?_ n1
  rw [y2,ord_mem ha hy] at m1 ⊢
  exact m1.trans k1
 refine ⟨pigeon _ _ π hlt hinj,perm_of_corr _ _ π (fun i hi => ?_) (fun i j hi hj e => hinj i j (by simpa using hi) (by simpa using hj) e)⟩
 rw [List.length_map] at hi
 obtain ⟨p,q,e1,e2,e3,_⟩:=h1 i hi
 refine ⟨by rw [List.length_map]; exact hlt i hi,?_⟩
 rw [List.getElem?_map,List.getElem?_map,e1,e2]
 simp [e3]
theorem codes_eq (I:Iso a b σ) (ha:Wf a) (hb:Wf b) (hp:Pcs a ps) (hq:Pcs b qs) (sp:Srt ps) (sq:Srt qs):ps.map Pc.code = qs.map Pc.code := by
 obtain ⟨τ,J,_,_⟩:=I.symm ha
 obtain ⟨l1,r,hr⟩:=hp.corr I ha hb hq
 obtain ⟨l2,_⟩:=hq.corr J hb ha hp
 have:r = []:=by
  have:=hr.length_eq
  rw [List.length_append,List.length_map,List.length_map] at this
  exact List.length_eq_zero_iff.1 (by omega)
 subst this
 rw [List.append_nil] at hr
 exact (List.Perm.eq_of_pairwise (le := kle) (fun x y _ _ h1 h2 => kle_anti h1 h2) (by rw [List.pairwise_map]; exact sq) (by rw [List.pairwise_map]; exact sp) hr).symm
theorem pcode_of {d:Dg} {ps:List Pc} (h:Pcs d ps) (lp:Nat):pcode lp ps = (lp:Int) :: ((ps.map Pc.code).length:Int) :: (ps.map Pc.code).flatMap (fun c => ((c.length / 5:Nat):Int) :: c) := by
 unfold pcode
 rw [List.length_map]
 congr 2
 have:∀ (l:List Pc),(∀ p,p ∈ l → PcOk d p) → l.flatMap (fun p => (p.order.length:Int) :: p.code) = (l.map Pc.code).flatMap (fun c => ((c.length / 5:Nat):Int) :: c):=by
  intro l
  induction l with
  | nil => intro _; rfl
  | cons p l ih =>
    intro hl
    rw [List.map_cons,List.flatMap_cons,List.flatMap_cons,ih (fun q hq => hl q (by simp [hq])),(hl p (by simp)).len,show 5 * p.order.length / 5 = p.order.length by omega]
 exact this ps h.ok
theorem Iso.pcode (I:Iso a b σ) (ha:Wf a) (hb:Wf b) (hp:Pcs a ps) (hq:Pcs b qs) (sp:Srt ps) (sq:Srt qs):Pl.pcode a.lp ps = Pl.pcode b.lp qs := by
 rw [pcode_of hp,pcode_of hq,codes_eq I ha hb hp hq sp sq,I.lp]
theorem codes_of {ps qs:List Pc} (h:∀ p,p ∈ ps → p.code.length = 5 * p.order.length) (h':∀ p,p ∈ qs → p.code.length = 5 * p.order.length):ps.flatMap (fun p => (p.order.length:Int) :: p.code) = qs.flatMap (fun p => (p.order.length:Int) :: p.code) → ps.length = qs.length → ps.map Pc.code = qs.map Pc.code := by
 induction ps generalizing qs with
 | nil =>
   intro _ hl
   rw [List.length_nil] at hl
   rw [List.length_eq_zero_iff.1 hl.symm]
 | cons p ps ih =>
   cases qs with
   | nil => intro _ hl; simp at hl
   | cons q qs =>
     intro he hl
     rw [List.flatMap_cons,List.flatMap_cons,List.cons_append,List.cons_append] at he
     injection he with h1 h2
     have hlen:p.code.length = q.code.length:=by rw [h p (by simp),h' q (by simp)]; omega
     obtain ⟨h3,h4⟩:=List.append_inj h2 hlen
     rw [List.map_cons,List.map_cons,h3,ih (fun x hx => h x (by simp [hx])) (fun x hx => h' x (by simp [hx])) h4 (by simpa using hl)]
theorem iso_of_code (ha:Wf a) (hb:Wf b) (hp:Pcs a ps) (hq:Pcs b qs) (h:Pl.pcode a.lp ps = Pl.pcode b.lp qs):∃ σ,Iso a b σ := by
 unfold Pl.pcode at h
 injection h with hlp h
 injection h with hlen h
 have hlen':ps.length = qs.length:=by omega
 have hc:=codes_of (fun p hp' => (hp.ok p hp').len) (fun p hq' => (hq.ok p hq').len) h hlen'
 have hci:∀ (i:Nat) (p q:Pc),ps[i]? = some p → qs[i]? = some q → p.code = q.code:=fun i p q h1 h2 => by
  have:=congrArg (fun l => l[i]?) hc
  simpa [List.getElem?_map,h1,h2] using this
 -- crossings that have the same place
 have ex:∀ c,∃ c',c < a.n → ∃ (i k:Nat) (p q:Pc),ps[i]? = some p ∧ qs[i]? = some q ∧ p.order[k]? = some c ∧ q.order[k]? = some c':=fun c => by
  by_cases hcn:c < a.n
  ·obtain ⟨i,p,hi,hm⟩:=hp.at_ hcn
   obtain ⟨k,hk,rfl⟩:=List.getElem_of_mem hm
   have hil:=(List.getElem?_eq_some_iff.1 hi).1
   have hq':qs[i]? = some (qs[i]'(by omega)):=List.getElem?_eq_getElem (by omega)
   have e:=hci i p _ hi hq'
   have l1:=(hp.ok p (List.mem_of_getElem? hi)).len
   have l2:=(hq.ok _ (List.mem_of_getElem? hq')).len
   rw [e] at l1
   exact ⟨(qs[i]'(by omega)).order[k]'(by omega),fun _ => ⟨i,k,p,_,hi,hq',List.getElem?_eq_getElem hk,List.getElem?_eq_getElem (by omega)⟩⟩
  ·exact ⟨0,fun h => absurd h hcn⟩
 let σ := fun c => Classical.choose (ex c)
 have hσ:∀ c,c < a.n → ∃ (i k:Nat) (p q:Pc),ps[i]? = some p ∧ qs[i]? = some q ∧ p.order[k]? = some c ∧ q.order[k]? = some (σ c):=fun c hc => Classical.choose_spec (ex c) hc
 have pnd:∀ (d:Dg) (_:Wf d) (p:Pc),PcOk d p → p.order.Nodup:=fun d hd p h => by
  obtain ⟨r,hr,_,e,_⟩:=h
  rw [e]; exact (ord_ok hd hr).nd
 have one:∀ (o:List Nat) (k k' c:Nat),o.Nodup → o[k]? = some c → o[k']? = some c → k = k':=fun o k k' c hn h1 h2 => by
  obtain ⟨l1,e1⟩:=List.getElem?_eq_some_iff.1 h1
  obtain ⟨l2,e2⟩:=List.getElem?_eq_some_iff.1 h2
  exact (List.getElem_inj hn).1 (e1.trans e2.symm)
 -- the place decides
 have fit:∀ c (i k:Nat) (p q:Pc) (c':Nat),c < a.n → ps[i]? = some p → qs[i]? = some q → p.order[k]? = some c → q.order[k]? = some c' → σ c = c':=fun c i k p q c' hc h1 h2 h3 h4 => by
  obtain ⟨i2,k2,p2,q2,g1,g2,g3,g4⟩:=hσ c hc
  obtain rfl := hp.uniq h1 g1 (List.mem_of_getElem? h3) (List.mem_of_getElem? g3)
  rw [h1] at g1; injection g1 with g1; subst g1
  rw [h2] at g2; injection g2 with g2; subst g2
  obtain rfl := one _ k k2 c (pnd a ha p (hp.ok p (List.mem_of_getElem? h1))) h3 g3
  rw [h4] at g4; injection g4 with g4; exact g4.symm
 have blt:∀ (q:Pc) (c:Nat),q ∈ qs → c ∈ q.order → c < b.n:=fun q c h1 h2 => by
  obtain ⟨r,hr,_,e,_⟩:=hq.ok q h1
  rw [e] at h2
  exact ((ord_ok hb hr).mem c h2).1
 have inj:∀ c c',c < a.n → c' < a.n → σ c = σ c' → c = c':=fun c c' hc hc' e => by
  obtain ⟨i,k,p,q,h1,h2,h3,h4⟩:=hσ c hc
  obtain ⟨i2,k2,p2,q2,g1,g2,g3,g4⟩:=hσ c' hc'
  rw [← e] at g4
  obtain rfl := hq.uniq h2 g2 (List.mem_of_getElem? h4) (List.mem_of_getElem? g4)
  rw [h1] at g1; injection g1 with g1; subst g1
  rw [h2] at g2; injection g2 with g2; subst g2
  obtain rfl := one _ k k2 _ (pnd b hb q (hq.ok q (List.mem_of_getElem? h2))) h4 g4
  rw [h3] at g3; injection g3
 have lt:∀ c,c < a.n → σ c < b.n:=fun c hc => by
  obtain ⟨i,k,p,q,h1,h2,h3,h4⟩:=hσ c hc
  exact blt q _ (List.mem_of_getElem? h2) (List.mem_of_getElem? h4)
 have hn:a.n = b.n:=by
  have l1:=pigeon a.n b.n σ lt inj
  have back:∀ c',∃ c,c' < b.n → c < a.n ∧ σ c = c':=fun c' => by
   by_cases hc':c' < b.n
   ·obtain ⟨i,q,hi,hm⟩:=hq.at_ hc'
    obtain ⟨k,hk,rfl⟩:=List.getElem_of_mem hm
    have hil:=(List.getElem?_eq_some_iff.1 hi).1
    have hp':ps[i]? = some (ps[i]'(by omega)):=List.getElem?_eq_getElem (by omega)
    have e:=hci i _ q hp' hi
    have l1:=(hp.ok _ (List.mem_of_getElem? hp')).len
    have l2:=(hq.ok q (List.mem_of_getElem? hi)).len
    rw [e] at l1
    have hk':k < (ps[i]'(by omega)).order.length:=by omega
    obtain ⟨r,hr,_,eo,_⟩:=hp.ok _ (List.mem_of_getElem? hp')
    have hlt:(ps[i]'(by omega)).order[k] < a.n:=by
     have:(ps[i]'(by omega)).order[k] ∈ ord a r:=by rw [← eo]; exact List.getElem_mem hk'
     exact ((ord_ok ha hr).mem _ this).1
    exact ⟨_,fun _ => ⟨hlt,fit _ i k _ q _ hlt hp' hi (List.getElem?_eq_getElem hk') (List.getElem?_eq_getElem hk)⟩⟩
   ·exact ⟨0,fun h => absurd h hc'⟩
  have l2:=pigeon b.n a.n (fun c' => Classical.choose (back c')) (fun c' hc' => (Classical.choose_spec (back c') hc').1) (fun x y hx hy e => by
   have e1:=(Classical.choose_spec (back x) hx).2
   have e2:=(Classical.choose_spec (back y) hy).2
   have e':Classical.choose (back x) = Classical.choose (back y):=e
   rw [← e1,← e2,e'])
  omega
 -- what is read at a crossing
 have rd:∀ c,c < a.n → ∃ (o o':List Nat),chk a o c = chk b o' (σ c) ∧ o.Nodup ∧ o'.Nodup ∧ (∀ t,t < 4 → nb a c t ∈ o ∧ nb b (σ c) t ∈ o') ∧ (∀ (j x x':Nat),o[j]? = some x → o'[j]? = some x' → σ x = x'):=fun c hc => by
  obtain ⟨i,k,p,q,h1,h2,h3,h4⟩:=hσ c hc
  obtain ⟨r,hr,c1,o1,_⟩:=hp.ok p (List.mem_of_getElem? h1)
  obtain ⟨r',hr',c2,o2,_⟩:=hq.ok q (List.mem_of_getElem? h2)
  have e:=hci i p q h1 h2
  rw [c1,c2] at e
  unfold code at e
  rw [o1] at h3
  rw [o2] at h4
  refine ⟨ord a r,ord b r',(flat5_eq e).2 k c _ h3 h4,(ord_ok ha hr).nd,(ord_ok hb hr').nd,fun t ht => ⟨?_,?_⟩,fun j x x' hx hx' => ?_⟩
  ·exact (ord_ok ha hr).done k c (List.getElem?_eq_some_iff.1 h3).1 h3 t ht
  ·exact (ord_ok hb hr').done k _ (List.getElem?_eq_some_iff.1 h4).1 h4 t ht
  ·exact fit x i j p q x' ((ord_ok ha hr).mem x (List.mem_of_getElem? hx)).1 h1 h2 (by rw [o1]; exact hx) (by rw [o2]; exact hx')
 refine ⟨σ,hn,by omega,fun c hc => by rw [hn]; exact lt c hc,inj,fun c hc => ?_,fun h hh => ?_⟩
 ·obtain ⟨o,o',e,_⟩:=rd c hc
  unfold chk at e
  injection e with e
  exact e.symm
 ·have hc:h / 4 < a.n:=by omega
  obtain ⟨o,o',e,nd,nd',mem,pl⟩:=rd (h / 4) hc
  have key:∀ t,t < 4 → 4 * o.idxOf (nb a (h / 4) t) + a.m (4 * (h / 4) + t) % 4 = 4 * o'.idxOf (nb b (σ (h / 4)) t) + b.m (4 * σ (h / 4) + t) % 4:=by
   unfold chk at e
   injection e with _ e
   injection e with e0 e
   injection e with e1 e
   injection e with e2 e
   injection e with e3 _
   intro t ht
   have:t = 0 ∨ t = 1 ∨ t = 2 ∨ t = 3:=by omega
   rcases this with rfl | rfl | rfl | rfl
   ·rw [Nat.add_zero,Nat.add_zero]; omega
   ·omega
   ·omega
   ·omega
  have k:=key (h % 4) (by omega)
  rw [show 4 * (h / 4) + h % 4 = h by omega] at k
  have hm:=mem (h % 4) (by omega)
  have hnb:nb a (h / 4) (h % 4) = a.m h / 4:=by unfold nb; rw [show 4 * (h / 4) + h % 4 = h by omega]
  have hnb':nb b (σ (h / 4)) (h % 4) = b.m (hf σ h) / 4:=rfl
  have k1:o.idxOf (nb a (h / 4) (h % 4)) = o'.idxOf (nb b (σ (h / 4)) (h % 4)):=by omega
  have k2:a.m h % 4 = b.m (hf σ h) % 4:=by show _ = b.m (4 * σ (h / 4) + h % 4) % 4; omega
  have g1:=List.idxOf_lt_length_of_mem hm.1
  have g2:=List.idxOf_lt_length_of_mem hm.2
  have k3:=pl (o.idxOf (nb a (h / 4) (h % 4))) _ _ (by rw [List.getElem?_eq_getElem g1,List.getElem_idxOf]) (by rw [k1,List.getElem?_eq_getElem g2,List.getElem_idxOf])
  rw [hnb,hnb'] at k3
  unfold hf at k2 k3 ⊢
  rw [k3]
  omega
end
end Go.Proofs.Ytghdiolnonejaaa.Pl
end
section
namespace Go.Proofs.Ytghdiolnonejaaa
open Go Go.RowKit
theorem drop_at {xs:List Int} {k:Nat} (h:k < xs.length):xs.drop k = xs.getD k 0 :: xs.drop (k + 1) := by
 rw [List.drop_eq_getElem_cons h,List.getD_eq_getElem?_getD,List.getElem?_eq_getElem h]; rfl
set_option maxRecDepth 100000 in
set_option maxHeartbeats 4000000 in
theorem compare_any (xs ys:List Int) (A B:Option Addr) (n m c c2:Nat) (w:World) (hA:IntsAt w A n xs) (hB:IntsAt w B m ys) (hn:n ≤ 1000000) (hm:m ≤ 1000000) :
 Calls Try.prog 141 #[.slice A n c,.slice B m c2] w fun e w' => e = .returned (.int .i64 (Pl.lx xs ys)) ∧ w' = w := by
 have HA:=hide hA
 have HB:=hide hB
 have LA:=hide hA.len
 have LB:=hide hB.len
 clear hA hB
 go_enter Try.func141,Try.ntmps141
 go_wp2
 go_loopg [5,6,7,8,11] n (fun g s5 s6 s7 s8 i wx => ∃ k:Nat,k + g = n ∧ i = .int .i64 k ∧ k ≤ m ∧ Pl.lx xs ys = Pl.lx (xs.drop k) (ys.drop k) ∧ wx = w)
 case atStart => exact ⟨0,by omega,rfl,by omega,rfl,rfl⟩
 case round =>
  obtain ⟨k,hkg,rfl,hkm,hlx,rfl⟩:=hrel
  have HKG:=hide hkg
  have HLX:=hide hlx
  clear hlx
  by_cases hk:k < n
  ·have hki:(k:Int) < (n:Int):=by omega
   have k0:(0:Int) ≤ (k:Int):=by omega
   obtain ⟨b,o,rfl,x1⟩:=HA.out.at_ hk
   have e1:=drop_at (xs := xs) (k := k) (by rw [LA.out]; exact hk)
   obtain ⟨u,hu⟩:∃ u,u = xs.getD k 0 := ⟨_,rfl⟩
   rw [← hu] at x1 e1
   have E1:=hide e1
   clear hu hkg e1
   by_cases hk2:k < m
   ·have hk2i:(k:Int) < (m:Int):=by omega
    have hk2j:¬ ((m:Int) ≤ (k:Int)):=by omega
    obtain ⟨b2,o2,rfl,y1⟩:=HB.out.at_ hk2
    have e2:=drop_at (xs := ys) (k := k) (by rw [LB.out]; exact hk2)
    obtain ⟨v,hv⟩:∃ v,v = ys.getD k 0 := ⟨_,rfl⟩
    rw [← hv] at y1 e2
    have E2:=hide e2
    clear hv e2
    go_wp2_with fail
    refine (Try.cmp_Compare_int u v _).mono ?_
    rintro e w1 ⟨rfl,rfl⟩
    unfold Lib.compareInt
    have HL:=hide HLX.out
    rcases Int.lt_trichotomy u v with h | h | h
    ·have hne:¬ v < u:=by omega
     have HR:=hide (show Pl.lx xs ys = -1 by rw [HLX.out,E1.out,E2.out,Pl.lx,if_pos h])
     rw [if_pos h]
     clear h hne
     go_wp2
     go_ret
     exact ⟨by rw [HR.out]; rfl,rfl⟩
    ·have HR:=hide (show Pl.lx xs ys = Pl.lx (xs.drop (k + 1)) (ys.drop (k + 1)) by rw [HLX.out,E1.out,E2.out,Pl.lx,if_neg (by omega),if_neg (by omega)])
     rw [if_neg (show ¬ u < v by omega),if_neg (show ¬ v < u by omega)]
     clear h
     go_wp2
     go_roundg (gk - 1)
     case measure => have := HKG.out; omega
     case rel => exact ⟨k + 1,by have := HKG.out; omega,by go_num,by omega,HR.out,rfl⟩
    ·have hne:¬ u < v:=by omega
     have HR:=hide (show Pl.lx xs ys = 1 by rw [HLX.out,E1.out,E2.out,Pl.lx,if_neg hne,if_pos h])
     rw [if_neg hne,if_pos h]
     clear h hne
     go_wp2
     go_ret
     exact ⟨by rw [HR.out]; rfl,rfl⟩
   ·have hk2i:(m:Int) ≤ (k:Int):=by omega
    have HR:=hide (show Pl.lx xs ys = 1 by rw [HLX.out,E1.out,List.drop_eq_nil_of_le (show ys.length ≤ k by rw [LB.out]; omega)]; rfl)
    go_wp2
    go_ret
    exact ⟨by rw [HR.out]; rfl,rfl⟩
  ·have hki:¬ ((k:Int) < (n:Int)):=by omega
   have hkn:k = n:=by omega
   subst hkn
   clear hkg
   by_cases hnm:(k:Int) < (m:Int)
   ·have HR := hide (show Pl.lx xs ys = -1 by
     rw [HLX.out,List.drop_eq_nil_of_le (show xs.length ≤ k by rw [LA.out]; exact Nat.le_refl _),drop_at (xs := ys) (k := k) (by rw [LB.out]; omega)]; rfl)
    go_wp2
    go_ret
    exact ⟨by rw [HR.out]; rfl,rfl⟩
   ·have HR := hide (show Pl.lx xs ys = 0 by
     rw [HLX.out,List.drop_eq_nil_of_le (show xs.length ≤ k by rw [LA.out]; exact Nat.le_refl _),List.drop_eq_nil_of_le (show ys.length ≤ k by rw [LB.out]; omega)]; rfl)
    go_wp2
    go_ret
    exact ⟨by rw [HR.out]; rfl,rfl⟩
end Go.Proofs.Ytghdiolnonejaaa
end
section
namespace Go.Proofs.Ytghdiolnonejaaa.Pl
variable {d:Dg}
def nums (n:Nat) (o:List Nat):List Int := (List.range n).map (fun c => if c ∈ o then ((o.idxOf c:Nat):Int) else -1)
theorem nums_len (n:Nat) (o:List Nat):(nums n o).length = n := by unfold nums; simp
theorem nums_get {n c:Nat} (o:List Nat) (hc:c < n):(nums n o)[c]? = some (if c ∈ o then ((o.idxOf c:Nat):Int) else -1) := by
 unfold nums
 rw [List.getElem?_map,List.getElem?_range hc]
 rfl
theorem nums_nil (n:Nat):nums n [] = List.replicate n (-1) := by
 unfold nums
 refine List.ext_getElem? fun i => ?_
 rw [List.getElem?_map,List.getElem?_replicate]
 by_cases h:i < n
 ·rw [List.getElem?_range h,if_pos h]; simp
 ·rw [List.getElem?_eq_none (by simp; omega),if_neg h]; rfl
theorem nums_add {n b:Nat} {o:List Nat} (hb:b < n) (hn:b ∉ o):nums n (o ++ [b]) = (nums n o).set b (o.length:Int) := by
 refine List.ext_getElem? fun i => ?_
 rw [List.getElem?_set]
 by_cases hi:i < n
 ·rw [nums_get _ hi]
  by_cases e:b = i
  ·subst e
   have h1:b ∈ o ++ [b]:=by simp
   have h2:b < (nums n o).length:=by rw [nums_len]; exact hi
   rw [if_pos h1,if_pos rfl,if_pos h2,List.idxOf_append,if_neg hn]
   simp
  ·rw [if_neg e,nums_get _ hi]
   by_cases hm:i ∈ o
   ·rw [if_pos (by simp [hm]),if_pos hm,List.idxOf_append,if_pos hm]
   ·rw [if_neg (by simp [hm]; exact fun h => e h.symm),if_neg hm]
 ·have h1:(nums n (o ++ [b])).length ≤ i:=by rw [nums_len]; omega
  rw [List.getElem?_eq_none h1,if_neg (by omega),List.getElem?_eq_none (by rw [nums_len]; omega)]
theorem nums_one {n r:Nat} (hr:r < n):nums n [r] = (List.replicate n (-1)).set r 0 := by
 have:=nums_add (o := []) hr (by simp)
 rw [nums_nil] at this
 exact this
theorem flat5_at {o:List Nat}:∀ {l:List Nat} {i c:Nat},l[i]? = some c → ∀ j,j < 5 → (l.flatMap (chk d o))[5 * i + j]? = (chk d o c)[j]?
 | [],i,c,h,_,_ => by simp at h
 | x :: l, 0, c, h, j, hj => by
   obtain rfl:x = c := by simpa using h
   rw [List.flatMap_cons,Nat.mul_zero,Nat.zero_add,List.getElem?_append_left (by rw [chk_len]; exact hj)]
 | x :: l, i + 1, c, h, j, hj => by
   have ih:=flat5_at (o := o) (l := l) (i := i) (c := c) (by simpa using h) j hj
   rw [List.flatMap_cons,List.getElem?_append_right (by rw [chk_len]; omega),chk_len,← ih]
   congr 1
   omega
theorem code_sgn {r i c:Nat} (h:(ord d r)[i]? = some c):(code d r)[5 * i]? = some (d.s c) := by
 have:=flat5_at (d := d) (o := ord d r) h 0 (by omega)
 exact this
theorem code_nb {r i c s:Nat} (h:(ord d r)[i]? = some c) (hs:s < 4):(code d r)[5 * i + 1 + s]? = some (((4 * (ord d r).idxOf (nb d c s) + d.m (4 * c + s) % 4:Nat)):Int) := by
 have:=flat5_at (d := d) (o := ord d r) h (1 + s) (by omega)
 rw [Nat.add_assoc]
 refine this.trans ?_
 have h4:s = 0 ∨ s = 1 ∨ s = 2 ∨ s = 3:=by omega
 rcases h4 with rfl | rfl | rfl | rfl <;> rfl
theorem take_one {α:Type} {l:List α} {k:Nat} {x:α} (h:l[k]? = some x):l.take (k + 1) = l.take k ++ [x] := by
 rw [List.take_add_one,h]; rfl
def vdt (best:Option (List Int)) (c:List Int) (k:Nat):Int := match best with
 | none => -1
 | some b => lx (c.take k) (b.take k)
theorem vdt_step {b c:List Int} {k:Nat} (hc:k + 5 ≤ c.length) (hb:k + 5 ≤ b.length):vdt (some b) c (k + 5) = if vdt (some b) c k = 0 then lx ((c.drop k).take 5) ((b.drop k).take 5) else vdt (some b) c k := by
 unfold vdt
 simp only
 rw [List.take_add,List.take_add]
 exact lx_app (by rw [List.length_take,List.length_take]; omega) _ _
theorem vdt_keep {b c:List Int} {k:Nat} (hl:c.length = b.length) (h:vdt (some b) c k ≠ 0):lx c b = vdt (some b) c k := by
 unfold vdt at h ⊢
 simp only at h ⊢
 have:=lx_app (l := c.take k) (m := b.take k) (by rw [List.length_take,List.length_take,hl]) (c.drop k) (b.drop k)
 rw [List.take_append_drop,List.take_append_drop,if_neg h] at this
 exact this
def vall (best:Option (List Int)) (c:List Int):Int := match best with | none => -1 | some b => lx c b
theorem vall_some (b c:List Int):vall (some b) c = lx c b := rfl
theorem vall_none (c:List Int):vall none c = -1 := rfl
theorem vdt_all {best:Option (List Int)} {c:List Int} {k:Nat} (hk:c.length ≤ k) (hb:∀ b,best = some b → b.length ≤ k):vdt best c k = vall best c := by
 unfold vdt vall
 cases best with
 | none => rfl
 | some b => simp only; rw [List.take_of_length_le hk,List.take_of_length_le (hb b rfl)]
theorem pre_get {o o':List Nat} (h:o <+: o') {i c:Nat} (hc:o[i]? = some c):o'[i]? = some c := by
 obtain ⟨l,rfl⟩:=h
 rw [List.getElem?_append_left (List.getElem?_eq_some_iff.1 hc).1,hc]
theorem add_ord {r i c s:Nat} (hi:i + 1 ≤ d.n) (hc:(ordK d r i)[i]? = some c) (hs:s ≤ 4):addS d (ordK d r i) c s <+: ord d r := by
 have h1:=addS_mono (d := d) (ordK d r i) c s (4 - s)
 rw [show s + (4 - s) = 4 by omega,← ordK_some hc] at h1
 exact h1.trans (ordK_ord r hi)
theorem code_step {r i c s:Nat} (hi:i + 1 ≤ d.n) (hc:(ordK d r i)[i]? = some c) (hs:s < 4):(code d r)[5 * i + 1 + s]? = some (((4 * (addS d (ordK d r i) c (s + 1)).idxOf (nb d c s) + d.m (4 * c + s) % 4:Nat)):Int) := by
 rw [code_nb (pre_get (ordK_ord r (by omega)) hc) hs,idx_pre (add_ord (s := s + 1) hi hc (by omega)) (addN_mem (addS d (ordK d r i) c s) (nb d c s))]
theorem order_lt {r i:Nat} (hi:i ≤ d.n) (h:i < (ord d r).length):i < (ordK d r i).length := by
 rcases Nat.lt_or_ge i (ordK d r i).length with h1 | h1
 ·exact h1
 ·rw [ord_eq hi h1] at h1; omega
end Go.Proofs.Ytghdiolnonejaaa.Pl
end
section
namespace Go.Proofs.Ytghdiolnonejaaa.Pl
variable {d:Dg}
theorem ord_len_eq (hd:Wf d) {r q:Nat} (hr:r < d.n) (hq:q < d.n) (h:Comp d r q):(ord d r).length = (ord d q).length := by
 refine List.Perm.length_eq ((List.perm_ext_iff_of_nodup (ord_ok hd hr).nd (ord_ok hd hq).nd).2 fun x => ?_)
 rw [ord_mem hd hr,ord_mem hd hq]
 exact ⟨fun e => (comp_symm hd hr h).trans e,fun e => h.trans e⟩
theorem code_len_eq (hd:Wf d) {r q:Nat} (hr:r < d.n) (hq:q < d.n) (h:Comp d r q):(code d r).length = (code d q).length := by
 rw [code_len,code_len,ord_len_eq hd hr hq h]
structure Lst5 (d:Dg) (l:List Nat) (p:Pc):Prop where
 is:∃ r,r ∈ l ∧ p.code = code d r ∧ p.order = ord d r
 min:∀ q,q ∈ l → lx p.code (code d q) ≤ 0
theorem Lst5.one (r:Nat) (x:Int):Lst5 d [r] ⟨code d r,ord d r,x⟩:=by
 refine ⟨⟨r,by simp,rfl,rfl⟩,fun q hq => ?_⟩
 obtain rfl:q = r := by simpa using hq
 have:=lx_self (code d q)
 show lx (code d q) (code d q) ≤ 0
 omega
theorem Lst5.less {l:List Nat} {p:Pc} (h:Lst5 d l p) {q:Nat} (hq:lx (code d q) p.code < 0) (x:Int):Lst5 d (l ++ [q]) ⟨code d q,ord d q,x⟩:=by
 refine ⟨⟨q,by simp,rfl,rfl⟩,fun y hy => ?_⟩
 rcases List.mem_append.1 hy with hy | hy
 ·exact lx_trans (l := code d q) (m := p.code) (by omega) (h.min y hy)
 ·obtain rfl:y = q := by simpa using hy
  have:=lx_self (code d y)
  show lx (code d y) (code d y) ≤ 0
  omega
theorem Lst5.more {l:List Nat} {p:Pc} (h:Lst5 d l p) {q:Nat} (hq:¬ lx (code d q) p.code < 0) (x:Int):Lst5 d (l ++ [q]) ⟨p.code,p.order,x⟩:=by
 obtain ⟨r,h1,h2,h3⟩:=h.is
 refine ⟨⟨r,by simp [h1],h2,h3⟩,fun y hy => ?_⟩
 rcases List.mem_append.1 hy with hy | hy
 ·exact h.min y hy
 ·obtain rfl:y = q := by simpa using hy
  show lx p.code (code d y) ≤ 0
  rw [lx_neg]
  omega
theorem Lst5.ok (hd:Wf d) {l:List Nat} {p:Pc} {r:Nat} (h:Lst5 d l p) (hr:r < d.n) (hl:∀ c,c ∈ l ↔ c < d.n ∧ Comp d r c):PcOk d p := by
 obtain ⟨q,h1,h2,h3⟩:=h.is
 obtain ⟨hq,hc⟩:=(hl q).1 h1
 refine ⟨q,hq,h2,h3,fun y hy => ?_⟩
 rw [← h2]
 have hyn:y < d.n:=((ord_ok hd hq).mem y ((ord_mem hd hq y).2 hy)).1
 exact h.min y ((hl y).2 ⟨hyn,hc.trans hy⟩)
end Go.Proofs.Ytghdiolnonejaaa.Pl
end
section
namespace Go.Proofs.Ytghdiolnonejaaa.Pl
def leP (p q:Pc):Prop := kle p.code q.code
theorem leP_trans {p q r:Pc} (h:leP p q) (h':leP q r):leP p r := kle_trans h h'
theorem leP_total (p q:Pc):leP p q ∨ leP q p := kle_total _ _
structure Ins (qs ps:List Pc) (i j:Nat):Prop where
 ex:∃ (pre:List Pc) (x:Pc) (mid suf:List Pc),ps = pre ++ x :: (mid ++ suf) ∧ pre.length = j ∧ pre.length + mid.length = i ∧ (pre ++ mid).Pairwise leP ∧ ∀ m,m ∈ mid → leP x m
 perm:ps.Perm qs
theorem Ins.start {qs ps:List Pc} {i:Nat} (hp:ps.Perm qs) (hs:(ps.take i).Pairwise leP) (hi:i < ps.length):Ins qs ps i i := by
 refine ⟨⟨ps.take i,ps[i],[],ps.drop (i + 1),?_,by rw [List.length_take]; omega,by rw [List.length_take]; simp; omega,by simpa using hs,fun m h => by simp at h⟩,hp⟩
 rw [List.nil_append,← List.drop_eq_getElem_cons hi,List.take_append_drop]
theorem snoc_of {l:List Pc} {j:Nat} (h:l.length = j + 1):∃ (l':List Pc) (y:Pc),l = l' ++ [y] ∧ l'.length = j := by
 have hne:l ≠ []:=by intro e; rw [e] at h; simp at h
 refine ⟨l.dropLast,l.getLast hne,(List.dropLast_concat_getLast hne).symm,by rw [List.length_dropLast]; omega⟩
theorem get_mid {a:List Pc} {x:Pc} {b:List Pc} {j:Nat} (h:a.length = j):(a ++ x :: b)[j]? = some x := by
 subst h
 rw [List.getElem?_append_right (Nat.le_refl _),Nat.sub_self]; rfl
theorem Ins.step {qs ps:List Pc} {i j:Nat} (h:Ins qs ps i (j + 1)) {x y:Pc} (hx:ps[j + 1]? = some x) (hy:ps[j]? = some y) (hn:¬ leP y x):Ins qs ((ps.set (j + 1) y).set j x) i j := by
 obtain ⟨pre,x',mid,suf,e,h1,h2,h3,h4⟩:=h.ex
 obtain ⟨l,y',rfl,hl⟩:=snoc_of h1
 rw [e,get_mid h1] at hx
 injection hx with hx
 subst hx
 have e2:l ++ [y'] ++ x' :: (mid ++ suf) = l ++ y' :: x' :: (mid ++ suf):=by simp
 rw [e,e2,get_mid hl] at hy
 injection hy with hy
 subst hy
 have e3:(ps.set (j + 1) y').set j x' = l ++ x' :: (y' :: mid ++ suf):=by
  rw [e,e2,List.set_append_right _ _ (by omega),List.set_append_right _ _ (by omega),hl,show j + 1 - j = 1 by omega,Nat.sub_self]
  rfl
 have hle:leP x' y':=(leP_total x' y').resolve_right hn
 refine ⟨⟨l,x',y' :: mid,suf,e3,hl,by simp at h2 ⊢; omega,by simpa using h3,fun m hm => ?_⟩,?_⟩
 ·rcases List.mem_cons.1 hm with rfl | hm
  ·exact hle
  ·exact h4 m hm
 ·rw [e3]
  refine List.Perm.trans ?_ h.perm
  rw [e,e2]
  exact List.Perm.append_left _ (List.Perm.swap _ _ _)
theorem Ins.stop {qs ps:List Pc} {i j:Nat} (h:Ins qs ps i j) (hs:j = 0 ∨ ∃ x y,ps[j]? = some x ∧ ps[j - 1]? = some y ∧ leP y x):(ps.take (i + 1)).Pairwise leP := by
 obtain ⟨pre,x,mid,suf,e,h1,h2,h3,h4⟩:=h.ex
 have ht:ps.take (i + 1) = pre ++ x :: mid:=by
  have e2:pre ++ x :: (mid ++ suf) = (pre ++ x :: mid) ++ suf:=by simp
  rw [e,e2,List.take_append_of_le_length (by simp; omega),List.take_of_length_le (by simp; omega)]
 have hpre:∀ a,a ∈ pre → leP a x:=by
  intro a ha
  rcases hs with h0 | ⟨x',y,hx,hy,hle⟩
  ·rw [h0] at h1
   rw [List.eq_nil_of_length_eq_zero h1] at ha
   simp at ha
  ·rw [e,get_mid h1] at hx
   injection hx with hx
   subst hx
   cases j with
   | zero => rw [List.eq_nil_of_length_eq_zero h1] at ha; simp at ha
   | succ j =>
     obtain ⟨l,y',rfl,hl⟩:=snoc_of h1
     have e2:l ++ [y'] ++ x :: (mid ++ suf) = l ++ y' :: x :: (mid ++ suf):=by simp
     rw [e,e2,show j + 1 - 1 = j by omega,get_mid hl] at hy
     injection hy with hy
     subst hy
     rcases List.mem_append.1 ha with ha | ha
     ·have h5:(l ++ y' :: mid).Pairwise leP:=by simpa using h3
      exact leP_trans ((List.pairwise_append.1 h5).2.2 a ha y' (by simp)) hle
     ·obtain rfl:a = y' := by simpa using ha
      exact hle
 rw [ht]
 have h6:=List.pairwise_append.1 h3
 refine List.pairwise_append.2 ⟨h6.1,List.pairwise_cons.2 ⟨h4,h6.2.1⟩,fun a ha b hb => ?_⟩
 rcases List.mem_cons.1 hb with rfl | hb
 ·exact hpre a ha
 ·exact h6.2.2 a ha b hb
end Go.Proofs.Ytghdiolnonejaaa.Pl
end
