/-
 The texts Xr, Xt, Xk, Xl, Xu, Xv, Xx, Xw, Xy, Za, Zb, Dn, Ya, Tb, Ua, Vb, Vc, Vd, Ve, Vg, Xq, Ld.
-/
import Derived.Test.YtghdiolnonejaaaGreatDoorA08
import Derived.Test.YtghdiolnonejaaaGreatDoorA09
import Derived.Test.YtghdiolnonejaaaGreatDoorA10
import Derived.Deep.CutRange
import Derived.Laws.Slices
set_option linter.unusedVariables false
set_option linter.unusedSimpArgs false
section
namespace Go.Proofs.YtghdiolnonejaaaGreatDoor
open Go Go.RowKit
attribute [local go_sem ↓] Go.wp_at_zero Go.wp_at_succ
structure MG (w:World) (T:TypeId) (gd gl:Nat) (dv:List Value) (v:Value) (ms:List Mv) (W:World):Prop where
 d:Row W gd T dv
 l:Row W gl 27 [v]
 o:W.ownsRow (gl + 1) 43 5 v ms.length (mvs ms)
 bel:Below w.heap.size w W
 lo:w.heap.size ≤ gd
 lt:gd < gl
section
variable {w W W' W2:World} {T:TypeId} {gd gl:Nat} {dv:List Value} {v v':Value} {ms:List Mv} {m:Mv}
theorem MG.below (h:MG w T gd gl dv v ms W) (hb:Below W.heap.size W W'):MG w T gd gl dv v ms W' :=
 ⟨h.d.below hb,h.l.below hb,own_below h.o hb,h.bel.trans (hb.mono h.bel.size),h.lo,h.lt⟩
theorem MG.alloc (h:MG w T gd gl dv v ms W) (o:Obj):MG w T gd gl dv v ms (W.alloc o) := h.below ((Below.refl _ _).alloc (Nat.le_refl _) o)
theorem MG.big (h:MG w T gd gl dv v ms W):gl < W.heap.size := h.l.lt
theorem MG.far (h:MG w T gd gl dv v ms W) {g:Nat} (hg:g ≤ gl):some g ≠ v.ownBlock := fun e => by have := (h.o.lt g e.symm).1; omega
theorem MG.push (h:MG w T gd gl dv v ms W) (own:W2.ownsRow (gl + 1) 43 5 v' (ms.length + 1) (mvs ms ++ m.cells)) (gr:W.grownBy W2 v.ownBlock):MG w T gd gl dv v' (ms ++ [m]) (W2.setCell ⟨gl,0,none⟩ v') := by
 have a:=h.lo
 have b:=h.lt
 refine ⟨(h.d.grown gr (h.far (by omega))).other (by show gd ≠ gl; omega) _,(h.l.grown gr (h.far (Nat.le_refl _))).set 0 v',?_,?_,h.lo,h.lt⟩
 ·rw [mvs_app,List.length_append]
  exact ownsRow_setCell_below own (by show gl < gl + 1; omega) _
 ·exact (h.bel.grown gr h.bel.size (fun k hk => by have := (h.o.lt k hk).1; omega)).setCell (by show _ ≤ gl; omega) _
end
def one (c:Int) (m:Mv):List Mv := if c = 0 then [m] else []
theorem one_yes {c:Int} {m:Mv} (h:c = 0):one c m = [m] := by unfold one; rw [if_pos h]
theorem one_no {c:Int} {m:Mv} (h:¬ c = 0):one c m = [] := by unfold one; rw [if_neg h]
theorem one_len (c:Int) (m:Mv):(one c m).length ≤ 1 := by unfold one; split <;> simp
def MovesIn (b:Nat) (w:World) (v:Value) (ms:List Mv):Prop := ∃ base,b ≤ base ∧ base ≤ w.heap.size ∧ w.ownsRow base 43 5 v ms.length (mvs ms)
theorem MovesIn.at {b:Nat} {w:World} {v:Value} {ms:List Mv} (h:MovesIn b w v ms):MovesAt w v ms := let ⟨base,_,_,h⟩:=h; ⟨base,h⟩
def unL (d:Pl.Dg):Nat → List Mv
 | 0 => []
 | k + 1 => unL d k ++ one (uncC d k) ⟨2,k,0,0,false⟩
theorem unL_len (d:Pl.Dg):∀ k,(unL d k).length ≤ k
 | 0 => Nat.le_refl _
 | k + 1 => by
   have a:=unL_len d k
   have b:=one_len (uncC d k) ⟨2,k,0,0,false⟩
   show (unL d k ++ one (uncC d k) ⟨2,k,0,0,false⟩).length ≤ _
   rw [List.length_append]
   omega
set_option maxRecDepth 100000 in
set_option maxHeartbeats 4000000 in
theorem unTry_any (d:Pl.Dg) (hd:Pl.Wf d) (A B:Option Addr) (cp cq m gd gl c:Nat) (v:Value) (ms:List Mv) (w0 w:World) (hm:m = 4 * d.n) (hg:DgAt w A B d) (hc:c < d.n) (hms:ms.length ≤ 1000000)
 (hp:MG w0 24 gd gl [.slice A d.n cp,.slice B m cq,.int .i64 (d.lp:Int)] v ms w) :
 Calls Tryz.prog 93 #[.agg #[.int .i64 2,.int .i64 (c:Int),.int .i64 0,.int .i64 0,.bool false],.pointer (some ⟨gd,0,none⟩),.pointer (some ⟨gl,0,none⟩)] w fun e w' => e = .returned (.tuple #[]) ∧ ∃ v',MG w0 24 gd gl [.slice A d.n cp,.slice B m cq,.int .i64 (d.lp:Int)] v' (ms ++ one (uncC d c) ⟨2,c,0,0,false⟩) w' := by
 have HM:=hide hm
 have HG:=hide hg
 have hn:=hd.few
 obtain ⟨cc,hcc⟩:∃ c',c' = uncC d c := ⟨_,rfl⟩
 have HC:=hide hcc
 have hb0:Below w.heap.size w (w.alloc (.cells #[.int .i64 2,.int .i64 (c:Int),.int .i64 0,.int .i64 0,.bool false] 43)):=(Below.refl _ _).alloc (Nat.le_refl _) _
 have HB0:=hide hb0
 have P1:=hide (hp.below hb0)
 have M1:=hide (row_at (W := w) (g := w.heap.size) (t := 43) (vs := [.int .i64 2,.int .i64 (c:Int),.int .i64 0,.int .i64 0,.bool false]) rfl)
 have hgl:gl < w.heap.size:=hp.big
 have hgd:gd < gl:=hp.lt
 clear hp hb0 hg hm hcc
 obtain ⟨d0,d1,d2,d3⟩:=box3 P1.out.d
 obtain ⟨e0,e1,e2,e3,e4,e5⟩:=box5 M1.out
 go_enter Tryz.func93,Tryz.ntmps93
 go_wp2_with fail
 refine (kink_any d hd A B cp cq m c _ HM.out (HG.out.keep HB0.out) hc).mono ?_
 rintro e w1 ⟨he,hb1⟩
 have P2:=hide (P1.out.below hb1)
 have M2:=hide (M1.out.below hb1)
 have HB1:=hide (HB0.out.trans (hb1.mono HB0.out.size))
 have hs2:w.heap.size < w1.heap.size:=M2.out.lt
 have hs3:gl < w1.heap.size:=by omega
 have HE:=hide he
 clear hb1 d0 d1 d2 d3 e0 e1 e2 e3 e4 e5 HB0 P1 M1 he
 obtain ⟨d0,d1,d2,d3⟩:=box3 P2.out.d
 obtain ⟨e0,e1,e2,e3,e4,e5⟩:=box5 M2.out
 by_cases hI:isK d c
 ·have HE2:=HE.out
  rw [Pl.vb_true hI] at HE2
  unfold kinkE at HE2
  obtain ⟨z1,hz1⟩:∃ z:Nat,z = Pl.tn (kk d c) 2 := ⟨_,rfl⟩
  obtain ⟨z2,hz2⟩:∃ z:Nat,z = Pl.tn (d.m (kk d c)) 2 := ⟨_,rfl⟩
  rw [← hz1,← hz2] at HE2
  simp only [if_true] at HE2
  subst HE2
  clear HE hI hz1 hz2
  go_wp2_with fail
  refine (uncurl_m d hd A B cp cq m c 2 0 0 false _ HM.out (HG.out.keep HB1.out) hc).mono ?_
  rintro e w3 ⟨r1,r2,hb3⟩
  have P3:=hide (P2.out.below hb3)
  have M3:=hide (M2.out.below hb3)
  have hs4:w.heap.size < w3.heap.size:=M3.out.lt
  have hs5:gl < w3.heap.size:=by omega
  rw [← HC.out] at r1 r2
  have R1:=hide r1
  have R2:=hide r2
  clear r1 r2 hb3 d0 d1 d2 d3 e0 e1 e2 e3 e4 e5 HB1 P2 M2
  obtain ⟨e0,e1,e2,e3,e4,e5⟩:=box5 M3.out
  have hs6:gl < w3.heap.size + 1:=by omega
  have hs7:gl < w3.heap.size + 1 + 1:=by omega
  have hs8:w.heap.size < w3.heap.size + 1:=by omega
  have hs9:w.heap.size < w3.heap.size + 1 + 1:=by omega
  by_cases h0:cc = 0
  ·obtain ⟨A9,B9,c8,c9,k9,x9,y9,s9,o9,hmv,rfl,hT⟩:=ResOk.split (R2.out h0)
   have E:=hide (show one cc ⟨2,c,0,0,false⟩ = [⟨2,c,0,0,false⟩] from one_yes h0)
   clear h0 R1 R2 hmv hT
   obtain ⟨N9,hN9⟩:∃ n,n = (unD d c).n := ⟨_,rfl⟩
   obtain ⟨N4,hN4⟩:∃ n,n = 4 * (unD d c).n := ⟨_,rfl⟩
   obtain ⟨L9,hL9⟩:∃ n,n = (unD d c).lp := ⟨_,rfl⟩
   rw [← hN4,← hN9,← hL9]
   clear hN9 hN4 hL9
   obtain ⟨q0,q1⟩:=box1 P3.out.l
   obtain ⟨n0,hn0,hz0,hz1,hz2⟩:=info_parts moveInfo
   have PA:=hide ((P3.out.alloc (.cells #[.slice A9 N9 c8,.slice B9 N4 c9,.int .i64 (L9:Int)] 24)).alloc (.cells #[.int .i64 k9,.int .i64 x9,.int .i64 y9,.int .i64 s9,.bool o9] 43))
   have A0:=hide (PA.out.alloc (.cells (Mv.cells ⟨2,c,0,0,false⟩).toArray 43)).o
   have A1:∀ u ∈ Mv.cells ⟨2,c,0,0,false⟩,u.oneCell' = true:=by simp [Mv.cells,Value.oneCell']
   have A2:ms.length + 1 ≤ maxLen:=by unfold maxLen; omega
   have A3:(ms.length + 1) * 40 ≤ 140737488355328:=by omega
   have A6:=hide (five_news ((w3.alloc (.cells #[.slice A9 N9 c8,.slice B9 N4 c9,.int .i64 (L9:Int)] 24)).alloc (.cells #[.int .i64 k9,.int .i64 x9,.int .i64 y9,.int .i64 s9,.bool o9] 43)) (w3.heap.size + 1 + 1) (by simp) ⟨2,c,0,0,false⟩)
   go_wp2_with (at_builtin; refine wpList_append_lies _ (by rfl) _ _ 27 (by rfl) (gl + 1) 43 n0 (.agg #[.int .i64 0,.int .i64 0,.int .i64 0,.int .i64 0,.bool false]) 5 40 Tryz.underlying27 hn0 hz0 hz1 hz2 rfl (by omega) v ms.length (mvs ms) (by rfl) A0.out ⟨w3.heap.size + 1 + 1,0,none⟩ 1 1 (Mv.cells ⟨2,c,0,0,false⟩) (by rfl) (by rfl) A6.out A1 (by omega) A2 A3 (by simp; omega) (w3.heap.size + 1 + 1 + 1) (by simp) ?_; intro g2 c2 w2 own2 grow2 at2 lt2; obtain ⟨q2,q3⟩:=box1 ((PA.out.alloc (.cells (Mv.cells ⟨2,c,0,0,false⟩).toArray 43)).l.grown grow2 ((PA.out.alloc (.cells (Mv.cells ⟨2,c,0,0,false⟩).toArray 43)).far (Nat.le_refl _))); have OWN2 := hide own2; have GR2 := hide grow2; clear own2 grow2 at2)
   refine bodyPost_end (results_none rfl _ _ _) rfl ⟨rfl,.slice (some ⟨g2,0,none⟩) (ms.length + 1) c2,?_⟩
   rw [← HC.out,E.out]
   exact (PA.out.alloc _).push OWN2.out GR2.out
  ·have E:=hide (show one cc ⟨2,c,0,0,false⟩ = [] from one_no h0)
   have hE:=ResErr.split (R1.out h0)
   subst hE
   have t1:(cc == 0) = false:=by rw [beq_eq_false_iff_ne]; exact h0
   clear h0 R1 R2
   go_wp2
   refine bodyPost_end (results_none rfl _ _ _) rfl ⟨rfl,v,?_⟩
   rw [← HC.out,E.out,List.append_nil]
   exact (P3.out.alloc _).alloc _
 ·have HE2:=HE.out
  rw [Pl.vb_false hI] at HE2
  have E:=hide (show one cc ⟨2,c,0,0,false⟩ = [] from one_no (by
   rw [HC.out]
   unfold uncC
   rw [if_neg (show ¬ d.m (kk d c) / 4 = c from hI)]
   decide))
  unfold kinkE at HE2
  simp only [Bool.false_eq_true,if_false] at HE2
  subst HE2
  clear HE hI
  go_wp2
  refine bodyPost_ret (results_none rfl _ _ _) rfl ⟨rfl,v,?_⟩
  rw [← HC.out,E.out,List.append_nil]
  exact P2.out
set_option maxRecDepth 100000 in
set_option maxHeartbeats 4000000 in
theorem uncurls_any (d:Pl.Dg) (hd:Pl.Wf d) (A B:Option Addr) (cp cq m:Nat) (w:World) (hm:m = 4 * d.n) (hg:DgAt w A B d) :
 Calls Tryz.prog 55 #[.agg #[.slice A d.n cp,.slice B m cq,.int .i64 d.lp]] w fun e w' => ∃ v,e = .returned v ∧ MovesIn w.heap.size w' v (unL d d.n) ∧ Below w.heap.size w w' := by
 have HM:=hide hm
 have HG:=hide hg
 have hn:=hd.few
 have P0:=hide (show MG w 24 w.heap.size (w.heap.size + 1) [.slice A d.n cp,.slice B m cq,.int .i64 (d.lp:Int)] (.slice none 0 0) [] ((w.alloc (.cells #[.slice A d.n cp,.slice B m cq,.int .i64 (d.lp:Int)] 24)).alloc (.cells #[.slice none 0 0] 27)) from
  ⟨(row_at (vs := [_,_,_]) rfl).alloc _,row_at (vs := [_]) (by simp),⟨rfl,.inl ⟨rfl,rfl⟩⟩,((Below.refl _ _).alloc (Nat.le_refl _) _).alloc (by simp) _,Nat.le_refl _,by omega⟩)
 clear hg hm
 go_enter Tryz.func55,Tryz.ntmps55
 go_wp2
 go_loopg [5,10] d.n (fun g s5 s10 wx => ∃ (k:Nat) (v:Value),k + g = d.n ∧ s10 = .int .i64 (k:Int) ∧ MG w 24 w.heap.size (w.heap.size + 1) [.slice A d.n cp,.slice B m cq,.int .i64 (d.lp:Int)] v (unL d k) wx)
 case atStart => exact ⟨0,_,by omega,rfl,P0.out⟩
 case round =>
  clear P0
  obtain ⟨k,v,hkg,rfl,hp⟩:=hrel
  have HKG:=hide hkg
  have PK:=hide hp
  have hlen:=unL_len d k
  clear hp
  by_cases hk:k < d.n
  ·have hki:(k:Int) < (d.n:Int):=by omega
   clear hkg
   go_wp2_with fail
   refine (unTry_any d hd A B cp cq m w.heap.size (w.heap.size + 1) k v (unL d k) w wr HM.out (HG.out.keep PK.out.bel) hk (by omega) PK.out).mono ?_
   rintro e w1 ⟨rfl,v',hp1⟩
   have P1:=hide hp1
   clear hp1
   go_wp2
   go_roundg (gk - 1)
   case measure => have := HKG.out; omega
   case rel => exact ⟨k + 1,v',by have := HKG.out; omega,by go_num,P1.out⟩
  ·have hki:¬ ((k:Int) < (d.n:Int)):=by omega
   have e:k = d.n:=by omega
   have EL:=hide (show unL d k = unL d d.n by rw [e])
   obtain ⟨q0,q1⟩:=box1 PK.out.l
   clear hkg e
   go_wp2
   go_ret
   exact ⟨v,rfl,⟨w.heap.size + 1 + 1,by omega,PK.out.big,by rw [← EL.out]; exact PK.out.o⟩,PK.out.bel⟩
end Go.Proofs.YtghdiolnonejaaaGreatDoor
end
section
namespace Go.Proofs.YtghdiolnonejaaaGreatDoor
open Go Go.RowKit
attribute [local go_sem ↓] Go.wp_at_zero Go.wp_at_succ
def upY (d:Pl.Dg) (x:Nat):Nat → List Mv
 | 0 => []
 | k + 1 => upY d x k ++ (if x < k then one (unpC d x k) ⟨4,x,k,0,false⟩ else [])
def upX (d:Pl.Dg):Nat → List Mv
 | 0 => []
 | k + 1 => upX d k ++ upY d k d.n
theorem upY_none (d:Pl.Dg) (x:Nat):∀ k,k ≤ x + 1 → upY d x k = []
 | 0,_ => rfl
 | k + 1, h => by
   show upY d x k ++ (if x < k then one (unpC d x k) ⟨4,x,k,0,false⟩ else []) = []
   rw [upY_none d x k (by omega),if_neg (by omega)]
   rfl
theorem upY_len (d:Pl.Dg) (x:Nat):∀ k,(upY d x k).length ≤ k
 | 0 => Nat.le_refl _
 | k + 1 => by
   have a:=upY_len d x k
   have b:=one_len (unpC d x k) ⟨4,x,k,0,false⟩
   show (upY d x k ++ (if x < k then one (unpC d x k) ⟨4,x,k,0,false⟩ else [])).length ≤ _
   rw [List.length_append]
   split
   ·omega
   ·simp; omega
theorem upX_len {d:Pl.Dg} (hn:d.n ≤ 64):∀ k,(upX d k).length ≤ 64 * k
 | 0 => Nat.le_refl _
 | k + 1 => by
   have a:=upX_len hn k
   have b:=upY_len d k d.n
   show (upX d k ++ upY d k d.n).length ≤ _
   rw [List.length_append]
   omega
set_option maxRecDepth 100000 in
set_option maxHeartbeats 4000000 in
theorem upTry_any (d:Pl.Dg) (hd:Pl.Wf d) (A B:Option Addr) (cp cq m gd gl x y:Nat) (v:Value) (ms:List Mv) (w0 w:World) (hm:m = 4 * d.n) (hg:DgAt w A B d) (hxy:x < y) (hy:y < d.n) (hms:ms.length ≤ 1000000)
 (hp:MG w0 24 gd gl [.slice A d.n cp,.slice B m cq,.int .i64 (d.lp:Int)] v ms w) :
 Calls Tryz.prog 94 #[.agg #[.int .i64 4,.int .i64 (x:Int),.int .i64 (y:Int),.int .i64 0,.bool false],.pointer (some ⟨gd,0,none⟩),.pointer (some ⟨gl,0,none⟩)] w fun e w' => e = .returned (.tuple #[]) ∧ ∃ v',MG w0 24 gd gl [.slice A d.n cp,.slice B m cq,.int .i64 (d.lp:Int)] v' (ms ++ one (unpC d x y) ⟨4,x,y,0,false⟩) w' := by
 have HM:=hide hm
 have HG:=hide hg
 have hn:=hd.few
 obtain ⟨cc,hcc⟩:∃ c',c' = unpC d x y := ⟨_,rfl⟩
 have HC:=hide hcc
 have hb0:Below w.heap.size w (w.alloc (.cells #[.int .i64 4,.int .i64 (x:Int),.int .i64 (y:Int),.int .i64 0,.bool false] 43)):=(Below.refl _ _).alloc (Nat.le_refl _) _
 have HB0:=hide hb0
 have P1:=hide (hp.below hb0)
 have M1:=hide (row_at (W := w) (g := w.heap.size) (t := 43) (vs := [.int .i64 4,.int .i64 (x:Int),.int .i64 (y:Int),.int .i64 0,.bool false]) rfl)
 have hgl:gl < w.heap.size:=hp.big
 have hgd:gd < gl:=hp.lt
 clear hp hb0 hg hm hcc
 obtain ⟨d0,d1,d2,d3⟩:=box3 P1.out.d
 obtain ⟨e0,e1,e2,e3,e4,e5⟩:=box5 M1.out
 go_enter Tryz.func94,Tryz.ntmps94
 go_wp2_with fail
 refine (find_any d hd A B cp cq m x y _ HM.out (HG.out.keep HB0.out) (by omega) hy).mono ?_
 rintro e w1 ⟨he,hb1⟩
 have P2:=hide (P1.out.below hb1)
 have M2:=hide (M1.out.below hb1)
 have HB1:=hide (HB0.out.trans (hb1.mono HB0.out.size))
 have hs2:w.heap.size < w1.heap.size:=M2.out.lt
 have hs3:gl < w1.heap.size:=by omega
 have hs2':w.heap.size < w1.heap.size + 1:=by omega
 have hs1d:gd < w1.heap.size:=by omega
 have hs3':gl < w1.heap.size + 1:=by omega
 have HE:=hide he
 clear hb1 d0 d1 d2 d3 e0 e1 e2 e3 e4 e5 HB0 P1 M1 he
 obtain ⟨d0,d1,d2,d3⟩:=box3 P2.out.d
 obtain ⟨e0,e1,e2,e3,e4,e5⟩:=box5 M2.out
 obtain ⟨L,hL⟩:∃ L,L = lensI d x y := ⟨_,rfl⟩
 have HL:=hide hL
 have HE2:=HE.out
 rw [← hL] at HE2
 clear hL HE
 cases L with
 | some i =>
   unfold findE lensV at HE2
   dsimp only at HE2
   obtain ⟨l0,hl0⟩:∃ z:Nat,z = lnH x y i := ⟨_,rfl⟩
   rw [← hl0] at HE2
   obtain ⟨l1,hl1⟩:∃ z:Nat,z = d.m (Pl.nx d l0) := ⟨_,rfl⟩
   rw [← hl1] at HE2
   obtain ⟨l2,hl2⟩:∃ z:Nat,z = Pl.tn l0 2 := ⟨_,rfl⟩
   rw [← hl2] at HE2
   obtain ⟨l3,hl3⟩:∃ z:Nat,z = Pl.tn l1 2 := ⟨_,rfl⟩
   rw [← hl3] at HE2
   obtain ⟨l4,hl4⟩:∃ z:Nat,z = Pl.tn (d.m l0) 2 := ⟨_,rfl⟩
   rw [← hl4] at HE2
   obtain ⟨l5,hl5⟩:∃ z:Nat,z = Pl.nx d l0 := ⟨_,rfl⟩
   rw [← hl5] at HE2
   obtain ⟨l6,hl6⟩:∃ z:Nat,z = d.m l0 := ⟨_,rfl⟩
   rw [← hl6] at HE2
   obtain ⟨l7,hl7⟩:∃ z:Nat,z = Pl.tn l5 2 := ⟨_,rfl⟩
   rw [← hl7] at HE2
   clear hl0 hl1 hl2 hl3 hl4 hl5 hl6 hl7
   subst HE2
   have PL:=hide (P2.out.alloc (.cells #[.int .i64 (l0:Int),.int .i64 (l1:Int),.int .i64 (l2:Int),.int .i64 (l3:Int),.int .i64 (l4:Int),.int .i64 (l5:Int),.int .i64 (l6:Int),.int .i64 (l7:Int)] 131))
   have ML0:=hide (M2.out.alloc (.cells #[.int .i64 (l0:Int),.int .i64 (l1:Int),.int .i64 (l2:Int),.int .i64 (l3:Int),.int .i64 (l4:Int),.int .i64 (l5:Int),.int .i64 (l6:Int),.int .i64 (l7:Int)] 131))
   have HBL:=hide (HB1.out.alloc HB1.out.size (.cells #[.int .i64 (l0:Int),.int .i64 (l1:Int),.int .i64 (l2:Int),.int .i64 (l3:Int),.int .i64 (l4:Int),.int .i64 (l5:Int),.int .i64 (l6:Int),.int .i64 (l7:Int)] 131))
   go_wp2_with fail
   refine (unpoke_m d hd A B cp cq m x y 4 0 false _ HM.out (HG.out.keep HBL.out) hxy hy).mono ?_
   rintro e w3 ⟨r1,r2,hb3⟩
   have P3:=hide (PL.out.below hb3)
   have M3:=hide (ML0.out.below hb3)
   have hs4:w.heap.size < w3.heap.size:=M3.out.lt
   have hs5:gl < w3.heap.size:=by omega
   rw [← HC.out] at r1 r2
   have R1:=hide r1
   have R2:=hide r2
   clear r1 r2 hb3 d0 d1 d2 d3 e0 e1 e2 e3 e4 e5 HB1 P2 M2 PL ML0 HBL
   obtain ⟨e0,e1,e2,e3,e4,e5⟩:=box5 M3.out
   have hs6:gl < w3.heap.size + 1:=by omega
   have hs7:gl < w3.heap.size + 1 + 1:=by omega
   have hs8:w.heap.size < w3.heap.size + 1:=by omega
   have hs9:w.heap.size < w3.heap.size + 1 + 1:=by omega
   by_cases h0:cc = 0
   ·obtain ⟨A9,B9,c8,c9,k9,x9,y9,s9,o9,hmv,rfl,hT⟩:=ResOk.split (R2.out h0)
    have E:=hide (show one cc ⟨4,x,y,0,false⟩ = [⟨4,x,y,0,false⟩] from one_yes h0)
    clear h0 R1 R2 hmv hT
    obtain ⟨N9,hN9⟩:∃ n,n = (unpD d x y).n := ⟨_,rfl⟩
    obtain ⟨N4,hN4⟩:∃ n,n = 4 * (unpD d x y).n := ⟨_,rfl⟩
    obtain ⟨L9,hL9⟩:∃ n,n = (unpD d x y).lp := ⟨_,rfl⟩
    rw [← hN4,← hN9,← hL9]
    clear hN9 hN4 hL9
    obtain ⟨q0,q1⟩:=box1 P3.out.l
    obtain ⟨n0,hn0,hz0,hz1,hz2⟩:=info_parts moveInfo
    have PA:=hide ((P3.out.alloc (.cells #[.slice A9 N9 c8,.slice B9 N4 c9,.int .i64 (L9:Int)] 24)).alloc (.cells #[.int .i64 k9,.int .i64 x9,.int .i64 y9,.int .i64 s9,.bool o9] 43))
    have A0:=hide (PA.out.alloc (.cells (Mv.cells ⟨4,x,y,0,false⟩).toArray 43)).o
    have A1:∀ u ∈ Mv.cells ⟨4,x,y,0,false⟩,u.oneCell' = true:=by simp [Mv.cells,Value.oneCell']
    have A2:ms.length + 1 ≤ maxLen:=by unfold maxLen; omega
    have A3:(ms.length + 1) * 40 ≤ 140737488355328:=by omega
    have A6:=hide (five_news ((w3.alloc (.cells #[.slice A9 N9 c8,.slice B9 N4 c9,.int .i64 (L9:Int)] 24)).alloc (.cells #[.int .i64 k9,.int .i64 x9,.int .i64 y9,.int .i64 s9,.bool o9] 43)) (w3.heap.size + 1 + 1) (by simp) ⟨4,x,y,0,false⟩)
    go_wp2_with (at_builtin; refine wpList_append_lies _ (by rfl) _ _ 27 (by rfl) (gl + 1) 43 n0 (.agg #[.int .i64 0,.int .i64 0,.int .i64 0,.int .i64 0,.bool false]) 5 40 Tryz.underlying27 hn0 hz0 hz1 hz2 rfl (by omega) v ms.length (mvs ms) (by rfl) A0.out ⟨w3.heap.size + 1 + 1,0,none⟩ 1 1 (Mv.cells ⟨4,x,y,0,false⟩) (by rfl) (by rfl) A6.out A1 (by omega) A2 A3 (by simp; omega) (w3.heap.size + 1 + 1 + 1) (by simp) ?_; intro g2 c2 w2 own2 grow2 at2 lt2; obtain ⟨q2,q3⟩:=box1 ((PA.out.alloc (.cells (Mv.cells ⟨4,x,y,0,false⟩).toArray 43)).l.grown grow2 ((PA.out.alloc (.cells (Mv.cells ⟨4,x,y,0,false⟩).toArray 43)).far (Nat.le_refl _))); have OWN2 := hide own2; have GR2 := hide grow2; clear own2 grow2 at2)
    refine bodyPost_end (results_none rfl _ _ _) rfl ⟨rfl,.slice (some ⟨g2,0,none⟩) (ms.length + 1) c2,?_⟩
    rw [← HC.out,E.out]
    exact (PA.out.alloc _).push OWN2.out GR2.out
   ·have E:=hide (show one cc ⟨4,x,y,0,false⟩ = [] from one_no h0)
    have hE:=ResErr.split (R1.out h0)
    subst hE
    have t1:(cc == 0) = false:=by rw [beq_eq_false_iff_ne]; exact h0
    clear h0 R1 R2
    go_wp2
    refine bodyPost_end (results_none rfl _ _ _) rfl ⟨rfl,v,?_⟩
    rw [← HC.out,E.out,List.append_nil]
    exact (P3.out.alloc _).alloc _
 | none =>
   unfold findE noLens at HE2
   dsimp only at HE2
   have E:=hide (show one cc ⟨4,x,y,0,false⟩ = [] from one_no (by
    rw [HC.out]
    unfold unpC
    rw [← HL.out]
    intro h
    cases h))
   subst HE2
   go_wp2
   refine bodyPost_ret (results_none rfl _ _ _) rfl ⟨rfl,v,?_⟩
   rw [← HC.out,E.out,List.append_nil]
   exact P2.out.alloc _
set_option maxRecDepth 100000 in
set_option maxHeartbeats 4000000 in
theorem unpokes_any (d:Pl.Dg) (hd:Pl.Wf d) (A B:Option Addr) (cp cq m:Nat) (w:World) (hm:m = 4 * d.n) (hg:DgAt w A B d) :
 Calls Tryz.prog 56 #[.agg #[.slice A d.n cp,.slice B m cq,.int .i64 d.lp]] w fun e w' => ∃ v,e = .returned v ∧ MovesIn w.heap.size w' v (upX d d.n) ∧ Below w.heap.size w w' := by
 have HM:=hide hm
 have HG:=hide hg
 have hn:=hd.few
 have P0:=hide (show MG w 24 w.heap.size (w.heap.size + 1) [.slice A d.n cp,.slice B m cq,.int .i64 (d.lp:Int)] (.slice none 0 0) [] ((w.alloc (.cells #[.slice A d.n cp,.slice B m cq,.int .i64 (d.lp:Int)] 24)).alloc (.cells #[.slice none 0 0] 27)) from
  ⟨(row_at (vs := [_,_,_]) rfl).alloc _,row_at (vs := [_]) (by simp),⟨rfl,.inl ⟨rfl,rfl⟩⟩,((Below.refl _ _).alloc (Nat.le_refl _) _).alloc (by simp) _,Nat.le_refl _,by omega⟩)
 clear hg hm
 go_enter Tryz.func56,Tryz.ntmps56
 go_wp2
 go_loopg [5,6,11] d.n (fun g s5 s6 s11 wx => ∃ (k:Nat) (v:Value),k + g = d.n ∧ s11 = .int .i64 (k:Int) ∧ MG w 24 w.heap.size (w.heap.size + 1) [.slice A d.n cp,.slice B m cq,.int .i64 (d.lp:Int)] v (upX d k) wx)
 case atStart => exact ⟨0,_,by omega,rfl,P0.out⟩
 case round =>
  clear P0
  obtain ⟨k,v,hkg,rfl,hp⟩:=hrel
  obtain ⟨go,rfl⟩:∃ go,go = gk := ⟨_,rfl⟩
  have HKG:=hide hkg
  have PK:=hide hp
  have hlen:=upX_len hn k
  clear hp
  by_cases hk:k < d.n
  ·have hki:(k:Int) < (d.n:Int):=by omega
   clear hkg
   go_wp2
   go_loopg [6] (d.n - (k + 1)) (fun g s6 wx => ∃ (j:Nat) (u:Value),j + g = d.n ∧ k + 1 ≤ j ∧ s6 = .int .i64 (j:Int) ∧ MG w 24 w.heap.size (w.heap.size + 1) [.slice A d.n cp,.slice B m cq,.int .i64 (d.lp:Int)] u (upX d k ++ upY d k j) wx)
   case atStart => exact ⟨k + 1,v,by omega,by omega,by go_num,by rw [upY_none d k (k + 1) (Nat.le_refl _),List.append_nil]; exact PK.out⟩
   case round =>
    clear PK
    obtain ⟨j,u,hjg,hkj,rfl,hq⟩:=hrel
    have HJG:=hide hjg
    have QJ:=hide hq
    have hlen2:=upY_len d k j
    obtain ⟨d0,d1,d2,d3⟩:=box3 hq.d
    clear hq hjg
    by_cases hj:j < d.n
    ·have hji:(j:Int) < (d.n:Int):=by omega
     go_wp2_with fail
     refine (upTry_any d hd A B cp cq m _ _ k j u _ w _ HM.out (HG.out.keep QJ.out.bel) (by omega) hj (by simp only [List.length_append]; omega) QJ.out).mono ?_
     rintro e w1 ⟨rfl,u1,hp1⟩
     have Q1:=hide hp1
     clear hp1
     go_wp2
     go_roundg (gk - 1)
     case measure => have := HJG.out; omega
     case rel =>
      have e2:upY d k (j + 1) = upY d k j ++ one (unpC d k j) ⟨4,k,j,0,false⟩:=by
       show upY d k j ++ (if k < j then one (unpC d k j) ⟨4,k,j,0,false⟩ else []) = _
       rw [if_pos (by omega)]
      exact ⟨j + 1,u1,by have := HJG.out; omega,by omega,by go_num,by rw [e2]; simpa using Q1.out⟩
    ·have hji:¬ ((j:Int) < (d.n:Int)):=by omega
     have E2:=hide (show upX d (k + 1) = upX d k ++ upY d k j by
      have:j = d.n:=by have := HJG.out; omega
      rw [this]; rfl)
     go_wp2
     go_roundg (go - 1)
     case measure => have := HKG.out; omega
     case rel => exact ⟨k + 1,u,by have := HKG.out; omega,by go_num,by rw [E2.out]; exact QJ.out⟩
  ·have hki:¬ ((k:Int) < (d.n:Int)):=by omega
   have e:k = d.n:=by omega
   have EL:=hide (show upX d k = upX d d.n by rw [e])
   obtain ⟨q0,q1⟩:=box1 PK.out.l
   clear hkg e
   go_wp2
   go_ret
   exact ⟨v,rfl,⟨w.heap.size + 1 + 1,by omega,PK.out.big,by rw [← EL.out]; exact PK.out.o⟩,PK.out.bel⟩
end Go.Proofs.YtghdiolnonejaaaGreatDoor
end
section
namespace Go.Proofs.YtghdiolnonejaaaGreatDoor
open Go Go.RowKit
attribute [local go_sem ↓] Go.wp_at_zero Go.wp_at_succ
set_option maxRecDepth 100000 in
set_option maxHeartbeats 4000000 in
theorem apply_5 (d:Pl.Dg) (hd:Pl.Valid d) (A B:Option Addr) (cp cq m:Nat) (x:Nat) (y s:Int) (o:Bool) (w:World) (hm:m = 4 * d.n) (hg:DgAt w A B d) (hin:inR d.n ⟨5,(x:Int),y,s,o⟩) :
 Calls Tryz.prog 26 #[.agg #[.slice A d.n cp,.slice B m cq,.int .i64 d.lp],(Mv.mk 5 (x:Int) y s o).v] w (ResC (sldC d x) (sldD d x) (sldI d x) w) := by
 have hn:=hd.wf.few
 have hlp:=hd.wf.lp
 have HM:=hide hm
 have HG:=hide hg
 have hm2:m ≤ 256:=by omega
 clear hm hg
 have PB0:=hide (boxes4 w (.slice A d.n cp) (.slice B m cq) (.int .i64 (d.lp:Int)) (.int .i64 5) (.int .i64 (x:Int)) (.int .i64 y) (.int .i64 s) (.bool o))
 unfold W4 at PB0
 obtain ⟨x0,x1,x2,x3,b0,s0⟩:=PB0.out
 have X0:=hide x0
 have X1:=hide x1
 have X2:=hide x2
 have X3:=hide x3
 have B0:=hide b0
 have S0:=hide s0
 clear x0 x1 x2 x3 b0 s0 PB0
 unfold Mv.v
 go_enter Tryz.func26,Tryz.ntmps26
 go_wp2_with fail
 refine (valid_yes d hd A B cp cq m _ HM.out (HG.out.keep B0.out)).mono ?_
 rintro e w1 ⟨rfl,hb1⟩
 have Y0:=hide (X0.out.below hb1)
 have Y1:=hide (X1.out.below hb1)
 have Y2:=hide (X2.out.below hb1)
 have Y3:=hide (X3.out.below hb1)
 have B1:=hide (B0.out.trans (hb1.mono B0.out.size))
 have hsz1:w.heap.size + 4 ≤ w1.heap.size:=by have := hb1.size; have := S0.out; omega
 clear X0 X1 X2 X3 B0 S0 hb1
 obtain ⟨d0,d1,d2,d3⟩:=box3 Y0.out
 obtain ⟨m0,m1,m2,m3,m4,m5⟩:=box5 Y1.out
 go_wp2_with fail
 refine (inRange_5 d.n (x:Int) y s o w1 (by omega)).mono ?_
 rintro e w2 ⟨rfl,hb2⟩
 rw [Pl.vb_true hin]
 have hsz:w.heap.size + 4 ≤ w2.heap.size:=by have := hb2.size; omega
 have AB2:=hide (show AB w w2.heap.size (w2.heap.size + 1) [.slice A d.n cp,.slice B m cq,.int .i64 (d.lp:Int)] [.int .i64 5,.int .i64 (x:Int),.int .i64 y,.int .i64 s,.bool o] ((w2.alloc (.cells #[.slice none 0 0,.slice none 0 0,.int .i64 0] 24)).alloc (.cells #[.int .i64 0,.int .i64 0,.int .i64 0,.int .i64 0,.bool false] 43)) from
  ⟨((Y0.out.below hb2).alloc _).alloc _,((Y1.out.below hb2).alloc _).alloc _,⟨_,((Y2.out.below hb2).alloc _).alloc _,rfl⟩,⟨_,((Y3.out.below hb2).alloc _).alloc _,rfl⟩,⟨_,(row_at (vs := [_,_,_]) rfl).alloc _,rfl⟩,⟨_,row_at (vs := [_,_,_,_,_]) (by simp),rfl⟩,((B1.out.trans (hb2.mono B1.out.size)).alloc (B1.out.trans (hb2.mono B1.out.size)).size _).alloc ((B1.out.trans (hb2.mono B1.out.size)).alloc (B1.out.trans (hb2.mono B1.out.size)).size _).size _,by omega,by omega,by omega⟩)
 obtain ⟨d0',d1',d2',d3'⟩:=box3 (Y0.out.below hb2)
 obtain ⟨m0',m1',m2',m3',m4',m5'⟩:=box5 (Y1.out.below hb2)
 clear d0 d1 d2 d3 m0 m1 m2 m3 m4 m5 Y0 Y1 Y2 Y3 B1 hb2 hsz1
 have z1:w.heap.size < w2.heap.size:=by omega
 have z2:w.heap.size + 1 < w2.heap.size:=by omega
 have hx:x < 4 * d.n:=by have := hin; unfold inR at this; simp at this; omega
 have HG2:=hide (HG.out.keep AB2.out.bel)
 go_wp2_with fail
 obtain ⟨gr,hgr⟩:∃ g,g = w2.heap.size := ⟨_,rfl⟩
 obtain ⟨gi,hgi⟩:∃ g,g = w2.heap.size + 1 := ⟨_,rfl⟩
 rw [← hgi,← hgr] at AB2
 rw [← hgi,← hgr]
 clear hgr hgi
 refine (slide_any d hd.wf A B cp cq m x 5 y s o _ HM.out HG2.out hx).mono ?_
 intro e w3 hres
 have AB3:=hide (AB2.out.below hres.2.2)
 obtain ⟨cc,hcc⟩:∃ c,c = sldC d x := ⟨_,rfl⟩
 obtain ⟨rr,hrr⟩:∃ r,r = sldD d x := ⟨_,rfl⟩
 obtain ⟨mm,hmm⟩:∃ r,r = sldI d x := ⟨_,rfl⟩
 unfold SldPost at hres
 rw [← hcc,← hrr,← hmm] at hres
 have HCC:=hide hcc
 have HRR:=hide hrr
 have HMM:=hide hmm
 clear hcc hrr hmm d0' d1' d2' d3' m0' m1' m2' m3' m4' m5' AB2 HG2
 by_cases hc:cc = 0
 ·obtain ⟨A9,B9,c8,c9,k9,x9,y9,s9,o9,hmv,rfl,hT⟩:=ResOk.split (hres.2.1 hc)
  have HMV:=hide hmv
  have HC:=hide hc
  clear hmv hc
  have AD3:=hide (show AD w gr gi _ _ A9 B9 rr w3 from ⟨AB3.out,hT⟩)
  clear hT
  obtain ⟨N9,hN9⟩:∃ n,n = rr.n := ⟨_,rfl⟩
  obtain ⟨L9,hL9⟩:∃ n,n = rr.lp := ⟨_,rfl⟩
  rw [← hN9,← hL9]
  have HN9:=hide hN9
  have HL9:=hide hL9
  clear hN9 hL9
  obtain ⟨_,r3,l3⟩:=AB3.out.r
  obtain ⟨_,r4,l4⟩:=AB3.out.i
  obtain ⟨_,r5,l5⟩:=AB3.out.rd
  obtain ⟨_,r6,l6⟩:=AB3.out.rm
  obtain ⟨e0,e1,e2,e3⟩:=cells3 r3 l3
  obtain ⟨f0,f1,f2,f3,f4,f5⟩:=cells5 r4 l4
  obtain ⟨g0,g1,g2,g3⟩:=cells3 r5 l5
  obtain ⟨h0,h1,h2,h3,h4,h5⟩:=cells5 r6 l6
  have y1:gr ≠ w.heap.size + 1 + 1:=by have := AB3.out.lr; omega
  have y2:gr ≠ w.heap.size + 1 + 1 + 1:=by have := AB3.out.lr; omega
  have y3:gi ≠ w.heap.size + 1 + 1:=by have := AB3.out.li; omega
  have y4:gi ≠ w.heap.size + 1 + 1 + 1:=by have := AB3.out.li; omega
  have y5:gr ≠ gi:=AB3.out.ne
  have y6:w.heap.size + 1 + 1 ≠ w.heap.size + 1 + 1 + 1:=by omega
  clear r3 l3 r4 l4 r5 l5 r6 l6
  go_upto_region 22 with fail
  go_region
  go_wp2_with fail
  clear e0 e1 e2 e3 f0 f1 f2 f3 f4 f5 g0 g1 g2 g3 h0 h1 h2 h3 h4 h5
  have AD4:=hide ((((((((AD3.out.setR 0 (.slice A9 N9 c8)).setR 1 (.slice B9 (4 * N9) c9)).setR 2 (.int .i64 (L9:Int))).setI 0 (.int .i64 k9)).setI 1 (.int .i64 x9)).setI 2 (.int .i64 y9)).setI 3 (.int .i64 s9)).setI 4 (.bool o9))
  obtain ⟨_,r5,l5⟩:=AD4.out.b.rd
  obtain ⟨_,r6,l6⟩:=AD4.out.b.rm
  refine bodyPost_ret (v := .tuple #[.agg #[.slice A9 N9 c8,.slice B9 (4 * N9) c9,.int .i64 (L9:Int)],.agg #[.int .i64 k9,.int .i64 x9,.int .i64 y9,.int .i64 s9,.bool o9],.int .i64 0]) ?_ rfl ?_
  ·obtain ⟨e0,e1,e2,e3,e4,e5,e6,e7⟩:=fin8 r5 r6 l5 l6 (by omega) (.slice A9 N9 c8) (.slice B9 (4 * N9) c9) (.int .i64 (L9:Int)) (.int .i64 k9) (.int .i64 x9) (.int .i64 y9) (.int .i64 s9) (.bool o9)
   simp [results,Tryz.results26,go_sem,e0,e1,e2,e3,e4,e5,e6,e7]
  ·have AD5:=(((((((AD4.out.setD 0 (.slice A9 N9 c8)).setD 1 (.slice B9 (4 * N9) c9)).setD 2 (.int .i64 (L9:Int))).setM 0 (.int .i64 k9)).setM 1 (.int .i64 x9)).setM 2 (.int .i64 y9)).setM 3 (.int .i64 s9)).setM 4 (.bool o9)
   rw [← HCC.out,← HRR.out,← HMM.out]
   refine ⟨fun h => absurd HC.out h,fun _ => ⟨A9,B9,c8,c9,by rw [HMV.out,← HN9.out,← HL9.out]; rfl,AD5.drew.t⟩,AD5.drew.b.bel⟩
 ·have HC:=hide hc
  have hE:=ResErr.split (hres.1 hc)
  subst hE
  have t1:(cc != 0) = true:=by rw [bne_iff_ne]; exact hc
  clear hc
  obtain ⟨_,r3,l3⟩:=AB3.out.r
  obtain ⟨_,r4,l4⟩:=AB3.out.i
  obtain ⟨_,r5,l5⟩:=AB3.out.rd
  obtain ⟨_,r6,l6⟩:=AB3.out.rm
  obtain ⟨e0,e1,e2,e3⟩:=cells3 r3 l3
  obtain ⟨f0,f1,f2,f3,f4,f5⟩:=cells5 r4 l4
  obtain ⟨g0,g1,g2,g3⟩:=cells3 r5 l5
  obtain ⟨h0,h1,h2,h3,h4,h5⟩:=cells5 r6 l6
  have y1:gr ≠ w.heap.size + 1 + 1:=by have := AB3.out.lr; omega
  have y2:gr ≠ w.heap.size + 1 + 1 + 1:=by have := AB3.out.lr; omega
  have y3:gi ≠ w.heap.size + 1 + 1:=by have := AB3.out.li; omega
  have y4:gi ≠ w.heap.size + 1 + 1 + 1:=by have := AB3.out.li; omega
  have y5:gr ≠ gi:=AB3.out.ne
  have y6:w.heap.size + 1 + 1 ≠ w.heap.size + 1 + 1 + 1:=by omega
  clear r3 l3 r4 l4 r5 l5 r6 l6
  go_wp2
  clear e0 e1 e2 e3 f0 f1 f2 f3 f4 f5 g0 g1 g2 g3 h0 h1 h2 h3 h4 h5
  have AB4:=(((((((AB3.out.setR 0 (.slice none 0 0)).setR 1 (.slice none 0 0)).setR 2 (.int .i64 0)).setI 0 (.int .i64 0)).setI 1 (.int .i64 0)).setI 2 (.int .i64 0)).setI 3 (.int .i64 0)).setI 4 (.bool false)
  obtain ⟨_,r5,l5⟩:=AB4.rd
  obtain ⟨_,r6,l6⟩:=AB4.rm
  refine bodyPost_ret (v := .tuple #[nilD,nilM,.int .i64 cc]) ?_ rfl ?_
  ·obtain ⟨e0,e1,e2,e3,e4,e5,e6,e7⟩:=fin8 r5 r6 l5 l6 (by omega) (.slice none 0 0) (.slice none 0 0) (.int .i64 0) (.int .i64 0) (.int .i64 0) (.int .i64 0) (.int .i64 0) (.bool false)
   unfold nilD nilM
   simp [results,Tryz.results26,go_sem,e0,e1,e2,e3,e4,e5,e6,e7]
  ·rw [← HCC.out,← HRR.out,← HMM.out]
   exact ⟨fun _ => (show ResErr _ _ from rfl),fun h => absurd h HC.out,below8 AB4.bel _ _ _ _ _ _ _ _⟩
noncomputable def apC (d:Pl.Dg) (m:Mv):Int :=
 if m.kind < 1 ∨ 5 < m.kind then 11 else if Pl.vb (inR d.n m) = false then 2 else if m.kind = 1 then curlableC d m.x else if m.kind = 2 then uncC d m.x.toNat else if m.kind = 3 then pkQ d m.x m.y m.sign else if m.kind = 4 then unpC d m.x.toNat m.y.toNat else sldC d m.x.toNat
def apD (d:Pl.Dg) (m:Mv):Pl.Dg :=
 if m.kind = 1 then crl d m.x m.sign m.over else if m.kind = 2 then unD d m.x.toNat else if m.kind = 3 then pkD d m.x m.y m.sign m.over else if m.kind = 4 then unpD d m.x.toNat m.y.toNat else sldD d m.x.toNat
def apI (d:Pl.Dg) (m:Mv):Mv :=
 if m.kind = 1 then ⟨2,d.n,0,0,false⟩ else if m.kind = 2 then unI d m.x.toNat else if m.kind = 3 then ⟨4,d.n,d.n + 1,0,false⟩ else if m.kind = 4 then unpI d m.x.toNat m.y.toNat else sldI d m.x.toNat
end Go.Proofs.YtghdiolnonejaaaGreatDoor
end
section
namespace Go.Proofs.YtghdiolnonejaaaGreatDoor
open Go Go.RowKit
def byK (m:Mv) (s:Int):Int := if m.kind = 1 then m.sign else if m.kind = 2 then -s else 0
def moreK (m:Mv):Int := if m.kind = 1 then 1 else if m.kind = 2 then -1 else if m.kind = 3 then 2 else if m.kind = 4 then -2 else 0
def Sml (l:List Int):Prop := ∀ z,z ∈ l → -1 ≤ z ∧ z ≤ 1
theorem wf_sml {d:Pl.Dg} (hd:Pl.Wf d):Sml d.sg := fun z hz => by
 obtain ⟨k,hk,rfl⟩:=List.getElem_of_mem hz
 have:=hd.sign k hk
 unfold Pl.Dg.s at this
 rw [List.getD_eq_getElem?_getD,List.getElem?_eq_getElem hk] at this
 simp at this
 omega
theorem sml_app {l r:List Int} (h:Sml l) (h':Sml r):Sml (l ++ r) := fun z hz => by
 rcases List.mem_append.1 hz with h1 | h1
 ·exact h z h1
 ·exact h' z h1
theorem shr_sml {l:List Int} (h:Sml l) (gs:List Nat):Sml (Pl.shrS gs l) := fun z hz => by
 unfold Pl.shrS at hz
 obtain ⟨c,_,rfl⟩:=List.mem_map.1 hz
 rw [List.getD_eq_getElem?_getD]
 cases hc:l[c]? with
 | none => simp
 | some v => exact h v (List.mem_of_getElem? hc)
theorem sgn2_sml (a b:Nat):-1 ≤ sgn2 a b ∧ sgn2 a b ≤ 1 := by unfold sgn2; split <;> omega
theorem poke_signs (d:Pl.Dg) (x y:Int) (ov:Bool):sgn2 (un0 d x y ov) (ov0 d x y ov) + sgn2 (un1 d x y ov) (ov1 d x y ov) = 0 := by
 unfold sgn2 un0 ov0 un1 ov1 lnS th0 th1 plc
 cases ov <;> cases fwd d y <;> cases fwd d x <;> decide
theorem signs_law {d:Pl.Dg} (hd:Pl.Valid d) (m:Mv) (h:apC d m = 0) :
 (apD d m).sg.sum = d.sg.sum + byK m (apI d m).sign ∧ ((apD d m).sg.length:Int) = d.sg.length + moreK m ∧ Sml (apD d m).sg := by
 obtain ⟨k,x,y,s,o⟩:=m
 have hs:=wf_sml hd.wf
 by_cases hk:k < 1 ∨ 5 < k
 ·unfold apC at h; rw [if_pos hk] at h; exact absurd h (by decide)
 by_cases hin:inR d.n ⟨k,x,y,s,o⟩
 ·have hv:¬ (Pl.vb (inR d.n ⟨k,x,y,s,o⟩) = false):=by rw [Pl.vb_true hin]; decide
  have e0:apC d ⟨k,x,y,s,o⟩ = if k = 1 then curlableC d x else if k = 2 then uncC d x.toNat else if k = 3 then pkQ d x y s else if k = 4 then unpC d x.toNat y.toNat else sldC d x.toNat:=by unfold apC; rw [if_neg hk,if_neg hv]
  rw [e0] at h
  have hk5:k = 1 ∨ k = 2 ∨ k = 3 ∨ k = 4 ∨ k = 5:=by omega
  rcases hk5 with rfl | rfl | rfl | rfl | rfl
  ·have hsg:s = 1 ∨ s = -1:=by have := hin; unfold inR at this; simp at this; omega
   refine ⟨?_,?_,?_⟩
   ·show (d.sg ++ [s]).sum = d.sg.sum + s
    simp
   ·show ((d.sg ++ [s]).length:Int) = d.sg.length + 1
    simp
   ·show Sml (d.sg ++ [s])
    exact sml_app hs (fun z hz => by simp at hz; subst hz; omega)
  ·obtain ⟨c,rfl⟩:=Int.eq_ofNat_of_zero_le (show 0 ≤ x by have := hin; unfold inR at this; simp at this; omega)
   have hc:c < d.sg.length:=by have := hin; unfold inR at this; simp [Pl.Dg.n] at this; omega
   refine ⟨?_,?_,?_⟩
   ·show (Pl.shrS [c] d.sg).sum = d.sg.sum + -(d.s c)
    rw [Pl.shrS_one d.sg hc]
    show _ - d.sg.getD c 0 = _ + -(d.sg.getD c 0)
    omega
   ·show ((Pl.shrS [c] d.sg).length:Int) = d.sg.length + -1
    have:=Pl.left_one hc
    rw [Pl.shrS_len]
    omega
   ·show Sml (Pl.shrS [c] d.sg)
    exact shr_sml hs _
  ·refine ⟨?_,?_,?_⟩
   ·show (d.sg ++ [_,_]).sum = d.sg.sum + 0
    have:=poke_signs d x y o
    simp
    omega
   ·show ((d.sg ++ [_,_]).length:Int) = d.sg.length + 2
    simp
   ·show Sml (d.sg ++ [_,_])
    refine sml_app hs (fun z hz => ?_)
    simp at hz
    rcases hz with rfl | rfl <;> exact sgn2_sml _ _
  ·obtain ⟨a,rfl⟩:=Int.eq_ofNat_of_zero_le (show 0 ≤ x by have := hin; unfold inR at this; simp at this; omega)
   obtain ⟨b,rfl⟩:=Int.eq_ofNat_of_zero_le (show 0 ≤ y by have := hin; unfold inR at this; simp at this; omega)
   have hab:a < b ∧ b < d.n:=by have := hin; unfold inR at this; simp at this; omega
   have h':unpC d a b = 0:=h
   have eD:apD d ⟨4,(a:Int),(b:Int),s,o⟩ = unpD d a b:=rfl
   cases hL:lensI d a b with
   | none => unfold unpC at h'; rw [hL] at h'; exact absurd (show (6:Int) = 0 from h') (by decide)
   | some i =>
     have eS:(unpD d a b).sg = Pl.shrS [a,b] d.sg:=by unfold unpD; rw [hL]; rfl
     obtain ⟨h1,h2,h3⟩:=lens_is hL
     have hi:=lens_lt hL
     have hl:lnH a b i < 4 * d.n:=by unfold lnH; split <;> omega
     have sg:=Pl.lens_signs hd.wf hl h2 h3
     rw [h1] at sg
     have sab:d.s a + d.s b = 0:=by
      unfold lnH lnO at sg
      by_cases h4:i < 4
      ·rw [if_pos h4,if_pos h4,show (4 * a + i) / 4 = a by omega] at sg
       exact sg
      ·rw [if_neg h4,if_neg h4,show (4 * b + i - 4) / 4 = b by omega] at sg
       omega
     have hb:b < d.sg.length:=hab.2
     rw [eD,eS]
     refine ⟨?_,?_,?_⟩
     ·show (Pl.shrS [a,b] d.sg).sum = d.sg.sum + 0
      rw [Pl.shrS_two d.sg hab.1 hb]
      unfold Pl.Dg.s at sab
      omega
     ·show ((Pl.shrS [a,b] d.sg).length:Int) = d.sg.length + -2
      have:=Pl.left_two hab.1 hb
      rw [Pl.shrS_len]
      omega
     ·exact shr_sml hs _
  ·refine ⟨?_,?_,?_⟩
   ·show d.sg.sum = d.sg.sum + 0
    omega
   ·show (d.sg.length:Int) = d.sg.length + 0
    omega
   ·exact hs
 ·unfold apC at h
  rw [if_neg hk,if_pos (Pl.vb_false hin)] at h
  exact absurd h (by decide)
end Go.Proofs.YtghdiolnonejaaaGreatDoor
end
section
namespace Go.Proofs.YtghdiolnonejaaaGreatDoor
open Go Go.RowKit
attribute [local go_sem ↓] Go.wp_at_zero Go.wp_at_succ
section
variable {P:Program} (w:World)
def SrcAt (w:World) (A:Option Addr) (m:Nat) (xs:List Value):Prop := xs.length = m * 5 ∧ (0 < m → ∃ b o,A = some ⟨b,o,none⟩ ∧ ∀ (j:Nat) u,xs[j]? = some u → w.cell? ⟨b,o + j,none⟩ = some u) ∧ ∀ u ∈ xs,u.oneCell' = true
theorem mvs_one (ms:List Mv):∀ u ∈ mvs ms,u.oneCell' = true := by
 intro u hu
 unfold mvs at hu
 obtain ⟨m,_,hm⟩:=List.mem_flatMap.1 hu
 simp only [Mv.cells,List.mem_cons,List.not_mem_nil,or_false] at hm
 rcases hm with rfl | rfl | rfl | rfl | rfl <;> rfl
theorem MovesAt.src {w:World} {v:Value} {ms:List Mv} (h:MovesAt w v ms):∃ (A:Option Addr) (c:Nat),v = .slice A ms.length c ∧ SrcAt w A ms.length (mvs ms) := by
 obtain ⟨base,h⟩:=h
 obtain ⟨A,c,rfl⟩:=owns_slice h
 refine ⟨A,c,rfl,h.1,fun hp => ?_,mvs_one ms⟩
 obtain ⟨g,cap,e,_,hg⟩:=World.ownsRow.form h hp
 injection e with e1 _ _
 subst e1
 refine ⟨g,0,rfl,fun j u hu => ?_⟩
 have hj:j < ms.length * 5:=by
  have:=(List.getElem?_eq_some_iff.1 hu).1
  rw [mvs_len] at this
  exact this
 rw [Nat.zero_add,World.ownsRow.cellAt h j hj]
 exact hu
theorem run_append_src (base:Nat) (t ty e:TypeId) (i:TypeInfo) (z:Value) (bytes:Nat) (ht:P.underlying t = some (.slice e)) (hi:P.info? e = some i) (hz:i.zero = some z)
 (hsize:i.size = 5) (hby:i.bytes = bytes) (hzs:z.cells.size = 5)
 (v:Value) (n:Nat) (xs:List Value) (hown:w.ownsRow base e 5 v n xs)
 (A:Option Addr) (m c:Nat) (ys:List Value) (hin:SrcAt w A m ys)
 (h63:n + m ≤ maxLen) (hbytes:(n + m) * bytes ≤ 140737488355328) (hbase:base ≤ w.heap.size) :
 ∃ v' w',(Builtin.append_ #[t,t] ty #[v,.slice A m c]).run P w = .ok v' w' ∧ w'.ownsRow base e 5 v' (n + m) (xs ++ ys) ∧ w.grownBy w' v.ownBlock := by
 have hl:=hin.1
 rcases Nat.eq_zero_or_pos m with h0 | h0
 ·subst h0
  obtain rfl:ys = [] := List.eq_nil_of_length_eq_zero (by omega)
  have hr:(Builtin.append_ #[t,t] ty #[v,.slice A 0 c]).run P w = .ok v w:=by
   rcases hown.2 with ⟨rfl,rfl⟩ | ⟨g,cap,cur,rfl,_,_,hnc,_⟩
   ·cases A <;> simp [Builtin.append_,run_underlying ht,sizeOf,typeInfo,hi,Builtin.lenOf,Builtin.firstCells,loadCells,loadCellsFrom]
   ·cases A <;> simp [Builtin.append_,run_underlying ht,sizeOf,typeInfo,hi,Builtin.lenOf,Builtin.firstCells,hnc,storeCells,loadCells,loadCellsFrom]
  refine ⟨v,w,hr,by simpa using hown,⟨rfl,rfl,rfl,Nat.le_refl _,fun _ _ _ => rfl⟩⟩
 ·obtain ⟨b,o,rfl,hc⟩:=hin.2.1 h0
  obtain ⟨v',w',hr,h2,h3,_⟩:=run_append_own (P := P) w base t ty e i z 5 bytes ht hi hz hsize hby hzs (by omega) v n xs hown ⟨b,o,none⟩ m c ys hl (fun j u hu => by
   have:(⟨b,o,none⟩:Addr).add j = ⟨b,o + j,none⟩:=by unfold Addr.add; split <;> simp_all
   rw [this]; exact hc j u hu) hin.2.2 h63 hbytes hbase
  exact ⟨v',w',hr,h2,h3⟩
theorem wp_append_src {o:Oper} {a:Act} {K:Act → World → Prop} {Q:Exit → Act → World → Prop} (s x:Operand) (t:TypeId)
 (ho:o.op = .call { callee := .builtin .append,args := #[s,x],argTypes := #[t,t] })
 (base:Nat) (e:TypeId) (i:TypeInfo) (z:Value) (bytes:Nat) (ht:P.underlying t = some (.slice e)) (hi:P.info? e = some i) (hz:i.zero = some z)
 (hsize:i.size = 5) (hby:i.bytes = bytes) (hzs:z.cells.size = 5)
 (v:Value) (n:Nat) (xs:List Value) (hs:a.eval s = v) (hown:w.ownsRow base e 5 v n xs)
 (A:Option Addr) (m c:Nat) (ys:List Value) (hx:a.eval x = .slice A m c) (hin:SrcAt w A m ys)
 (h63:n + m ≤ maxLen) (hbytes:(n + m) * bytes ≤ 140737488355328) (hbase:base ≤ w.heap.size)
 (h:∀ v' w',w'.ownsRow base e 5 v' (n + m) (xs ++ ys) → w.grownBy w' v.ownBlock → K (a.put o.dst v') w'):o.wp P a w K Q := by
 obtain ⟨v',w',hr,h2,h3⟩:=run_append_src (P := P) w base t o.type e i z bytes ht hi hz hsize hby hzs v n xs hown A m c ys hin h63 hbytes hbase
 unfold Oper.wp execOp
 simp only [ho,resolve,invoke,builtin,Sem.run_bind,Sem.run_pure,Result.andThen_ok,List.map_toArray,List.map_cons,List.map_nil,hs,hx,hr]
 exact h v' w' h2 h3
theorem step_append_src {ops:Array Oper} {o:Oper} {a:Act} {K:Act → World → Prop} {Q:Exit → Act → World → Prop} {E:Prop} (hgd:o.guard = none) (s x:Operand) (t:TypeId)
 (ho:o.op = .call { callee := .builtin .append,args := #[s,x],argTypes := #[t,t] })
 (base:Nat) (e:TypeId) (i:TypeInfo) (z:Value) (bytes:Nat) (ht:P.underlying t = some (.slice e)) (hi:P.info? e = some i) (hz:i.zero = some z)
 (hsize:i.size = 5) (hby:i.bytes = bytes) (hzs:z.cells.size = 5)
 (v:Value) (n:Nat) (xs:List Value) (hs:a.eval s = v) (hown:w.ownsRow base e 5 v n xs)
 (A:Option Addr) (m c:Nat) (ys:List Value) (hx:a.eval x = .slice A m c) (hin:SrcAt w A m ys)
 (h63:n + m ≤ maxLen) (hbytes:(n + m) * bytes ≤ 140737488355328) (hbase:base ≤ w.heap.size)
 (h:∀ v' w',w'.ownsRow base e 5 v' (n + m) (xs ++ ys) → w.grownBy w' v.ownBlock → K (a.put o.dst v') w') :
 if Region.wanted o (yielded ops a.tmps) = true then Oper.wp P o a w K Q else E := by
 have hw:Region.wanted o (yielded ops a.tmps) = true:=by simp [Region.wanted,hgd]
 rw [if_pos hw]
 exact wp_append_src w s x t ho base e i z bytes ht hi hz hsize hby hzs v n xs hs hown A m c ys hx hin h63 hbytes hbase h
end
def unC:Nat → List Mv
 | 0 => []
 | k + 1 => unC k ++ [⟨2,k,0,0,false⟩]
def upN (x:Nat):Nat → List Mv
 | 0 => []
 | k + 1 => upN x k ++ (if x < k then [⟨4,x,k,0,false⟩] else [])
def upNX (n:Nat):Nat → List Mv
 | 0 => []
 | k + 1 => upNX n k ++ upN k n
noncomputable def sel (d:Pl.Dg) (l:List Mv):List Mv := l.flatMap (fun m => one (apC d m) m)
theorem sel_nil (d:Pl.Dg):sel d [] = [] := rfl
theorem sel_app (d:Pl.Dg) (l r:List Mv):sel d (l ++ r) = sel d l ++ sel d r := by unfold sel; rw [List.flatMap_append]
theorem sel_cons (d:Pl.Dg) (m:Mv) (l:List Mv):sel d (m :: l) = one (apC d m) m ++ sel d l := by unfold sel; rw [List.flatMap_cons]
theorem mem_one {c:Int} {m z:Mv}:z ∈ one c m ↔ z = m ∧ c = 0 := by
 unfold one
 split
 ·rename_i h; simp [h]
 ·rename_i h; simp [h]
theorem mem_sel {d:Pl.Dg} {l:List Mv} {z:Mv}:z ∈ sel d l ↔ z ∈ l ∧ apC d z = 0 := by
 unfold sel
 rw [List.mem_flatMap]
 constructor
 ·rintro ⟨m,h1,h2⟩
  obtain ⟨rfl,h3⟩:=mem_one.1 h2
  exact ⟨h1,h3⟩
 ·rintro ⟨h1,h2⟩
  exact ⟨z,h1,mem_one.2 ⟨rfl,h2⟩⟩
theorem apC_in {d:Pl.Dg} {m:Mv} (hk:1 ≤ m.kind ∧ m.kind ≤ 5) (hin:inR d.n m):apC d m = if m.kind = 1 then curlableC d m.x else if m.kind = 2 then uncC d m.x.toNat else if m.kind = 3 then pkQ d m.x m.y m.sign else if m.kind = 4 then unpC d m.x.toNat m.y.toNat else sldC d m.x.toNat := by
 unfold apC
 rw [if_neg (by omega),if_neg (by rw [Pl.vb_true hin]; decide)]
theorem un_code {d:Pl.Dg} {c:Nat} (hc:c < d.n):apC d ⟨2,c,0,0,false⟩ = uncC d c := by
 rw [apC_in (by simp) (by unfold inR; simp; omega)]
 simp
theorem up_code {d:Pl.Dg} {x y:Nat} (hx:x < y) (hy:y < d.n):apC d ⟨4,x,y,0,false⟩ = unpC d x y := by
 rw [apC_in (by simp) (by unfold inR; simp; omega)]
 simp
theorem un_sel (d:Pl.Dg):∀ k,k ≤ d.n → unL d k = sel d (unC k)
 | 0,_ => rfl
 | k + 1, h => by
   show unL d k ++ one (uncC d k) ⟨2,k,0,0,false⟩ = sel d (unC k ++ [⟨2,k,0,0,false⟩])
   rw [sel_app,un_sel d k (by omega),sel_cons,sel_nil,un_code (by omega),List.append_nil]
theorem upY_sel (d:Pl.Dg) (x:Nat):∀ k,k ≤ d.n → upY d x k = sel d (upN x k)
 | 0,_ => rfl
 | k + 1, h => by
   show upY d x k ++ (if x < k then one (unpC d x k) ⟨4,x,k,0,false⟩ else []) = sel d (upN x k ++ (if x < k then [⟨4,x,k,0,false⟩] else []))
   rw [sel_app,upY_sel d x k (by omega)]
   congr 1
   split
   ·rename_i hx; rw [sel_cons,sel_nil,up_code hx (by omega),List.append_nil]
   ·rfl
theorem up_sel (d:Pl.Dg):∀ k,upX d k = sel d (upNX d.n k)
 | 0 => rfl
 | k + 1 => by
   show upX d k ++ upY d k d.n = sel d (upNX d.n k ++ upN k d.n)
   rw [sel_app,up_sel d k,upY_sel d k d.n (Nat.le_refl _)]
section
variable {d:Pl.Dg} {F P:List Nat}
end
noncomputable def remL (d:Pl.Dg):List Mv := sel d (unC d.n) ++ sel d (upNX d.n d.n)
end Go.Proofs.YtghdiolnonejaaaGreatDoor
end
section
namespace Go.Proofs.YtghdiolnonejaaaGreatDoor
open Go Go.RowKit
attribute [local go_sem ↓] Go.wp_at_zero Go.wp_at_succ
theorem mvs_apps (ms r:List Mv):mvs (ms ++ r) = mvs ms ++ mvs r := by unfold mvs; rw [List.flatMap_append]
structure AL (w:World) (dv:List Value) (b:Nat) (v:Value) (ms:List Mv) (W:World):Prop where
 d:Row W w.heap.size 24 dv
 o:W.ownsRow b 43 5 v ms.length (mvs ms)
 bel:Below w.heap.size w W
 lo:w.heap.size < b
 lo2:b ≤ W.heap.size
section
variable {w W W' W2:World} {dv:List Value} {b:Nat} {v v':Value} {ms r:List Mv}
theorem AL.below (h:AL w dv b v ms W) (hb:Below W.heap.size W W'):AL w dv b v ms W' :=
 ⟨h.d.below hb,own_below h.o hb,h.bel.trans (hb.mono h.bel.size),h.lo,Nat.le_trans h.lo2 hb.size⟩
theorem AL.far (h:AL w dv b v ms W):some w.heap.size ≠ v.ownBlock := fun e => by have := (h.o.lt _ e.symm).1; have := h.lo; omega
theorem AL.app (h:AL w dv b v ms W) (own:W2.ownsRow b 43 5 v' (ms.length + r.length) (mvs ms ++ mvs r)) (gr:W.grownBy W2 v.ownBlock):AL w dv b v' (ms ++ r) W2 := by
 refine ⟨h.d.grown gr h.far,?_,h.bel.grown gr h.bel.size (fun k hk => by have := (h.o.lt k hk).1; have := h.lo; omega),h.lo,Nat.le_trans h.lo2 gr.size⟩
 rw [mvs_apps,List.length_append]
 exact own
end
theorem un_le {d:Pl.Dg} (hn:d.n ≤ 64):(sel d (unC d.n)).length ≤ 64 := by
 have a:=unL_len d d.n
 rw [un_sel d _ (Nat.le_refl _)] at a
 omega
theorem up_le {d:Pl.Dg} (hn:d.n ≤ 64):(sel d (upNX d.n d.n)).length ≤ 4096 := by
 have a:=upX_len hn d.n
 rw [up_sel d _] at a
 omega
end Go.Proofs.YtghdiolnonejaaaGreatDoor
end
section
namespace Go.Proofs.YtghdiolnonejaaaGreatDoor
open Go Go.RowKit
attribute [local go_sem ↓] Go.wp_at_zero Go.wp_at_succ
theorem mv_get:∀ (ms:List Mv) (j:Nat) (z:Mv),ms[j]? = some z → ∀ (i:Nat) (u:Value),z.cells[i]? = some u → (mvs ms)[j * 5 + i]? = some u
 | [],j,z,h,_,_,_ => by cases h
 | m :: ms, 0, z, h, i, u, hu => by
   obtain rfl:m = z := by simpa using h
   have hi:i < m.cells.length:=(List.getElem?_eq_some_iff.1 hu).1
   show (m.cells ++ mvs ms)[0 * 5 + i]? = some u
   rw [Nat.zero_mul,Nat.zero_add,List.getElem?_append_left hi,hu]
 | m :: ms, j + 1, z, h, i, u, hu => by
   have ih:=mv_get ms j z (by simpa using h) i u hu
   show (m.cells ++ mvs ms)[(j + 1) * 5 + i]? = some u
   have e:m.cells.length = 5:=rfl
   rw [List.getElem?_append_right (by rw [e]; omega),e,← ih]
   congr 1
   omega
theorem mv_val {w:World} {v:Value} {ms:List Mv} (h:MovesAt w v ms):∃ (A:Option Addr) (c:Nat),v = .slice A ms.length c ∧ (0 < ms.length → ∃ g,A = some ⟨g,0,none⟩ ∧ g < w.heap.size ∧ ∀ (j:Nat) (z:Mv),ms[j]? = some z → ∀ (i:Nat) (u:Value),z.cells[i]? = some u → w.cell? ⟨g,j * 5 + i,none⟩ = some u) := by
 obtain ⟨base,h⟩:=h
 obtain ⟨A,c,rfl⟩:=owns_slice h
 refine ⟨A,c,rfl,fun hp => ?_⟩
 obtain ⟨g,cap,e,_,hg⟩:=World.ownsRow.form h hp
 injection e with e1 _ _
 subst e1
 refine ⟨g,rfl,hg,fun j z hz i u hu => ?_⟩
 have hj:j < ms.length:=(List.getElem?_eq_some_iff.1 hz).1
 have hi:i < 5:=(List.getElem?_eq_some_iff.1 hu).1
 rw [World.ownsRow.cellAt h (j * 5 + i) (by omega)]
 exact mv_get ms j z hz i u hu
def MovesV (w:World) (A:Option Addr) (n:Nat) (ms:List Mv):Prop := n = ms.length ∧ (0 < n → ∃ g,A = some ⟨g,0,none⟩ ∧ g < w.heap.size ∧ ∀ (j:Nat) (z:Mv),ms[j]? = some z → ∀ (i:Nat) (u:Value),z.cells[i]? = some u → w.cell? ⟨g,j * 5 + i,none⟩ = some u)
theorem MovesV.keep {w w':World} {A:Option Addr} {n:Nat} {ms:List Mv} (h:MovesV w A n ms) (hb:Below w.heap.size w w'):MovesV w' A n ms :=
 ⟨h.1,fun hp => let ⟨g,e,hl,hc⟩:=h.2 hp; ⟨g,e,Nat.lt_of_lt_of_le hl hb.size,fun j z hz i u hu => cell_below (hc j z hz i u hu) hb⟩⟩
theorem MovesAt.mv {w:World} {v:Value} {ms:List Mv} (h:MovesAt w v ms):∃ (A:Option Addr) (c:Nat),v = .slice A ms.length c ∧ MovesV w A ms.length ms := by
 obtain ⟨A,c,e,h2⟩:=mv_val h
 exact ⟨A,c,e,rfl,h2⟩
theorem MovesV.at_ {w:World} {A:Option Addr} {n j:Nat} {ms:List Mv} (h:MovesV w A n ms) (hj:j < n):∃ g k x y s o,A = some ⟨g,0,none⟩ ∧ g < w.heap.size ∧ ms[j]? = some ⟨k,x,y,s,o⟩ ∧ w.cell? ⟨g,j * 5,none⟩ = some (.int .i64 k) ∧ w.cell? ⟨g,j * 5 + 1,none⟩ = some (.int .i64 x) ∧ w.cell? ⟨g,j * 5 + 2,none⟩ = some (.int .i64 y) ∧ w.cell? ⟨g,j * 5 + 3,none⟩ = some (.int .i64 s) ∧ w.cell? ⟨g,j * 5 + 4,none⟩ = some (.bool o) := by
 obtain ⟨g,e,hl,hc⟩:=h.2 (by omega)
 obtain ⟨z,hz⟩:∃ z,ms[j]? = some z := ⟨_,List.getElem?_eq_getElem (by rw [← h.1]; exact hj)⟩
 obtain ⟨k,x,y,s,o⟩:=z
 exact ⟨g,k,x,y,s,o,e,hl,hz,hc j _ hz 0 _ rfl,hc j _ hz 1 _ rfl,hc j _ hz 2 _ rfl,hc j _ hz 3 _ rfl,hc j _ hz 4 _ rfl⟩
def eqM (a b:Mv):Bool := a.kind == b.kind && a.x == b.x && a.y == b.y && a.sign == b.sign && a.over == b.over
set_option maxRecDepth 100000 in
set_option maxHeartbeats 4000000 in
theorem Removing_any (d:Pl.Dg) (hd:Pl.Valid d) (A B:Option Addr) (cp cq m:Nat) (w:World) (hm:m = 4 * d.n) (hg:DgAt w A B d) :
 Calls Tryz.prog 29 #[.agg #[.slice A d.n cp,.slice B m cq,.int .i64 d.lp]] w fun e w' => ∃ v,e = .returned v ∧ MovesIn w.heap.size w' v (remL d) ∧ Below w.heap.size w w' := by
 have HM:=hide hm
 have HG:=hide hg
 have HW:=hide (Pl.Valid.iff.1 hd).1
 have hn:=hd.wf.few
 clear hg hm
 have R0:=hide (row_at (W := w) (g := w.heap.size) (t := 24) (vs := [.slice A d.n cp,.slice B m cq,.int .i64 (d.lp:Int)]) rfl)
 have B0:=hide (show Below w.heap.size w (w.alloc (.cells #[.slice A d.n cp,.slice B m cq,.int .i64 (d.lp:Int)] 24)) from (Below.refl _ _).alloc (Nat.le_refl _) _)
 go_enter Tryz.func29,Tryz.ntmps29
 go_wp2_with fail
 refine (valid_yes d hd A B cp cq m _ HM.out (HG.out.keep B0.out)).mono ?_
 rintro e w1 ⟨rfl,hb1⟩
 have R1:=hide (R0.out.below hb1)
 have B1:=hide (B0.out.trans (hb1.mono B0.out.size))
 clear hb1
 obtain ⟨d0,d1,d2,d3⟩:=box3 R1.out
 go_wp2_with fail
 have lun:=un_le (d := d) hn
 have lup:=up_le (d := d) hn
 have B3:(sel d (unC d.n)).length + (sel d (upNX d.n d.n)).length ≤ maxLen:=by unfold maxLen; omega
 have C3:((sel d (unC d.n)).length + (sel d (upNX d.n d.n)).length) * 40 ≤ 140737488355328:=by omega
 obtain ⟨n0,hn0,hz0,hz1,hz2⟩:=info_parts moveInfo
 have hw1:w.heap.size < w1.heap.size:=R1.out.lt
 have HG1:=hide (show DgAt w1.drew A B d from ⟨(HG.out.keep B1.out).s,(HG.out.keep B1.out).m⟩)
 go_region_law
  (first
    | (refine step_append_src _ ?_ (.tmp 7) (.tmp 9) 27 ?_ b 43 n0 (.agg #[.int .i64 0, .int .i64 0, .int .i64 0, .int .i64 0, .bool false]) 40 Tryz.underlying27 hn0 hz0 hz1 hz2 rfl v3 _ _ ?_ Q4.out.o A4 _ c4 _ ?_ S4.out B3 C3 Q4.out.lo2 ?_
       ·rfl
       ·rfl
       ·rfl
       ·rfl
       intro v5 w5 own5 grow5
       have Q5:=hide (Q4.out.app own5 grow5)
       clear own5 grow5)
    | (go_simp
       go_wp2_with (first
        | ((go_at_call 55); refine Calls.mono (uncurls_any d HW.out A B cp cq m _ HM.out HG1.out) ?_; rintro e w3 ⟨v3,rfl,⟨b,hlb,hlb2,own3⟩,hb3⟩; rw [un_sel d _ (Nat.le_refl _)] at own3; have Q3 := hide (show AL w [.slice A d.n cp,.slice B m cq,.int .i64 (d.lp:Int)] b v3 (sel d (unC d.n)) w3 from ⟨R1.out.drew.below hb3,own3,B1.out.drew.trans (hb3.mono B1.out.size),Nat.lt_of_lt_of_le hw1 hlb,hlb2⟩); obtain ⟨e0,e1,e2,e3⟩:=box3 Q3.out.d; clear own3 hb3)
        | ((go_at_call 56); refine Calls.mono (unpokes_any d HW.out A B cp cq m _ HM.out (HG.out.keep Q3.out.bel)) ?_; rintro e w4 ⟨v4,rfl,hv4,hb4⟩; rw [up_sel] at hv4; obtain ⟨A4,c4,rfl,src4⟩:=hv4.at.src; have Q4 := hide (Q3.out.below hb4); have S4 := hide src4; clear hb4 hv4 src4))))
 all_goals
  go_wp2
  go_ret
  exact ⟨v5,rfl,⟨b,by have := Q5.out.lo; omega,Q5.out.lo2,Q5.out.o⟩,Q5.out.bel⟩
end Go.Proofs.YtghdiolnonejaaaGreatDoor
end
section
namespace Go.Proofs.YtghdiolnonejaaaGreatDoor
open Go Go.RowKit
theorem mem_unC {n:Nat} {z:Mv}:∀ k,k ≤ n → (z ∈ unC k ↔ z.kind = 2 ∧ inR n z ∧ z.x < (k:Int))
 | 0, _ => by
   constructor
   ·intro h; cases h
   ·rintro ⟨h1,h2,h3⟩
    unfold inR at h2
    rw [if_neg (by omega),if_pos h1] at h2
    omega
 | k + 1, h => by
   show z ∈ unC k ++ [⟨2,k,0,0,false⟩] ↔ _
   rw [List.mem_append,mem_unC (n := n) k (by omega)]
   obtain ⟨zk,zx,zy,zs,zo⟩:=z
   constructor
   ·rintro (⟨h1,h2,h3⟩ | h1)
    ·exact ⟨h1,h2,by simp only at h3 ⊢; omega⟩
    ·simp only [List.mem_cons,List.not_mem_nil,or_false,Mv.mk.injEq] at h1
     obtain ⟨rfl,rfl,rfl,rfl,rfl⟩:=h1
     refine ⟨rfl,?_,by simp only; omega⟩
     unfold inR
     simp
     omega
   ·rintro ⟨h1,h2,h3⟩
    by_cases hx:zx < (k:Int)
    ·exact .inl ⟨h1,h2,hx⟩
    ·right
     unfold inR at h2
     rw [if_neg (by omega),if_pos h1] at h2
     simp only at h1 h2 h3
     simp only [List.mem_cons,List.not_mem_nil,or_false,Mv.mk.injEq]
     exact ⟨h1,by omega,h2.2.2.1,h2.2.2.2.1,h2.2.2.2.2⟩
theorem mem_upN {n x:Nat} {z:Mv}:∀ k,k ≤ n → (z ∈ upN x k ↔ z.kind = 4 ∧ inR n z ∧ z.x = (x:Int) ∧ z.y < (k:Int))
 | 0, _ => by
   constructor
   ·intro h; cases h
   ·rintro ⟨h1,h2,h3,h4⟩
    unfold inR at h2
    rw [if_neg (by omega),if_neg (by omega),if_pos h1] at h2
    omega
 | k + 1, h => by
   show z ∈ upN x k ++ (if x < k then [⟨4,x,k,0,false⟩] else []) ↔ _
   rw [List.mem_append,mem_upN (n := n) k (by omega)]
   obtain ⟨zk,zx,zy,zs,zo⟩:=z
   constructor
   ·rintro (⟨h1,h2,h3,h4⟩ | h1)
    ·exact ⟨h1,h2,h3,by simp only at h4 ⊢; omega⟩
    ·split at h1
     ·simp only [List.mem_cons,List.not_mem_nil,or_false,Mv.mk.injEq] at h1
      obtain ⟨rfl,rfl,rfl,rfl,rfl⟩:=h1
      refine ⟨rfl,?_,rfl,by simp only; omega⟩
      unfold inR
      simp
      omega
     ·cases h1
   ·rintro ⟨h1,h2,h3,h4⟩
    by_cases hx:zy < (k:Int)
    ·exact .inl ⟨h1,h2,h3,hx⟩
    ·right
     unfold inR at h2
     rw [if_neg (by omega),if_neg (by omega),if_pos h1] at h2
     simp only at h1 h2 h3 h4
     rw [if_pos (by omega)]
     simp only [List.mem_cons,List.not_mem_nil,or_false,Mv.mk.injEq]
     exact ⟨h1,h3,by omega,h2.2.2.2.1,h2.2.2.2.2⟩
theorem mem_upNX {n:Nat} {z:Mv}:∀ k,k ≤ n → (z ∈ upNX n k ↔ z.kind = 4 ∧ inR n z ∧ z.x < (k:Int))
 | 0, _ => by
   constructor
   ·intro h; cases h
   ·rintro ⟨h1,h2,h3⟩
    unfold inR at h2
    rw [if_neg (by omega),if_neg (by omega),if_pos h1] at h2
    omega
 | k + 1, h => by
   show z ∈ upNX n k ++ upN k n ↔ _
   rw [List.mem_append,mem_upNX (n := n) k (by omega),mem_upN (n := n) n (Nat.le_refl _)]
   constructor
   ·rintro (⟨h1,h2,h3⟩ | ⟨h1,h2,h3,h4⟩)
    ·exact ⟨h1,h2,by omega⟩
    ·exact ⟨h1,h2,by omega⟩
   ·rintro ⟨h1,h2,h3⟩
    by_cases hx:z.x < (k:Int)
    ·exact .inl ⟨h1,h2,hx⟩
    ·right
     refine ⟨h1,h2,by omega,?_⟩
     unfold inR at h2
     rw [if_neg (by omega),if_neg (by omega),if_pos h1] at h2
     omega
theorem un_kind {d:Pl.Dg} {z:Mv} (h:z ∈ sel d (unC d.n)):z.kind = 2 := ((mem_unC _ (Nat.le_refl _)).1 (mem_sel.1 h).1).1
theorem up_kind {d:Pl.Dg} {z:Mv} (h:z ∈ sel d (upNX d.n d.n)):z.kind = 4 := ((mem_upNX _ (Nat.le_refl _)).1 (mem_sel.1 h).1).1
end Go.Proofs.YtghdiolnonejaaaGreatDoor
end
section
namespace Go.Proofs.YtghdiolnonejaaaGreatDoor
open Go Go.RowKit
attribute [local go_sem ↓] Go.wp_at_zero Go.wp_at_succ
section
variable {w W W' W2:World} {vR vS:Value} {rs ss:List Mv} {m:Mv} {g n c:Nat}
theorem apart {v u:Value} (ne:∀ g,v.ownBlock = some g → u.ownBlock = some g → False):u.ownBlock = none ∨ u.ownBlock ≠ v.ownBlock := by
 cases hu:u.ownBlock with
 | none => exact .inl rfl
 | some g => exact .inr (fun e => ne g e.symm hu)
end
theorem remL_le {d:Pl.Dg} (hn:d.n ≤ 64):(remL d).length ≤ 5000 := by
 have b:=un_le (d := d) hn
 have e:=up_le (d := d) hn
 unfold remL
 rw [List.length_append]
 omega
end Go.Proofs.YtghdiolnonejaaaGreatDoor
end
section
namespace Go.Proofs.YtghdiolnonejaaaGreatDoor
open Go Go.RowKit
theorem apC_zero {d:Pl.Dg} {m:Mv} (h:apC d m = 0):(1 ≤ m.kind ∧ m.kind ≤ 5) ∧ inR d.n m ∧
 (if m.kind = 1 then curlableC d m.x else if m.kind = 2 then uncC d m.x.toNat else if m.kind = 3 then pkQ d m.x m.y m.sign else if m.kind = 4 then unpC d m.x.toNat m.y.toNat else sldC d m.x.toNat) = 0 := by
 unfold apC at h
 by_cases hk:m.kind < 1 ∨ 5 < m.kind
 ·rw [if_pos hk] at h; exact absurd h (by decide)
 ·rw [if_neg hk] at h
  by_cases hv:Pl.vb (inR d.n m) = false
  ·rw [if_pos hv] at h; exact absurd h (by decide)
  ·rw [if_neg hv] at h
   exact ⟨by omega,Pl.vb_iff.1 (by simpa using hv),h⟩
theorem crl_ok {d:Pl.Dg} (hd:Pl.Valid d) {x s:Int} {ov:Bool} (hx:-1 ≤ x ∧ x < 4 * d.n) (hs:s = 1 ∨ s = -1) (h:curlableC d x = 0):Pl.Valid (crl d x s ov) ∧ Pl.Same d (crl d x s ov) := by
 unfold curlableC at h
 obtain ⟨a1,a2,a3,a4,n1,n2,n3,n4,n5,n6⟩:=(kq d.n s ov hs).bd
 have hl:=hd.wf.len
 by_cases hx0:x < 0
 ·rw [if_pos hx0] at h
  have hlp:¬ d.lp = 0:=fun e => by rw [if_pos e] at h; exact absurd h (by decide)
  rw [if_neg hlp] at h
  have hn:d.n + 1 ≤ 64:=Nat.le_of_not_lt fun e => by unfold fullC at h; rw [if_pos e] at h; exact absurd h (by decide)
  have hv:=crl_loop hd (x := x) (ov := ov) hs hn hx0
  have hm:=crl_mloop hd.wf (x := x) (ov := ov) hs hx0
  refine ⟨hv,Pl.Kd.same0 hd hv (crl_kd hd.wf hs hn ?_ ?_) (fun h hh => ?_) ?_ ?_⟩
  ·rw [hm,if_neg (Ne.symm n1),if_neg n5,if_neg n4,if_pos rfl]
  ·rw [hm,if_neg (Ne.symm n2),if_neg n6,if_pos rfl]
  ·rw [hm,if_neg (by omega),if_neg (by omega),if_neg (by omega),if_neg (by omega),app_m (by omega)]; rfl
  ·rw [hm,if_pos rfl]
  ·show d.lp = (if x < 0 then d.lp - 1 else d.lp) + 1
   rw [if_pos hx0]; omega
 ·rw [if_neg hx0] at h
  obtain ⟨k,rfl⟩:=Int.eq_ofNat_of_zero_le (Int.not_lt.1 hx0)
  have hk:k < 4 * d.n:=by omega
  rw [Int.toNat_natCast] at h
  by_cases ho:Pl.out d k = true
  ·rw [if_pos ho] at h
   have hn:d.n + 1 ≤ 64:=Nat.le_of_not_lt fun e => by unfold fullC at h; rw [if_pos e] at h; exact absurd h (by decide)
   have hv:=crl_edge hd (ov := ov) hs hn hk ho
   have hy:=hd.wf.lt k hk
   have hne:=hd.wf.ne k hk
   have e:(crl d (k:Int) s ov).mt = jn (jn (jn (d.mt ++ List.replicate 4 0) (kO0 d.n s ov) (kI1 d.n s ov)) (kO1 d.n s ov) (d.m k)) k (kI0 d.n s ov):=by
    unfold crl; simp only [if_neg (show ¬ ((k:Int) < 0) by omega),Int.toNat_natCast]
   have hm:∀ z,(crl d (k:Int) s ov).m z = if z = kI0 d.n s ov then k else if z = k then kI0 d.n s ov else if z = d.m k then kO1 d.n s ov else if z = kO1 d.n s ov then d.m k else if z = kI1 d.n s ov then kO0 d.n s ov else if z = kO0 d.n s ov then kI1 d.n s ov else (d.mt ++ List.replicate 4 0).getD z z:=fun z => by
    show (crl d (k:Int) s ov).mt.getD z z = _
    rw [e,jn_m _ _ _ _ _ (by rw [jn_len,jn_len]; simp; omega) (by rw [jn_len,jn_len]; simp; omega),jn_m _ _ _ _ _ (by rw [jn_len]; simp; omega) (by rw [jn_len]; simp; omega),jn_m _ _ _ _ _ (by simp; omega) (by simp; omega)]
   refine ⟨hv,Pl.Kd.same hd hv (crl_kd hd.wf hs hn ?_ ?_) hk (fun h hh h1 h2 => ?_) ?_ ?_ ?_ ?_ ?_⟩
   ·rw [hm,if_neg (Ne.symm n1),if_neg (by omega),if_neg (by omega),if_neg n5,if_neg n4,if_pos rfl]
   ·rw [hm,if_neg (Ne.symm n2),if_neg (by omega),if_neg (by omega),if_neg n6,if_pos rfl]
   ·rw [hm,if_neg (by omega),if_neg h1,if_neg h2,if_neg (by omega),if_neg (by omega),if_neg (by omega),app_m (by omega)]; rfl
   ·rw [hm,if_neg (Ne.symm n3),if_neg (by omega),if_neg (by omega),if_pos rfl]
   ·rw [hm,if_neg (by omega),if_neg hne,if_pos rfl]
   ·rw [hm,if_neg (by omega),if_pos rfl]
   ·rw [hm,if_pos rfl]
   ·show d.lp = if (k:Int) < 0 then d.lp - 1 else d.lp
    rw [if_neg (by omega)]
  ·rw [if_neg ho] at h; exact absurd h (by decide)
theorem kk_div (d:Pl.Dg) (c:Nat):kk d c / 4 = c := by unfold kk; split <;> (try split) <;> omega
theorem jn_jl (l:List Nat) (a b:Nat):jn l a b = Pl.jl l a b := rfl
theorem unD_ok {d:Pl.Dg} (hd:Pl.Valid d) {c:Nat} (hc:c < d.n) (h:uncC d c = 0):Pl.Valid (unD d c) ∧ Pl.Same d (unD d c) := by
 have hw:=hd.wf
 have ho:=kk_lt hc
 have hod:=kk_div d c
 unfold uncC at h
 by_cases hk:d.m (kk d c) / 4 = c
 ·rw [if_pos hk] at h
  have hk2:d.m (kk d c) / 4 = kk d c / 4:=by rw [hod,hk]
  unfold unD unM
  by_cases hn:d.m (kA d c) = kB d c
  ·rw [if_pos hn] at h
   have hl:d.lp + 1 ≤ 64:=Nat.le_of_not_lt fun e => by rw [if_pos e] at h; exact absurd h (by decide)
   rw [if_pos hn,if_pos hn]
   have v:=Pl.kink_valid0 hd ho hk2 hn hl
   have s:=Pl.kink_same0 hd ho hk2 hn hl rfl
   rw [hod] at v s
   exact ⟨v,s⟩
  ·rw [if_neg hn,if_neg hn]
   have hA:=kA_lt hc
   have hB:=kB_lt hw hc
   have nAB:d.m (kA d c) ≠ d.m (kB d c):=fun e => hw.ne _ ho (Pl.tn_inj (hw.bij.inj _ _ hA hB e).symm)
   have hmt:∀ z,z < 4 * d.n → (jn d.mt (d.m (kA d c)) (d.m (kB d c))).getD z 0 = if z = d.m (kA d c) then d.m (kB d c) else if z = d.m (kB d c) then d.m (kA d c) else d.m z:=fun z hz => by
    rw [jn_jl,Pl.jl_at (by rw [hw.len]; exact hw.lt _ hA) (by rw [hw.len]; exact hw.lt _ hB),Pl.dg_m hw hz]
    by_cases z1:z = d.m (kB d c)
    ·rw [if_pos z1,if_neg (fun e => nAB (e.symm.trans z1)),if_pos z1]
    ·rw [if_neg z1,if_neg z1]
   have v:=Pl.kink_valid hd ho hk2 hn hw.lp hmt
   have s:=Pl.kink_same hd ho hk2 hn hw.lp rfl hmt
   rw [hod] at v s
   exact ⟨v,s⟩
 ·rw [if_neg hk] at h; exact absurd h (by decide)
theorem lens_lens {d:Pl.Dg} (hd:Pl.Wf d) {x y i:Nat} (hxy:x < y) (hy:y < d.n) (h:lensI d x y = some i) :
 Pl.Lens d (lnH x y i) (d.m (lnH x y i)) ∧ ((x = lnH x y i / 4 ∧ y = d.m (lnH x y i) / 4) ∨ (x = d.m (lnH x y i) / 4 ∧ y = lnH x y i / 4)) ∧ Pl.nx d (lnH x y i) = Pl.tn (d.m (lnH x y i)) 3 ∧ d.m (Pl.tn (d.m (lnH x y i)) 3) = Pl.tn (lnH x y i) 1 := by
 obtain ⟨h1,h2,h3⟩:=lens_is h
 have hi:=lens_lt h
 have hl:lnH x y i < 4 * d.n:=by unfold lnH; split <;> omega
 have hu:=hd.lt _ hl
 have e1:d.m (Pl.tn (d.m (lnH x y i)) 3) = Pl.tn (lnH x y i) 1:=by
  unfold Pl.nx at h2
  unfold Pl.tn at h2 ⊢
  omega
 have e2:Pl.nx d (lnH x y i) / 4 = d.m (lnH x y i) / 4:=by unfold Pl.nx; rw [Pl.tn_div]
 have e3:lnH x y i / 4 = if i < 4 then x else y:=by unfold lnH; split <;> omega
 rw [e2] at h1
 unfold lnO at h1
 have hp:(x = lnH x y i / 4 ∧ y = d.m (lnH x y i) / 4) ∨ (x = d.m (lnH x y i) / 4 ∧ y = lnH x y i / 4):=by
  by_cases h4:i < 4
  ·rw [if_pos h4] at h1 e3; exact .inl ⟨e3.symm,h1.symm⟩
  ·rw [if_neg h4] at h1 e3; exact .inr ⟨h1.symm,e3.symm⟩
 refine ⟨⟨hl,rfl,by rw [← e1,hd.inv _ (Pl.tn_lt hu)],fun e => ?_⟩,hp,rfl,e1⟩
 rcases hp with ⟨a,b⟩ | ⟨a,b⟩ <;> omega
theorem unp_at {d:Pl.Dg} (hd:Pl.Valid d) {h u:Nat} (L:Pl.Lens d h u) (l:Ln) (e2:l.p2 = Pl.tn h 2) (e3:l.p3 = Pl.tn h 3) (f0:l.q0 = Pl.tn u 2) (f3:l.q3 = Pl.tn u 1) :
 unpL d l = d.lp + (if d.m (Pl.tn h 2) = Pl.tn u 2 then 1 else 0) + (if Pl.lA d h u (Pl.tn h 3) = Pl.tn u 1 then 1 else 0) ∧
 ∀ z,z < 4 * d.n → z / 4 ≠ h / 4 → z / 4 ≠ u / 4 → (unpB d l).getD z 0 = Pl.lB d h u z := by
 have hw:=hd.wf
 have hh:=L.hh
 have hu:=L.hu hw
 have A:=L.la hd
 have E:=L.ne
 have hA:Pl.tn h 2 < 4 * d.n:=Pl.tn_lt hh
 have hB:Pl.tn u 2 < 4 * d.n:=Pl.tn_lt hu
 have h3:Pl.tn h 3 < 4 * d.n:=Pl.tn_lt hh
 have u1:Pl.tn u 1 < 4 * d.n:=Pl.tn_lt hu
 have al:∀ z,z < 4 * d.n → z ≠ Pl.tn h 2 → z ≠ Pl.tn u 2 → (unpA d l).getD z 0 = Pl.lA d h u z:=fun z hz z1 z2 => by
  unfold unpA
  rw [e2,f0,Pl.dg_m hw hA,Pl.dg_m hw hB]
  by_cases c:d.m (Pl.tn h 2) = Pl.tn u 2
  ·rw [if_pos c,Pl.Lens.lA_c c,Pl.dg_m hw hz]
  ·rw [if_neg c,jn_jl,Pl.jl_at (by rw [hw.len]; exact hw.lt _ hA) (by rw [hw.len]; exact hw.lt _ hB),Pl.dg_m hw hz]
   obtain ⟨b1,b2,b3⟩:=L.lA_e hw c
   by_cases z4:z = d.m (Pl.tn u 2)
   ·rw [if_pos z4,z4,b2]
   ·rw [if_neg z4]
    by_cases z3:z = d.m (Pl.tn h 2)
    ·rw [if_pos z3,z3,b1]
    ·rw [if_neg z3,b3 z z1 z2 z3 z4]
 have alen:(unpA d l).length = 4 * d.n:=by unfold unpA; split <;> simp [jn_len,hw.len]
 have a3:=al (Pl.tn h 3) h3 (Pl.tn_ne (by omega)) (Pl.pm E)
 have a1:=al (Pl.tn u 1) u1 (Ne.symm (Pl.pm E)) (Pl.tn_ne (by omega))
 constructor
 ·unfold unpL
  rw [e2,f0,e3,f3,Pl.dg_m hw hA,a3]
 ·intro z hz n1 n2
  have z0:∀ k,z ≠ Pl.tn h k:=fun k e => n1 (by rw [e,Pl.tn_div])
  have z1:∀ k,z ≠ Pl.tn u k:=fun k e => n2 (by rw [e,Pl.tn_div])
  unfold unpB
  rw [e3,f3,a3,a1]
  by_cases c:Pl.lA d h u (Pl.tn h 3) = Pl.tn u 1
  ·rw [if_pos c,Pl.Lens.lB_c c,al z hz (z0 2) (z1 2)]
  ·rw [if_neg c,jn_jl,Pl.jl_at (by rw [alen]; exact A.hm.ab.maps _ h3) (by rw [alen]; exact A.hm.ab.maps _ u1),al z hz (z0 2) (z1 2)]
   obtain ⟨b1,b2,b3⟩:=L.lB_e hd c
   by_cases z4:z = Pl.lA d h u (Pl.tn u 1)
   ·rw [if_pos z4,z4,b2]
   ·rw [if_neg z4]
    by_cases z3:z = Pl.lA d h u (Pl.tn h 3)
    ·rw [if_pos z3,z3,b1]
    ·rw [if_neg z3,b3 z (z0 3) (z1 1) z3 z4]
theorem unpD_ok {d:Pl.Dg} (hd:Pl.Valid d) {x y:Nat} (hxy:x < y) (hy:y < d.n) (h:unpC d x y = 0):Pl.Valid (unpD d x y) ∧ Pl.Same d (unpD d x y) := by
 unfold unpC at h
 unfold unpD
 cases hL:lensI d x y with
 | none => rw [hL] at h; exact absurd (show (6:Int) = 0 from h) (by decide)
 | some i =>
   rw [hL] at h
   have h':(if 64 < unpL d (lensOf d (lnH x y i)) then (5:Int) else 0) = 0:=h
   have hl:unpL d (lensOf d (lnH x y i)) ≤ 64:=Nat.le_of_not_lt fun e => by rw [if_pos e] at h'; exact absurd h' (by decide)
   obtain ⟨L,hp,e1,e2⟩:=lens_lens hd.wf hxy hy hL
   obtain ⟨g1,g2⟩:=unp_at hd L (lensOf d (lnH x y i)) rfl (by show Pl.tn (d.m (Pl.nx d (lnH x y i))) 2 = _; rw [e1,e2]; exact Pl.tn12 _) rfl (by show Pl.tn (Pl.nx d (lnH x y i)) 2 = _; rw [e1]; exact Pl.tn32 _)
   have hmt:∀ z,Pl.stay d [x,y] z → (unpB d (lensOf d (lnH x y i))).getD z 0 = Pl.lB d (lnH x y i) (d.m (lnH x y i)) z:=fun z hz => by
    have hz2:¬ (z / 4 = x ∨ z / 4 = y):=by have := hz.2; simpa using this
    refine g2 z hz.1 ?_ ?_ <;> rcases hp with ⟨a,b⟩ | ⟨a,b⟩ <;> omega
   exact ⟨L.valid hd hxy hp hl hmt,L.same hd hxy hp hl g1 hmt⟩
theorem sldD_ok {d:Pl.Dg} (hd:Pl.Valid d) {h:Nat} (hh:h < 4 * d.n) (hi:is3 d h):Pl.Valid (sldD d h) ∧ Pl.Same d (sldD d h) :=
 have hw:=(Pl.Valid.iff.1 hd).1
 ⟨sld_valid hd hh hi,(tr_of hh hi).same hd rfl rfl (sF_len hw h 3) (sld_m hw hh hi)⟩
end Go.Proofs.YtghdiolnonejaaaGreatDoor
end
section
namespace Go.Proofs.YtghdiolnonejaaaGreatDoor
open Go Go.RowKit
theorem fwd_nat (d:Pl.Dg) (x:Nat):fwd d (x:Int) = Pl.out d x := by
 unfold fwd
 rw [if_neg (by omega),if_pos (by omega),Int.toNat_natCast]
theorem plc_pp (n s t:Nat) (h:s ≤ 4):plc n s t = Pl.pp n (4 - s) t := by unfold plc Pl.pp; omega
theorem unS_le (d:Pl.Dg) (x y:Int) (ov:Bool):un0 d x y ov ≤ 4 ∧ un1 d x y ov ≤ 4 := by
 unfold un0 un1 lnS th0 th1
 cases ov <;> cases fwd d x <;> cases fwd d y <;> decide
def pkF (d:Pl.Dg) (x y:Int) (ov:Bool):Nat := 4 - un0 d x y ov
def pkG (d:Pl.Dg) (x y:Int) (ov:Bool):Nat := 4 - un1 d x y ov
theorem pP_pp (d:Pl.Dg) (x y:Int) (ov:Bool) (t:Nat):pP d x y ov t = Pl.pp d.n (pkF d x y ov) t := plc_pp _ _ _ (unS_le d x y ov).1
theorem pQ_pp (d:Pl.Dg) (x y:Int) (ov:Bool) (t:Nat):pQ d x y ov t = Pl.pp (d.n + 1) (pkG d x y ov) t := plc_pp _ _ _ (unS_le d x y ov).2
theorem pk0_l0 (d:Pl.Dg) (x y:Int) (ov:Bool):pk0 d x y ov = Pl.pkL0 d (pkF d x y ov) (pkG d x y ov) := by
 unfold pk0 Pl.pkL0
 rw [pP_pp,pQ_pp,pQ_pp,pP_pp]
 rfl
theorem app_s0 (l:List Int) (a b:Int) (c:Nat) (h:c < l.length):(l ++ [a,b]).getD c 0 = l.getD c 0 := by
 rw [List.getD_eq_getElem?_getD,List.getD_eq_getElem?_getD,List.getElem?_append_left h]
theorem app_s1 (l:List Int) (a b:Int):(l ++ [a,b]).getD l.length 0 = a := by
 rw [List.getD_eq_getElem?_getD,List.getElem?_append_right (Nat.le_refl _)]; simp
theorem app_s2 (l:List Int) (a b:Int):(l ++ [a,b]).getD (l.length + 1) 0 = b := by
 rw [List.getD_eq_getElem?_getD,List.getElem?_append_right (by omega)]; simp
theorem out_pp (d:Pl.Dg) (n f t:Nat):Pl.out d (Pl.pp n f t) = ((t + f) % 4 == 2 || ((t + f) % 4 == 1 && d.s n == 1) || ((t + f) % 4 == 3 && d.s n == -1)) := by
 unfold Pl.out
 rw [show Pl.pp n f t % 4 = (t + f) % 4 by unfold Pl.pp; omega,show Pl.pp n f t / 4 = n by unfold Pl.pp; omega]
theorem pk_pd {d:Pl.Dg} (hd:Pl.Valid d) (x y sg:Int) (ov:Bool) (hn:d.n + 2 ≤ 64) (hl:(pkL d x y sg).toNat ≤ 64):Pl.Pd d (pkD d x y sg ov) (pkF d x y ov) (pkG d x y ov) (fwd d x) (fwd d y) := by
 have s0:(pkD d x y sg ov).s d.n = sgn2 (un0 d x y ov) (ov0 d x y ov):=app_s1 _ _ _
 have s1:(pkD d x y sg ov).s (d.n + 1) = sgn2 (un1 d x y ov) (ov1 d x y ov):=app_s2 _ _ _
 refine ⟨hn,by unfold Pl.Dg.n pkD; simp,hl,fun c hc => app_s0 _ _ _ _ hc,by rw [s0]; unfold sgn2; split <;> simp,by rw [s1]; unfold sgn2; split <;> simp,?_,?_,?_,?_,?_,?_,?_,?_⟩
 all_goals
  rw [out_pp]
  first
   | rw [s0]
   | rw [s1]
  try unfold pkF
  try unfold pkG
  try unfold sgn2
  try unfold un0
  try unfold un1
  try unfold ov0
  try unfold ov1
  try unfold lnS
  try unfold th0
  try unfold th1
  try unfold plc
  cases ov <;> cases fwd d x <;> cases fwd d y <;> decide
theorem pk_ok {d:Pl.Dg} (hd:Pl.Valid d) {x y sg:Int} {ov:Bool} (hin:inR d.n ⟨3,x,y,sg,ov⟩) (h:pkQ d x y sg = 0):Pl.Valid (pkD d x y sg ov) ∧ Pl.Same d (pkD d x y sg ov) ∧
 ∃ c1 c2,Pl.Out d (pkD d x y sg ov) (pkF d x y ov) (pkG d x y ov) c1 c2 ∧ d.lp = (pkD d x y sg ov).lp + c1 + c2 := by
 have hw:=hd.wf
 have hlp:=hw.lp
 unfold inR at hin
 simp only at hin
 rw [if_neg (by decide),if_neg (by decide),if_neg (by decide),if_neg (by decide)] at hin
 obtain ⟨x1,x2,y1,y2,hs⟩:=hin
 unfold pkQ at h
 have hneed:¬ d.lp < needP x y sg:=fun e => by rw [if_pos e] at h; exact absurd h (by decide)
 rw [if_neg hneed] at h
 have hnear:¬ Pl.vb (0 ≤ x ∧ 0 ≤ y ∧ x ≠ y ∧ ¬ nearP d x.toNat y.toNat) = true:=fun e => by rw [if_pos e] at h; exact absurd h (by decide)
 rw [if_neg hnear] at h
 have hn:d.n + 2 ≤ 64:=Nat.le_of_not_lt fun e => by rw [if_pos e] at h; exact absurd h (by decide)
 rw [Pl.vb_iff] at hnear
 unfold needP at hneed
 have mt:(pkD d x y sg ov).mt = pkM d x y sg ov:=rfl
 have lpe:(pkD d x y sg ov).lp = (pkL d x y sg).toNat:=rfl
 by_cases hs0:sg = 0
 ·subst hs0
  have eM:pkM d x y 0 ov = leadM d (leadM d (pk0 d x y ov) y (pQ d x y ov 0) (pP d x y ov 2)) x (pP d x y ov 3) (pQ d x y ov 3):=by
   unfold pkM; rw [if_neg (by simp),if_neg (by decide),if_neg (by decide)]
  rw [eM,pk0_l0,pQ_pp,pP_pp,pP_pp,pQ_pp] at mt
  by_cases hx:x < 0 <;> by_cases hy:y < 0
  ·rw [if_pos hx,if_pos ⟨hy,rfl⟩] at hneed
   have eL:(pkL d x y 0).toNat = d.lp - 2:=by unfold pkL; simp [hx,hy]; try omega
   have K:=pk_pd hd x y 0 ov hn (by rw [eL]; omega)
   have mt':=mt
   unfold leadM at mt'
   rw [if_pos hx,if_pos hy] at mt'
   have Y:=K.yloop hd
   have v:=Y.1.xloop hd K mt'
   have O:=K.out_loops hd v mt'
   exact ⟨v,O.same hd v (by rw [lpe,eL]; omega),1,1,O,by rw [lpe,eL]; omega⟩
  ·obtain ⟨k,rfl⟩:=Int.eq_ofNat_of_zero_le (Int.not_lt.1 hy)
   have hk:k < 4 * d.n:=by omega
   rw [if_pos hx,if_neg (fun e => hy e.1)] at hneed
   have eL:(pkL d x (k:Int) 0).toNat = d.lp - 1:=by unfold pkL; simp [hx,hy]; try omega
   have K:=pk_pd hd x (k:Int) 0 ov hn (by rw [eL]; omega)
   have mt':=mt
   unfold leadM at mt'
   rw [if_pos hx,if_neg hy,Int.toNat_natCast] at mt'
   obtain ⟨b,Y,_⟩:=K.yedge hd hk (fwd_nat d k).symm
   have v:=Y.xloop hd K mt'
   have O:=K.out_yedge hd v hk mt'
   exact ⟨v,O.same hd v (by rw [lpe,eL]; omega),0,1,O,by rw [lpe,eL]; omega⟩
  ·obtain ⟨k,rfl⟩:=Int.eq_ofNat_of_zero_le (Int.not_lt.1 hx)
   have hk:k < 4 * d.n:=by omega
   rw [if_neg hx,if_pos ⟨hy,rfl⟩] at hneed
   have eL:(pkL d (k:Int) y 0).toNat = d.lp - 1:=by unfold pkL; simp [hx,hy]; try omega
   have K:=pk_pd hd (k:Int) y 0 ov hn (by rw [eL]; omega)
   have mt':=mt
   unfold leadM at mt'
   rw [if_neg hx,if_pos hy,Int.toNat_natCast] at mt'
   have Y:=K.yloop hd
   have v:=Y.1.xedge0 hd K Y.2 hk (fwd_nat d k).symm mt'
   have O:=K.out_xedge hd v hk mt'
   exact ⟨v,O.same hd v (by rw [lpe,eL]; omega),1,0,O,by rw [lpe,eL]; omega⟩
  ·obtain ⟨k,rfl⟩:=Int.eq_ofNat_of_zero_le (Int.not_lt.1 hx)
   obtain ⟨j,rfl⟩:=Int.eq_ofNat_of_zero_le (Int.not_lt.1 hy)
   have hk:k < 4 * d.n:=by omega
   have hj:j < 4 * d.n:=by omega
   have hne:(k:Int) ≠ (j:Int):=fun e => by rw [if_neg (fun n => n e),if_neg hx] at hs; omega
   have hkj:k ≠ j:=fun e => hne (by rw [e])
   have near:nearP d k j:=Classical.byContradiction fun e => hnear ⟨by omega,by omega,hne,by rw [Int.toNat_natCast,Int.toNat_natCast]; exact e⟩
   have eL:(pkL d (k:Int) (j:Int) 0).toNat = d.lp:=by unfold pkL; simp [hx,hy]
   have K:=pk_pd hd (k:Int) (j:Int) 0 ov hn (by rw [eL]; omega)
   have mt':=mt
   unfold leadM at mt'
   rw [if_neg hx,if_neg hy,Int.toNat_natCast,Int.toNat_natCast] at mt'
   have v:=K.edges hd hk hj (fwd_nat d k).symm (fwd_nat d j).symm hkj near.2 near.1 mt'
   have O:=K.out_edges hd v hk hj hkj near.2 mt'
   exact ⟨v,O.same hd v (by rw [lpe,eL]; omega),0,0,O,by rw [lpe,eL]; omega⟩
 ·have hxy:x = y:=Classical.byContradiction fun e => hs0 (by rw [if_pos e] at hs; exact hs)
  subst hxy
  rw [if_neg (by simp)] at hs
  by_cases hx:x < 0
  ·rw [if_pos hx] at hs
   have eM:pkM d x x sg ov = jn (jn (pk0 d x x ov) (pQ d x x ov 3) (pQ d x x ov 0)) (pP d x x ov 2) (pP d x x ov 3):=by unfold pkM; rw [if_pos ⟨hs0,hx⟩]
   rw [eM,pk0_l0,pQ_pp,pQ_pp,pP_pp,pP_pp] at mt
   rw [if_pos hx,if_neg (fun e => hs0 e.2)] at hneed
   have eL:(pkL d x x sg).toNat = d.lp - 1:=by unfold pkL; rw [if_pos ⟨hs0,hx⟩]; omega
   have K:=pk_pd hd x x sg ov hn (by rw [eL]; omega)
   have v:=K.self0 hd mt
   have O:=K.out_self0 hd v mt
   exact ⟨v,O.same hd v (by rw [lpe,eL]; omega),0,1,O,by rw [lpe,eL]; omega⟩
  ·rw [if_neg hx] at hs
   obtain ⟨k,rfl⟩:=Int.eq_ofNat_of_zero_le (Int.not_lt.1 hx)
   have hk:k < 4 * d.n:=by omega
   have eL:(pkL d (k:Int) (k:Int) sg).toNat = d.lp:=by unfold pkL; rw [if_neg (fun e => hx e.2),if_neg hs0]; omega
   have K:=pk_pd hd (k:Int) (k:Int) sg ov hn (by rw [eL]; omega)
   rcases hs with rfl | rfl
   ·have eM : pkM d (k : Int) (k : Int) 1 ov = jn (jn (jn (pk0 d (k : Int) (k : Int) ov) k (pP d (k : Int) (k : Int) ov 3)) (pQ d (k : Int) (k : Int) ov 3) (pQ d (k : Int) (k : Int) ov 0)) (pP d (k : Int) (k : Int) ov 2) (d.m k) := by
     unfold pkM; rw [if_neg (fun e => hx e.2),if_pos rfl,Int.toNat_natCast]
    rw [eM,pk0_l0,pQ_pp,pQ_pp,pP_pp,pP_pp] at mt
    have v:=K.self1 hd hk (fwd_nat d k).symm mt
    have O:=K.out_self1 hd v hk mt
    exact ⟨v,O.same hd v (by rw [lpe,eL]; omega),0,0,O,by rw [lpe,eL]; omega⟩
   ·have eM : pkM d (k : Int) (k : Int) (-1) ov = jn (jn (jn (pk0 d (k : Int) (k : Int) ov) k (pQ d (k : Int) (k : Int) ov 0)) (pP d (k : Int) (k : Int) ov 2) (pP d (k : Int) (k : Int) ov 3)) (pQ d (k : Int) (k : Int) ov 3) (d.m k) := by
     unfold pkM; rw [if_neg (fun e => hx e.2),if_neg (by decide),if_pos rfl,Int.toNat_natCast]
    rw [eM,pk0_l0,pQ_pp,pQ_pp,pP_pp,pP_pp] at mt
    have v:=K.self2 hd hk (fwd_nat d k).symm mt
    have O:=K.out_self2 hd v hk mt
    exact ⟨v,O.same hd v (by rw [lpe,eL]; omega),0,0,O,by rw [lpe,eL]; omega⟩
theorem ap_ok {d:Pl.Dg} (hd:Pl.Valid d) {m:Mv} (h:apC d m = 0):Pl.Valid (apD d m) ∧ Pl.Same d (apD d m) := by
 obtain ⟨hk,hin,hc⟩:=apC_zero h
 obtain ⟨k,x,y,s,o⟩:=m
 simp only at hk hc
 have hk5:k = 1 ∨ k = 2 ∨ k = 3 ∨ k = 4 ∨ k = 5:=by omega
 rcases hk5 with rfl | rfl | rfl | rfl | rfl
 ·have hb:(-1 ≤ x ∧ x < 4 * d.n) ∧ (s = 1 ∨ s = -1):=by unfold inR at hin; simp at hin; exact ⟨⟨hin.1,hin.2.1⟩,hin.2.2.2⟩
  exact crl_ok hd hb.1 hb.2 hc
 ·obtain ⟨c,rfl⟩:=Int.eq_ofNat_of_zero_le (show 0 ≤ x by unfold inR at hin; simp at hin; omega)
  have hcn:c < d.n:=by unfold inR at hin; simp at hin; omega
  exact unD_ok hd hcn hc
 ·have:=pk_ok hd hin hc
  exact ⟨this.1,this.2.1⟩
 ·obtain ⟨a,rfl⟩:=Int.eq_ofNat_of_zero_le (show 0 ≤ x by unfold inR at hin; simp at hin; omega)
  obtain ⟨b,rfl⟩:=Int.eq_ofNat_of_zero_le (show 0 ≤ y by unfold inR at hin; simp at hin; omega)
  have hab:a < b ∧ b < d.n:=by unfold inR at hin; simp at hin; omega
  exact unpD_ok hd hab.1 hab.2 hc
 ·obtain ⟨c,rfl⟩:=Int.eq_ofNat_of_zero_le (show 0 ≤ x by unfold inR at hin; simp at hin; omega)
  have hcn:c < 4 * d.n:=by unfold inR at hin; simp at hin; omega
  have hc':sldC d c = 0:=hc
  have ht:isT d c:=Classical.byContradiction fun e => by unfold sldC at hc'; rw [if_neg e] at hc'; exact absurd hc' (by decide)
  exact sldD_ok hd hcn ht.1
end Go.Proofs.YtghdiolnonejaaaGreatDoor
end
section
namespace Go.Proofs.YtghdiolnonejaaaGreatDoor
open Go Go.RowKit
noncomputable def dn:Nat → Pl.Dg → Pl.Dg × List Mv
 | 0,d => (d,[])
 | k + 1, d => match remL d with
   | [] => (d,[])
   | z :: _ => ((dn k (apD d z)).1,z :: (dn k (apD d z)).2)
noncomputable def dnD (d:Pl.Dg):Pl.Dg := (dn d.n d).1
noncomputable def dnM (d:Pl.Dg):List Mv := (dn d.n d).2
theorem dn_none {d:Pl.Dg} (h:remL d = []):∀ k,dn k d = (d,[])
 | 0 => rfl
 | k + 1 => by unfold dn; rw [h]
theorem dn_some {d:Pl.Dg} {z:Mv} {l:List Mv} (h:remL d = z :: l) (k:Nat):dn (k + 1) d = ((dn k (apD d z)).1,z :: (dn k (apD d z)).2) := by
 rw [dn,h]
theorem rem_ok {d:Pl.Dg} {z:Mv} (h:z ∈ remL d):apC d z = 0 ∧ (z.kind = 2 ∨ z.kind = 4) := by
 unfold remL at h
 rcases List.mem_append.1 h with h | h
 ·exact ⟨(mem_sel.1 h).2,.inl (un_kind h)⟩
 ·exact ⟨(mem_sel.1 h).2,.inr (up_kind h)⟩
theorem rem_less {d:Pl.Dg} (hd:Pl.Valid d) {z:Mv} (h:z ∈ remL d):(apD d z).n + 1 ≤ d.n := by
 obtain ⟨h1,h2⟩:=rem_ok h
 have e:((apD d z).n:Int) = (d.n:Int) + moreK z:=(signs_law hd z h1).2.1
 obtain ⟨a,ha⟩:∃ a,a = (apD d z).n := ⟨_,rfl⟩
 obtain ⟨b,hb⟩:∃ b,b = d.n := ⟨_,rfl⟩
 rw [← ha,← hb] at e ⊢
 unfold moreK at e
 rcases h2 with h2 | h2 <;> simp [h2] at e <;> omega
theorem rem_flat {d:Pl.Dg} (hn:d.n = 0):remL d = [] := by
 unfold remL
 rw [hn]
 rfl
theorem dn_more {d:Pl.Dg} (hd:Pl.Valid d):∀ k,d.n ≤ k → dn k d = dn d.n d := by
 suffices h:∀ n,∀ d:Pl.Dg,Pl.Valid d → d.n ≤ n → ∀ k j,d.n ≤ k → d.n ≤ j → dn k d = dn j d from fun k hk => h d.n d hd (Nat.le_refl _) k d.n hk (Nat.le_refl _)
 intro n
 induction n with
 | zero =>
   intro d hd h0 k j _ _
   have e:=rem_flat (d := d) (by omega)
   rw [dn_none e,dn_none e]
 | succ n ih =>
   intro d hd hn k j hk hj
   cases hr:remL d with
   | nil => rw [dn_none hr,dn_none hr]
   | cons z l =>
     have hz:z ∈ remL d:=by rw [hr]; exact List.mem_cons_self
     have hl:=rem_less hd hz
     have hv:=(ap_ok hd (rem_ok hz).1).1
     obtain ⟨k',rfl⟩:∃ k',k = k' + 1 := ⟨k - 1,by omega⟩
     obtain ⟨j',rfl⟩:∃ j',j = j' + 1 := ⟨j - 1,by omega⟩
     rw [dn_some hr,dn_some hr,ih _ hv (by omega) k' j' (by omega) (by omega)]
theorem dn_next {d:Pl.Dg} (hd:Pl.Valid d) {z:Mv} {l:List Mv} (h:remL d = z :: l):dnD d = dnD (apD d z) ∧ dnM d = z :: dnM (apD d z) := by
 have hz:z ∈ remL d:=by rw [h]; exact List.mem_cons_self
 have hl:=rem_less hd hz
 have hv:=(ap_ok hd (rem_ok hz).1).1
 obtain ⟨k,hk⟩:∃ k,d.n = k + 1 := ⟨d.n - 1,by omega⟩
 unfold dnD dnM
 rw [hk,dn_some h,dn_more hv k (by omega)]
 exact ⟨rfl,rfl⟩
theorem dn_stop {d:Pl.Dg} (h:remL d = []):dnD d = d ∧ dnM d = [] := by
 unfold dnD dnM
 rw [dn_none h]
 exact ⟨rfl,rfl⟩
theorem dnM_nil {d:Pl.Dg} (hd:Pl.Valid d):dnM d = [] ↔ remL d = [] := by
 constructor
 ·intro h
  cases hr:remL d with
  | nil => rfl
  | cons z l => rw [(dn_next hd hr).2] at h; cases h
 ·exact fun h => (dn_stop h).2
def dgL (l:Nat):Pl.Dg := ⟨[],[],l⟩
def dgT:Pl.Dg := ⟨[1,-1],[6,5,4,7,2,1,0,3],0⟩
theorem dgL_valid (l:Nat) (hl:l ≤ 64):Pl.Valid (dgL l) := valid_empty hl
theorem dgT_is:apC (dgL 2) ⟨3,-2,-2,0,true⟩ = 0 ∧ apD (dgL 2) ⟨3,-2,-2,0,true⟩ = dgT := by
 constructor
 ·rw [apC_in (by decide) (by unfold inR; decide)]
  rw [if_neg (by decide),if_neg (by decide),if_pos rfl]
  unfold pkQ
  rw [if_neg (by decide),if_neg (by rw [Pl.vb_iff]; intro h; exact absurd h.1 (by decide)),if_neg (by decide)]
 ·decide
theorem dgT_valid:Pl.Valid dgT := by
 rw [← dgT_is.2]
 exact (ap_ok (dgL_valid 2 (by omega)) dgT_is.1).1
theorem dgT_rem:remL dgT = [⟨4,0,1,0,false⟩] := by
 unfold remL
 show sel dgT [⟨2,(0:Nat),0,0,false⟩,⟨2,(1:Nat),0,0,false⟩] ++ sel dgT [⟨4,(0:Nat),(1:Nat),0,false⟩] = _
 rw [sel_cons,sel_cons,sel_cons,sel_nil,un_code (d := dgT) (c := 0) (by decide),un_code (d := dgT) (c := 1) (by decide),up_code (d := dgT) (x := 0) (y := 1) (by decide) (by decide),one_no (show ¬ uncC dgT 0 = 0 by decide),one_no (show ¬ uncC dgT 1 = 0 by decide),one_yes (show unpC dgT 0 1 = 0 by decide)]
 rfl
theorem dgT_ap:apD dgT ⟨4,0,1,0,false⟩ = dgL 2 := by decide
theorem dgT_dn:dnD dgT = dgL 2 ∧ dnM dgT = [⟨4,0,1,0,false⟩] := by
 obtain ⟨h1,h2⟩:=dn_next dgT_valid dgT_rem
 obtain ⟨h3,h4⟩:=dn_stop (d := dgL 2) (rem_flat rfl)
 rw [h1,h2,dgT_ap,h3,h4]
 exact ⟨rfl,rfl⟩
theorem tref_rem:remL Pl.tref = [] := by
 unfold remL
 show sel Pl.tref [⟨2,(0:Nat),0,0,false⟩,⟨2,(1:Nat),0,0,false⟩,⟨2,(2:Nat),0,0,false⟩] ++ sel Pl.tref [⟨4,(0:Nat),(1:Nat),0,false⟩,⟨4,(0:Nat),(2:Nat),0,false⟩,⟨4,(1:Nat),(2:Nat),0,false⟩] = _
 rw [sel_cons,sel_cons,sel_cons,sel_cons,sel_cons,sel_cons,sel_nil,un_code (d := Pl.tref) (c := 0) (by decide),un_code (d := Pl.tref) (c := 1) (by decide),un_code (d := Pl.tref) (c := 2) (by decide),up_code (d := Pl.tref) (x := 0) (y := 1) (by decide) (by decide),up_code (d := Pl.tref) (x := 0) (y := 2) (by decide) (by decide),up_code (d := Pl.tref) (x := 1) (y := 2) (by decide) (by decide),one_no (show ¬ uncC Pl.tref 0 = 0 by decide),one_no (show ¬ uncC Pl.tref 1 = 0 by decide),one_no (show ¬ uncC Pl.tref 2 = 0 by decide),one_no (show ¬ unpC Pl.tref 0 1 = 0 by decide),one_no (show ¬ unpC Pl.tref 0 2 = 0 by decide),one_no (show ¬ unpC Pl.tref 1 2 = 0 by decide)]
 rfl
end Go.Proofs.YtghdiolnonejaaaGreatDoor
end
section
namespace Go.Proofs.YtghdiolnonejaaaGreatDoor
open Go Go.RowKit
attribute [local go_sem ↓] Go.wp_at_zero Go.wp_at_succ
structure CB (W:World) (g1 g2:Nat) (n:Nat) (most:Int):Prop where
 n:Row W g1 3 [.int .i64 (n:Int)]
 m:Row W g2 3 [.int .i64 most]
end Go.Proofs.YtghdiolnonejaaaGreatDoor
end
section
namespace Go.Proofs.YtghdiolnonejaaaGreatDoor
open Go Go.RowKit
attribute [local go_sem ↓] Go.wp_at_zero Go.wp_at_succ
section
variable {w W W':World} {ga k:Nat} {most:Int} {d r:Pl.Dg} {cs:List Int} {l:List Mv} {v:Value} {A9 B9:Option Addr} {n c8 m c9 lp:Nat}
end
theorem own_row_neM {W:World} {base b n:Nat} {t:TypeId} {v:Value} {xs vs:List Value} (h:W.ownsRow base 43 5 v n xs) (hr:Row W b t vs) (ht:43 ≠ t):some b ≠ v.ownBlock := by
 intro e
 obtain ⟨cs,fr,h3⟩:=ownsRow_block h b e.symm
 rw [hr] at h3
 injection h3 with h3
 injection h3 with _ h4
 exact ht h4.symm
theorem DgT.grownM {w w':World} {A B:Option Addr} {d:Pl.Dg} {base n:Nat} {v:Value} {xs:List Value} (h:DgT w A B d) (ho:w.ownsRow base 43 5 v n xs) (hg:w.grownBy w' v.ownBlock):DgT w' A B d :=
 ⟨h.s.grown hg (fun g e => ownsRow_block ho g e) (by decide),h.m.grown hg (fun g e => ownsRow_block ho g e) (by decide)⟩
end Go.Proofs.YtghdiolnonejaaaGreatDoor
end
section
namespace Go.Proofs.YtghdiolnonejaaaGreatDoor
open Go Go.RowKit
attribute [local go_sem ↓] Go.wp_at_zero Go.wp_at_succ
theorem elemI:Tryz.prog.underlying 22 = some (.slice (Tryz.prog.elem 22)) := by kernel_rfl
theorem sizeI (W:World):(sizeOf (Tryz.prog.elem 22)).run Tryz.prog W = .ok 1 W := by kernel_rfl
theorem cut_hi {w:World} {A:Option Addr} {n c:Nat} {xs:List Int} (h:IntsAt w A n xs) {k:Nat} (hk:k ≤ n) (hc:n ≤ c) :
 ∃ A1:Option Addr,IntsAt w A1 (n - k) (xs.drop k) ∧ ∀ W:World,(Instr.slice 22 (.slice A n c) (some (.int .i64 (k:Int))) none none).run Tryz.prog W = .ok (.slice A1 (n - k) (c - k)) W := by
 have hl:=h.len
 refine ⟨if c = k then A else A.map (·.add (k * 1)),⟨by simp; omega,fun hp => ?_⟩,fun W => ?_⟩
 ·obtain ⟨b,o,rfl,hx⟩:=h.2 (by omega)
  rw [if_neg (by omega)]
  refine ⟨b,o + k,by simp [Addr.add_lit],fun j u hu => ?_⟩
  rw [List.map_drop,List.getElem?_drop] at hu
  rw [Nat.add_assoc]
  exact hx _ u hu
 ·rw [run_slice_l W 22 A n c elemI .i64 (k:Int) (by omega) (by omega),sizeI]
  rfl
section
variable {P:Program} (w:World)
end
end Go.Proofs.YtghdiolnonejaaaGreatDoor
end
section
namespace Go.Proofs.YtghdiolnonejaaaGreatDoor
open Go Go.RowKit
attribute [local go_sem ↓] Go.wp_at_zero Go.wp_at_succ
structure NK (w:World) (dv:List Value) (vO vC:Value) (ns:List Int) (o:List Nat) (cs:List Int) (W:World):Prop where
 d:Row W w.heap.size 24 dv
 nu:IRow W (w.heap.size + 1) ns
 o:W.ownsRow (w.heap.size + 2) 3 1 vO o.length (o.map (fun k:Nat => Value.int .i64 k))
 c:W.ownsRow (w.heap.size + 2) 3 1 vC cs.length (cs.map (.int .i64))
 ne:∀ k,vO.ownBlock = some k → vC.ownBlock ≠ some k
 bel:Below w.heap.size w W
section
variable {w W W2:World} {dv:List Value} {vO vC:Value} {ns:List Int} {o:List Nat} {cs:List Int}
theorem NK.big (h:NK w dv vO vC ns o cs W):w.heap.size + 2 ≤ W.heap.size := by have := Row.lt h.nu; omega
theorem NK.below (h:NK w dv vO vC ns o cs W) (hb:Below W.heap.size W W2):NK w dv vO vC ns o cs W2 :=
 ⟨h.d.below hb,Row.below h.nu hb,own_keep h.o hb (Nat.le_refl _),own_keep h.c hb (Nat.le_refl _),h.ne,h.bel.trans (hb.mono (by have := h.big; omega))⟩
theorem NK.alloc (h:NK w dv vO vC ns o cs W) (b:Obj):NK w dv vO vC ns o cs (W.alloc b) := h.below ((Below.refl _ _).alloc (Nat.le_refl _) b)
theorem NK.setN (h:NK w dv vO vC ns o cs W) (i:Nat) (v:Int):NK w dv vO vC (ns.set i v) o cs (W.setCell ⟨w.heap.size + 1,i,none⟩ (.int .i64 v)) :=
 ⟨h.d.other (by show _ ≠ w.heap.size + 1; omega) _,h.nu.set i v,ownsRow_setCell_below h.o (by show w.heap.size + 1 < w.heap.size + 2; omega) _,ownsRow_setCell_below h.c (by show w.heap.size + 1 < w.heap.size + 2; omega) _,h.ne,h.bel.setCell (by show _ ≤ w.heap.size + 1; omega) _⟩
theorem own_hat {g:Nat} {v:Value} {W:World} {base n:Nat} {xs:List Value} {t:TypeId} (h:W.ownsRow base t 1 v n xs) (hat:v.ownBlock = some g ∨ g = W.heap.size) {u:Value} {m:Nat} {ys:List Value} (hu:W.ownsRow base t 1 u m ys) (ne:∀ k,v.ownBlock = some k → u.ownBlock ≠ some k):u.ownBlock ≠ some g := by
 rcases hat with e | e
 ·exact ne g e
 ·intro e2
  have:=(hu.lt g e2).2
  omega
theorem NK.appO (h:NK w dv vO vC ns o cs W) {g c n:Nat} {o':List Nat} (own:W2.ownsRow (w.heap.size + 2) 3 1 (.slice (some ⟨g,0,none⟩) n c) n (o'.map (fun k:Nat => Value.int .i64 k))) (gr:W.grownBy W2 vO.ownBlock) (hat:vO.ownBlock = some g ∨ g = W.heap.size):NK w dv (.slice (some ⟨g,0,none⟩) n c) vC ns o' cs W2 := by
 have hn:n = o'.length:=by have := own.1; simpa using this.symm
 have hne:=own_hat h.o hat h.c h.ne
 have hle:=h.big
 refine ⟨h.d.grown gr (own_row_ne h.o h.d (by decide)),Row.grown h.nu gr (fun e => ?_),by rw [← hn]; exact own,h.c.kept gr ?_,fun k hk => ?_,h.bel.grown gr (by omega) (fun k hk => by have := (h.o.lt k hk).1; omega)⟩
 ·have:=(h.o.lt _ e.symm).1; omega
 ·cases hm:vC.ownBlock with
  | none => exact .inl rfl
  | some x => exact .inr (fun e => h.ne x e.symm hm)
 ·have e:g = k:=by injection hk
  subst e
  exact hne
theorem NK.appC (h:NK w dv vO vC ns o cs W) {g c n:Nat} {cs':List Int} (own:W2.ownsRow (w.heap.size + 2) 3 1 (.slice (some ⟨g,0,none⟩) n c) n (cs'.map (.int .i64))) (gr:W.grownBy W2 vC.ownBlock) (hat:vC.ownBlock = some g ∨ g = W.heap.size):NK w dv vO (.slice (some ⟨g,0,none⟩) n c) ns o cs' W2 := by
 have hn:n = cs'.length:=by have := own.1; simpa using this.symm
 have hne:=own_hat h.c hat h.o (fun k hk e => h.ne k e hk)
 have hle:=h.big
 refine ⟨h.d.grown gr (own_row_ne h.c h.d (by decide)),Row.grown h.nu gr (fun e => ?_),h.o.kept gr ?_,by rw [← hn]; exact own,fun k hk e => ?_,h.bel.grown gr (by omega) (fun k hk => by have := (h.c.lt k hk).1; omega)⟩
 ·have:=(h.c.lt _ e.symm).1; omega
 ·cases hm:vO.ownBlock with
  | none => exact .inl rfl
  | some x => exact .inr (fun e => h.ne x hm e.symm)
 ·have e:g = k:=by injection e
  subst e
  exact hne hk
end
theorem rep_step (k n:Nat) (h:k < n):(List.replicate k (-1:Int) ++ List.replicate (n - k) 0).set k (-1) = List.replicate (k + 1) (-1) ++ List.replicate (n - (k + 1)) 0 := by
 have e:n - k = (n - (k + 1)) + 1:=by omega
 rw [e,List.replicate_succ,List.set_append_right _ _ (by simp),List.length_replicate,Nat.sub_self,List.set_cons_zero,List.replicate_succ' ,List.append_assoc]
 rfl
theorem cut_mid {w:World} {A:Option Addr} {n c:Nat} {xs:List Int} (h:IntsAt w A n xs) {k:Nat} (hk:k + 5 ≤ n) (hc:n ≤ c) :
 ∃ (A1:Option Addr) (c1:Nat),IntsAt w A1 5 ((xs.drop k).take 5) ∧ ∀ W:World,(Instr.slice 22 (.slice A n c) (some (.int .i64 (k:Int))) (some (.int .i64 ((k + 5:Nat):Int))) none).run Tryz.prog W = .ok (.slice A1 5 c1) W := by
 have hl:=h.len
 obtain ⟨b,o,rfl,hx⟩:=h.2 (by omega)
 refine ⟨some ⟨b,o + k,none⟩,c - k,⟨by simp; omega,fun hp => ⟨b,o + k,rfl,fun j u hu => ?_⟩⟩,fun W => ?_⟩
 ·rw [List.map_take,List.getElem?_take] at hu
  split at hu
  ·rw [List.map_drop,List.getElem?_drop] at hu
   rw [Nat.add_assoc]
   exact hx _ u hu
  ·cases hu
 ·rw [run_slice_lh W 22 (some ⟨b,o,none⟩) n c elemI .i64 .i64 (k:Int) ((k + 5:Nat):Int) (by omega) (by omega) (by omega),sizeI]
  simp only [Result.andThen_ok]
  unfold sliced
  rw [Int.toNat_natCast,Int.toNat_natCast,if_neg (show ¬ c = k by omega),show k + 5 - k = 5 by omega]
  simp [Addr.add_lit]
end Go.Proofs.YtghdiolnonejaaaGreatDoor
end
section
namespace Go.Proofs.YtghdiolnonejaaaGreatDoor
open Go Go.RowKit
attribute [local go_sem ↓] Go.wp_at_zero Go.wp_at_succ
def BestAt (w:World) (v:Value) (k:Nat):Option (List Int) → Prop
 | none => v = .slice none 0 0
 | some bl => ∃ b o c,v = .slice (some ⟨b,o,none⟩) bl.length c ∧ IntsAt w (some ⟨b,o,none⟩) bl.length bl ∧ bl.length = k ∧ bl.length ≤ c
def NumPost (d:Pl.Dg) (r:Nat) (best:Option (List Int)) (w:World) (e:Ending) (w':World):Prop :=
 (0 < Pl.vall best (Pl.code d r) → e = .returned (.tuple #[.slice none 0 0,.slice none 0 0,.int .i64 1])) ∧
 (¬ 0 < Pl.vall best (Pl.code d r) → ∃ vC vO,e = .returned (.tuple #[vC,vO,.int .i64 (Pl.vall best (Pl.code d r))]) ∧ w'.ownsRow w.heap.size 3 1 vC (Pl.code d r).length ((Pl.code d r).map (.int .i64)) ∧ w'.ownsRow w.heap.size 3 1 vO (Pl.ord d r).length ((Pl.ord d r).map (fun k:Nat => Value.int .i64 k))) ∧
 Below w.heap.size w w'
theorem nums_cell {W:World} {g n b:Nat} {o:List Nat} (h:IRow W g (Pl.nums n o)) (hb:b < n):W.cell? ⟨g,b,none⟩ = some (.int .i64 (if b ∈ o then ((o.idxOf b:Nat):Int) else -1)) := by
 rw [h.cell (i := b) (by rw [Pl.nums_len]; exact hb)]
 unfold Pl.pv
 rw [List.getD_eq_getElem?_getD,Pl.nums_get _ hb]
 rfl
theorem one_newsG {g:Nat} (W:World) (x:Value) (h:g = W.heap.size):∀ j u,[x][j]? = some u → (W.alloc (.cells #[x] 3)).cell? ((⟨g,0,none⟩:Addr).add j) = some u := by
 subst h
 exact one_news W x
theorem own_cap {W:World} {base n c:Nat} {e:TypeId} {A:Option Addr} {xs:List Value} (h:W.ownsRow base e 1 (.slice A n c) n xs):n ≤ c := by
 rcases h.2 with ⟨h1,h2⟩ | ⟨g,cap,cur,h1,_,_,h4,_⟩
 ·omega
 ·injection h1 with _ _ h1
  omega
theorem eq_nil (W:World):(binOp BinOp.eql 22 (.slice none 0 0) (.slice none 0 0)).run Tryz.prog W = .ok (.bool true) W := by kernel_rfl
theorem eq_some (W:World) (a:Addr) (n c:Nat):(binOp BinOp.eql 22 (.slice (some a) n c) (.slice none 0 0)).run Tryz.prog W = .ok (.bool false) W := by kernel_rfl
set_option maxRecDepth 100000 in
set_option maxHeartbeats 8000000 in
theorem number_any (d:Pl.Dg) (hd:Pl.Wf d) (A B:Option Addr) (cp cq m r:Nat) (vB:Value) (best:Option (List Int)) (w:World) (hm:m = 4 * d.n) (hg:DgAt w A B d) (hr:r < d.n) (hb:BestAt w vB (Pl.code d r).length best) :
 Calls Tryz.prog 114 #[.agg #[.slice A d.n cp,.slice B m cq,.int .i64 d.lp],.int .i64 (r:Int),vB] w (NumPost d r best w) := by
 have hn:=hd.few
 have HM:=hide hm
 have HG:=hide hg
 have HB:=hide hb
 have HD:=hide hd
 have HOL:=hide (Pl.ord_len hd hr)
 clear hm hg hb
 have X0:=hide (row_at (W := w) (g := w.heap.size) (t := 24) (vs := [.slice A d.n cp,.slice B m cq,.int .i64 d.lp]) rfl)
 have B0:=hide (show Below w.heap.size w (w.alloc (.cells #[.slice A d.n cp,.slice B m cq,.int .i64 d.lp] 24)) from (Below.refl _ _).alloc (Nat.le_refl _) _)
 have hmk:=fun W:World => run_ints d.n (by omega) W
 obtain ⟨d0,d1,d2,d3⟩:=box3 X0.out
 have Y0:=hide (show Row ((w.alloc (.cells #[.slice A d.n cp,.slice B m cq,.int .i64 d.lp] 24)).alloc (.cells (Array.replicate d.n (Value.int .i64 0)) 3)) w.heap.size 24 [.slice A d.n cp,.slice B m cq,.int .i64 d.lp] ∧ IRow ((w.alloc (.cells #[.slice A d.n cp,.slice B m cq,.int .i64 d.lp] 24)).alloc (.cells (Array.replicate d.n (Value.int .i64 0)) 3)) (w.heap.size + 1) (List.replicate 0 (-1) ++ List.replicate (d.n - 0) 0) ∧ Below w.heap.size w ((w.alloc (.cells #[.slice A d.n cp,.slice B m cq,.int .i64 d.lp] 24)).alloc (.cells (Array.replicate d.n (Value.int .i64 0)) 3)) from by
  refine ⟨X0.out.alloc _,?_,B0.out.alloc B0.out.size _⟩
  have h:=IRow.made (w.alloc (.cells #[.slice A d.n cp,.slice B m cq,.int .i64 d.lp] 24)) d.n
  simpa using h)
 go_enter Tryz.func114,Tryz.ntmps114
 go_wp2
 clear hmk d0 d1 d2 d3 X0 B0
 go_loopg [10,24] d.n (fun g s10 i wx => ∃ k:Nat,k + g = d.n ∧ i = .int .i64 k ∧ Row wx w.heap.size 24 [.slice A d.n cp,.slice B m cq,.int .i64 d.lp] ∧ IRow wx (w.heap.size + 1) (List.replicate k (-1) ++ List.replicate (d.n - k) 0) ∧ Below w.heap.size w wx)
 case atStart => exact ⟨0,by omega,rfl,Y0.out.1,Y0.out.2.1,Y0.out.2.2⟩
 case round =>
  clear Y0
  obtain ⟨k,hkg,rfl,h1,h2,h3⟩:=hrel
  have HKG:=hide hkg
  have H1:=hide h1
  have H2:=hide h2
  have H3:=hide h3
  clear h1 h2 h3
  by_cases hk:k < d.n
  ·have hki:(k:Int) < (d.n:Int):=by omega
   have k0:(0:Int) ≤ (k:Int):=by omega
   have c1:=H2.out.cell (i := k) (by simp; omega)
   have f1:=Row.free H2.out k
   have hl:=Row.lt H2.out
   clear hkg
   go_wp2
   go_roundg (gk - 1)
   case measure => have := HKG.out; omega
   case rel =>
    refine ⟨k + 1,by have := HKG.out; omega,by go_num,H1.out.other (by show _ ≠ w.heap.size + 1; omega) _,?_,H3.out.setCell (by show _ ≤ w.heap.size + 1; omega) _⟩
    have:=H2.out.set k (-1)
    rw [rep_step k d.n hk] at this
    exact this
  ·have hki:¬ ((k:Int) < (d.n:Int)):=by omega
   have hkn:k = d.n:=by omega
   subst hkn
   clear hkg HKG
   have hl:=Row.lt H2.out
   have K1:=hide (show NK w [.slice A d.n cp,.slice B m cq,.int .i64 d.lp] (.slice (some ⟨wr.heap.size,0,none⟩) 1 1) (.slice none 0 0) (Pl.nums d.n [r]) [r] [] ((wr.setCell ⟨w.heap.size + 1,r,none⟩ (.int .i64 0)).alloc (.cells #[.int .i64 (r:Int)] 3)) from by
    have hs:(wr.setCell ⟨w.heap.size + 1,r,none⟩ (.int .i64 0)).heap.size = wr.heap.size:=by simp
    refine ⟨(H1.out.other (by show _ ≠ w.heap.size + 1; omega) _).alloc _,?_,?_,World.ownsRow_nil _ _ _ _,fun k hk => by simp [Value.ownBlock],(H3.out.setCell (by show _ ≤ w.heap.size + 1; omega) _).alloc (by rw [hs]; exact H3.out.size) _⟩
    ·have h:=H2.out.set r 0
     rw [Nat.sub_self,List.replicate_zero,List.append_nil,← Pl.nums_one hr] at h
     exact Row.alloc h _
    ·have h:=own_one (wr.setCell ⟨w.heap.size + 1,r,none⟩ (.int .i64 0)) (.int .i64 (r:Int))
     rw [hs] at h
     exact ⟨h.1,h.2.imp id (fun ⟨g,cap,cur,r1,r2,r3⟩ => ⟨g,cap,cur,r1,by omega,r3⟩)⟩)
   have r0:(0:Int) ≤ (r:Int):=by omega
   have r1:(r:Int) < (d.n:Int):=by omega
   have c1:=IRow.cell H2.out (i := r) (by simp; omega)
   have f1:=Row.free H2.out r
   clear H1 H2 H3
   go_upto_region 11 with fail
   obtain ⟨V,hV⟩:∃ V,V = (wr.setCell ⟨w.heap.size + 1,r,none⟩ (.int .i64 0)).alloc (.cells #[.int .i64 (r:Int)] 3) := ⟨_,rfl⟩
   obtain ⟨g0,hg0⟩:∃ g,g = wr.heap.size := ⟨_,rfl⟩
   rw [← hV,← hg0] at K1 ⊢
   clear hV hg0 c1 f1 r0 r1 hl
   obtain ⟨L,hL⟩:∃ L,L = (Pl.ord d r).length := ⟨_,rfl⟩
   have HL:=hide hL
   have hLn:L ≤ d.n:=by rw [hL]; exact HOL.out
   have HCL:=hide (show (Pl.code d r).length = 5 * L by rw [hL]; exact Pl.code_len r)
   clear hL
   have hsp:(best = none ∧ vB = .slice none 0 0 ∧ Pl.vdt best (Pl.code d r) 0 = -1) ∨ (∃ b o n c,vB = .slice (some ⟨b,o,none⟩) n c ∧ Pl.vdt best (Pl.code d r) 0 = 0):=by
    cases best with
    | none => exact .inl ⟨rfl,HB.out,rfl⟩
    | some bl =>
      obtain ⟨b,o,c,e,_⟩:=HB.out
      exact .inr ⟨b,o,_,c,e,by simp [Pl.vdt,Pl.lx]⟩
   rcases hsp with ⟨hb0,rfl,hv0⟩ | ⟨bb,bo,bn,bc,rfl,hv0⟩
   all_goals
    have HV0:=hide hv0
    clear hv0
   ·have hq:=eq_nil
    have HB0:=hide hb0
    clear hb0
    go_wp2_with fail
    clear hq
    go_loopg [11,12,13,14,15,16,17,56] L (fun g s11 s12 s13 s14 s15 s16 s17 s56 wx => ∃ (i:Nat) (v:Int),i + g = L ∧ s14 = .int .i64 (i:Int) ∧ s13 = .int .i64 v ∧ v = Pl.vdt best (Pl.code d r) (5 * i) ∧ v ≤ 0 ∧ NK w [.slice A d.n cp,.slice B m cq,.int .i64 d.lp] s11 s12 (Pl.nums d.n (Pl.ordK d r i)) (Pl.ordK d r i) ((Pl.code d r).take (5 * i)) wx)
    case atStart => exact ⟨0,_,by omega,rfl,rfl,HV0.out.symm,by omega,K1.out⟩
    case round =>
     clear K1 HV0
     obtain ⟨i,v,hig,rfl,rfl,hv,hv0,hk⟩:=hrel
     have HIG:=hide hig
     have HV:=hide hv
     have hiL:i ≤ L:=by omega
     obtain ⟨o,ho⟩:∃ o,o = Pl.ordK d r i := ⟨_,rfl⟩
     obtain ⟨cs,hcs⟩:∃ cs,cs = (Pl.code d r).take (5 * i) := ⟨_,rfl⟩
     rw [← ho,← hcs] at hk
     have K0:=hide hk
     have HO:=hide ho
     have HCS:=hide hcs
     have hl5:o.length ≤ 64:=by rw [ho]; have := (Pl.ordK_ok HD.out hr i).len; omega
     have hl6:cs.length ≤ 320:=by rw [hcs,List.length_take]; omega
     clear hk hv ho hcs
     obtain ⟨go,rfl⟩:∃ go,go = gk := ⟨_,rfl⟩
     obtain ⟨A5,c5,rfl⟩:=owns_slice K0.out.o
     obtain ⟨A6,c6,rfl⟩:=owns_slice K0.out.c
     by_cases hi:i < L
     ·have hil:i < o.length:=by rw [HO.out]; exact Pl.order_lt (by omega) (by rw [← HL.out]; exact hi)
      have hki:(i:Int) < ((o.length:Nat):Int):=by omega
      have k0:(0:Int) ≤ (i:Int):=by omega
      obtain ⟨c,hc⟩:∃ c,o[i]? = some c := ⟨_,List.getElem?_eq_getElem hil⟩
      have HC:=hide (show (Pl.ordK d r i)[i]? = some c by rw [← HO.out]; exact hc)
      have hcn:c < d.n:=((Pl.ordK_ok HD.out hr i).mem c (List.mem_of_getElem? HC.out)).1
      have HS:=hide (Pl.code_sgn (Pl.pre_get (Pl.ordK_ord r (by omega)) HC.out))
      have hO:IntsAt wr A5 o.length (nats o):=own_ints' (by rw [map_nats]; exact K0.out.o)
      obtain ⟨b5,o5,rfl,x5⟩:=nats_at hO hil
      have hcg:o.getD i 0 = c:=by rw [List.getD_eq_getElem?_getD,hc]; rfl
      rw [hcg] at x5
      obtain ⟨b1,o1,rfl,x1⟩:=sign_at (HG.out.keep K0.out.bel).s hcn
      obtain ⟨d0,d1,d2,d3⟩:=box3 K0.out.d
      have c0:(0:Int) ≤ (c:Int):=by omega
      have c1:(c:Int) < (d.n:Int):=by omega
      clear hc hO hcg hig
      obtain ⟨i0,hi0,hz0,hz1,hz2⟩:=info_parts intInfo
      obtain ⟨sv,hsv⟩:∃ x,x = d.s c := ⟨_,rfl⟩
      rw [← hsv] at x1
      have HSV:=hide hsv
      clear hsv
      have KA:=hide (K0.out.alloc (.cells #[.int .i64 sv] 3))
      go_upto_region 18 with (at_builtin; refine wpList_append_lies _ (by rfl) _ _ 22 (by rfl) (w.heap.size + 2) 3 i0 (.int .i64 0) 1 8 Tryz.underlying22 hi0 hz0 hz1 hz2 rfl (by omega) _ cs.length _ (by rfl) KA.out.c ⟨wr.heap.size,0,none⟩ 1 1 [.int .i64 sv] (by rfl) (by rfl) (one_news _ _) (by simp [Value.oneCell']) (by omega) (by unfold maxLen; omega) (by omega) KA.out.big (wr.heap.size + 1) (by simp) ?_; intro g3 c3 w3 own3 grow3 at3 lt3; have OWN3 := hide own3; have GR3 := hide grow3; have AT3 := hide at3; clear own3 grow3 at3)
      have KB:=hide (show NK w [.slice (some ⟨b1,o1,none⟩) d.n cp,.slice B m cq,.int .i64 d.lp] (.slice (some ⟨b5,o5,none⟩) o.length c5) (.slice (some ⟨g3,0,none⟩) (cs.length + 1) c3) (Pl.nums d.n o) o ((Pl.code d r).take (5 * i + 1)) w3 from by
       rw [Pl.take_one HS.out,← HCS.out,← HSV.out]
       exact KA.out.appC (by rw [List.map_append]; exact OWN3.out) GR3.out (by simpa using AT3.out))
      clear KA OWN3 GR3 AT3 K0 x5 x1 d0 d1 d2 d3 hki k0 hil
      go_wp2_with fail
      go_loopg [11,12,16,17,56] 4 (fun g s11 s12 s16 s17 s56 wx => ∃ s:Nat,s + g = 4 ∧ s56 = .int .i64 (s:Int) ∧ NK w [.slice (some ⟨b1,o1,none⟩) d.n cp,.slice B m cq,.int .i64 d.lp] s11 s12 (Pl.nums d.n (Pl.addS d o c s)) (Pl.addS d o c s) ((Pl.code d r).take (5 * i + 1 + s)) wx)
      case atStart => exact ⟨0,rfl,rfl,KB.out⟩
      case round =>
       clear KB
       obtain ⟨s,hsg,rfl,hk⟩:=hrel
       have HSG:=hide hsg
       obtain ⟨q,hq⟩:∃ q,q = Pl.addS d o c s := ⟨_,rfl⟩
       obtain ⟨cs,hcs⟩:∃ cs,cs = (Pl.code d r).take (5 * i + 1 + s) := ⟨_,rfl⟩
       rw [← hq,← hcs] at hk
       have K0:=hide hk
       have HQ:=hide hq
       have HCS:=hide hcs
       have hs4:s ≤ 4:=by omega
       have hl5:q.length ≤ 64:=by
        have h:=(Pl.add_ord (d := d) (r := r) (i := i) (s := s) (by omega) HC.out hs4).length_le
        have:=HOL.out
        rw [hq,HO.out]
        omega
       have hl6:cs.length ≤ 330:=by rw [hcs,List.length_take]; omega
       clear hk hq hcs
       obtain ⟨A5,c5,rfl⟩:=owns_slice K0.out.o
       obtain ⟨A6,c6,rfl⟩:=owns_slice K0.out.c
       obtain ⟨gi,rfl⟩:∃ gi,gi = gk := ⟨_,rfl⟩
       by_cases hs:s < 4
       ·have hsi:(s:Int) < 4:=by omega
        have s0:(0:Int) ≤ (s:Int):=by omega
        have hh:4 * c + s < 4 * d.n:=by omega
        have hlt:=HD.out.lt (4 * c + s) hh
        have HX:=hide (Pl.code_step (d := d) (r := r) (i := i) (c := c) (s := s) (by omega) HC.out hs)
        rw [← HO.out] at HX
        obtain ⟨b2,o2,rfl,x2⟩:=mate_at (d := d) (by rw [← HM.out]; have := (HG.out.keep K0.out.bel).m; rwa [← HM.out] at this) hh
        have hmm:m = 4 * d.n:=HM.out
        have i2:(4:Int) * (c:Int) + (s:Int) < (m:Int):=by omega
        clear hmm
        obtain ⟨u,hu⟩:∃ u,u = d.m (4 * c + s) := ⟨_,rfl⟩
        rw [← hu] at x2 hlt
        obtain ⟨b,hb⟩:∃ b,b = u / 4 := ⟨_,rfl⟩
        obtain ⟨t,ht⟩:∃ t,t = u % 4 := ⟨_,rfl⟩
        have hbn:b < d.n:=by omega
        have ht4:t < 4:=by omega
        have q1:(u:Int).tdiv 4 = (b:Int):=by rw [hb]; rfl
        have q2:(u:Int).tmod 4 = (t:Int):=by rw [ht]; rfl
        have q3:(u:Int) / 4 = (b:Int):=by omega
        have q4:(u:Int) % 4 = (t:Int):=by omega
        have HBB:=hide (show Pl.nb d c s = b by unfold Pl.nb; rw [← hu,hb])
        have HT:=hide (show d.m (4 * c + s) % 4 = t by rw [← hu,ht])
        clear hu hb ht hh hsg
        obtain ⟨d0,d1,d2,d3⟩:=box3 K0.out.d
        have bi0:(0:Int) ≤ (b:Int):=by omega
        have bi1:(b:Int) < (d.n:Int):=by omega
        have hnc:=nums_cell K0.out.nu hbn
        have hl0:w.heap.size + 1 < wr.heap.size:=Row.lt K0.out.nu
        by_cases hbq:b ∈ q
        ·have HBQ:=hide hbq
         rw [if_pos hbq] at hnc
         obtain ⟨j,hj⟩:∃ j,j = q.idxOf b := ⟨_,rfl⟩
         rw [← hj] at hnc
         have hjl:j < 64:=by rw [hj]; have := List.idxOf_lt_length_of_mem hbq; omega
         have HJ:=hide hj
         clear hbq hj
         have j0:¬ ((j:Int) < 0):=by omega
         have KA:=hide (K0.out.alloc (.cells #[.int .i64 (4 * (j:Int) + (t:Int))] 3))
         go_wp2_with (first | (at_builtin; refine wpList_append_lies _ (by rfl) _ _ 22 (by rfl) (w.heap.size + 2) 3 i0 (.int .i64 0) 1 8 Tryz.underlying22 hi0 hz0 hz1 hz2 rfl (by omega) _ cs.length _ (by rfl) KA.out.c ⟨wr.heap.size,0,none⟩ 1 1 [.int .i64 (4 * (j:Int) + (t:Int))] (by rfl) (by rfl) (one_news _ _) (by simp [Value.oneCell']) (by omega) (by unfold maxLen; omega) (by omega) KA.out.big (wr.heap.size + 1) (by simp) ?_; intro g3 c3 w3 own3 grow3 at3 lt3; have OWN3 := hide own3; have GR3 := hide grow3; have AT3 := hide at3; clear own3 grow3 at3))
         go_roundg (gi - 1)
         case measure => have := HSG.out; omega
         case rel =>
          refine ⟨s + 1,by have := HSG.out; omega,by go_num,?_⟩
          have e1:Pl.addS d o c (s + 1) = q:=by
           show Pl.addN (Pl.addS d o c s) (Pl.nb d c s) = q
           rw [← HQ.out,HBB.out]
           unfold Pl.addN
           rw [if_pos HBQ.out]
          have e2:(Pl.code d r).take (5 * i + 1 + (s + 1)) = cs ++ [4 * (j:Int) + (t:Int)]:=by
           have hx:=HX.out
           rw [e1,HBB.out,HT.out,← HJ.out] at hx
           rw [show 5 * i + 1 + (s + 1) = 5 * i + 1 + s + 1 by omega,Pl.take_one hx,← HCS.out]
           congr 2
          rw [e1,e2]
          exact KA.out.appC (by rw [List.map_append]; exact OWN3.out) GR3.out (by simpa using AT3.out)
        ·have HBQ:=hide hbq
         rw [if_neg hbq] at hnc
         have f1:=Row.free K0.out.nu b
         have K1:=hide (K0.out.setN b (q.length:Int))
         rw [← Pl.nums_add hbn hbq] at K1
         have KA:=hide (K1.out.alloc (.cells #[.int .i64 (b:Int)] 3))
         clear hbq
         go_upto_region 25 with (at_builtin; refine wpList_append_lies _ (by rfl) _ _ 22 (by rfl) (w.heap.size + 2) 3 i0 (.int .i64 0) 1 8 Tryz.underlying22 hi0 hz0 hz1 hz2 rfl (by omega) _ q.length _ (by rfl) KA.out.o ⟨wr.heap.size,0,none⟩ 1 1 [.int .i64 (b:Int)] (by rfl) (by rfl) (one_newsG _ _ (by simp)) (by simp [Value.oneCell']) (by omega) (by unfold maxLen; omega) (by omega) KA.out.big (wr.heap.size + 1) (by simp) ?_; intro g3 c3 w3 own3 grow3 at3 lt3; have OWN3 := hide own3; have GR3 := hide grow3; have AT3 := hide at3; clear own3 grow3 at3)
         have KB:=hide (KA.out.appO (o' := q ++ [b]) (by rw [List.map_append]; exact OWN3.out) GR3.out (by simpa using AT3.out))
         clear KA K1 K0 OWN3 GR3 AT3 hnc f1 d0 d1 d2 d3 x2
         have hnc:=nums_cell KB.out.nu hbn
         have hin:b ∈ q ++ [b]:=by simp
         have hix:(q ++ [b]).idxOf b = q.length:=by rw [List.idxOf_append,if_neg HBQ.out]; simp
         rw [if_pos hin,hix] at hnc
         clear hin
         have HIX:=hide hix
         clear hix
         have KC:=hide (KB.out.alloc (.cells #[.int .i64 (4 * (q.length:Int) + (t:Int))] 3))
         go_wp2_with (at_builtin; refine wpList_append_lies _ (by rfl) _ _ 22 (by rfl) (w.heap.size + 2) 3 i0 (.int .i64 0) 1 8 Tryz.underlying22 hi0 hz0 hz1 hz2 rfl (by omega) _ cs.length _ (by rfl) KC.out.c ⟨w3.heap.size,0,none⟩ 1 1 [.int .i64 (4 * (q.length:Int) + (t:Int))] (by rfl) (by rfl) (one_news _ _) (by simp [Value.oneCell']) (by omega) (by unfold maxLen; omega) (by omega) KC.out.big (w3.heap.size + 1) (by simp) ?_; intro g4 c4 w4 own3 grow3 at3 lt4; have OWN3 := hide own3; have GR3 := hide grow3; have AT3 := hide at3; clear own3 grow3 at3)
         go_roundg (gi - 1)
         case measure => have := HSG.out; omega
         case rel =>
          refine ⟨s + 1,by have := HSG.out; omega,by go_num,?_⟩
          have e1:Pl.addS d o c (s + 1) = q ++ [b]:=by
           show Pl.addN (Pl.addS d o c s) (Pl.nb d c s) = q ++ [b]
           rw [← HQ.out,HBB.out]
           unfold Pl.addN
           rw [if_neg HBQ.out]
          have e2:(Pl.code d r).take (5 * i + 1 + (s + 1)) = cs ++ [4 * (q.length:Int) + (t:Int)]:=by
           have hx:=HX.out
           rw [e1,HBB.out,HT.out,HIX.out] at hx
           rw [show 5 * i + 1 + (s + 1) = 5 * i + 1 + s + 1 by omega,Pl.take_one hx,← HCS.out]
           congr 2
          rw [e1,e2]
          exact KC.out.appC (by rw [List.map_append]; exact OWN3.out) GR3.out (by simpa using AT3.out)
       ·have hsi:¬ ((s:Int) < 4):=by omega
        have hs5:s = 4:=by omega
        have K5:=hide (show NK w [.slice (some ⟨b1,o1,none⟩) d.n cp,.slice B m cq,.int .i64 d.lp] (.slice A5 q.length c5) (.slice A6 cs.length c6) (Pl.nums d.n (Pl.ordK d r (i + 1))) (Pl.ordK d r (i + 1)) ((Pl.code d r).take (5 * (i + 1))) wr from by
         rw [Pl.ordK_some HC.out,← HO.out,← hs5,← HQ.out,show 5 * (i + 1) = 5 * i + 1 + s by omega,← HCS.out]
         exact K0.out)
        clear hs5
        have hvm:v = -1:=by rw [HV.out,HB0.out]; rfl
        have HVN:=hide (show (-1:Int) = Pl.vdt best (Pl.code d r) (5 * (i + 1)) by rw [HB0.out]; rfl)
        subst hvm
        clear hsg
        go_wp2
        go_roundg (go - 1)
        case measure => have := HIG.out; omega
        case rel => exact ⟨i + 1,-1,by have := HIG.out; omega,by go_num,rfl,HVN.out,by omega,K5.out⟩
     ·have hki : ¬ ((i : Int) < ((o.length : Nat) : Int)) := by
       have h1:=(Pl.ordK_ord (d := d) r (k := i) (by omega)).length_le
       have h2:=HL.out
       rw [HO.out]
       omega
      have hiL2:i = L:=by omega
      have HE:=hide (show o = Pl.ord d r ∧ cs = Pl.code d r by
       have h1:=(Pl.ordK_ord (d := d) r (k := i) (by omega)).length_le
       have h2:=HL.out
       rw [HO.out,HCS.out]
       exact ⟨Pl.ord_eq (by omega) (by omega),List.take_of_length_le (by rw [HCL.out]; omega)⟩)
      have HVE:=hide (show v = Pl.vall best (Pl.code d r) by
       rw [HV.out]
       refine (Pl.vdt_all (by rw [HCL.out]; omega) (fun b e => ?_))
       have h:=HB.out
       rw [e] at h
       obtain ⟨_,_,_,_,_,h3,_⟩:=h
       rw [h3,HCL.out]; omega)
      clear hig hiL2
      go_wp2
      refine bodyPost_ret (v := .tuple #[.slice A6 cs.length c6,.slice A5 o.length c5,.int .i64 v]) ?_ rfl ⟨fun h => ?_,fun _ => ⟨_,_,by rw [← HVE.out],?_,?_⟩,K0.out.bel⟩
      ·simp [results,Tryz.results114,go_sem]
      ·rw [← HVE.out] at h; omega
      ·have h:=K0.out.c
       rw [HE.out.2] at h
       rw [HE.out.2]
       exact own_base h (by omega)
      ·have h:=K0.out.o
       rw [HE.out.1] at h
       rw [HE.out.1]
       exact own_base h (by omega)
   ·have hq:=fun W => eq_some W ⟨bb,bo,none⟩ bn bc
    go_wp2_with fail
    clear hq
    go_loopg [11,12,13,14,15,16,17,56] L (fun g s11 s12 s13 s14 s15 s16 s17 s56 wx => ∃ (i:Nat) (v:Int),i + g = L ∧ s14 = .int .i64 (i:Int) ∧ s13 = .int .i64 v ∧ v = Pl.vdt best (Pl.code d r) (5 * i) ∧ v ≤ 0 ∧ NK w [.slice A d.n cp,.slice B m cq,.int .i64 d.lp] s11 s12 (Pl.nums d.n (Pl.ordK d r i)) (Pl.ordK d r i) ((Pl.code d r).take (5 * i)) wx)
    case atStart => exact ⟨0,_,by omega,rfl,rfl,HV0.out.symm,by omega,K1.out⟩
    case round =>
     clear K1 HV0
     obtain ⟨i,v,hig,rfl,rfl,hv,hv0,hk⟩:=hrel
     have HIG:=hide hig
     have HV:=hide hv
     have hiL:i ≤ L:=by omega
     obtain ⟨o,ho⟩:∃ o,o = Pl.ordK d r i := ⟨_,rfl⟩
     obtain ⟨cs,hcs⟩:∃ cs,cs = (Pl.code d r).take (5 * i) := ⟨_,rfl⟩
     rw [← ho,← hcs] at hk
     have K0:=hide hk
     have HO:=hide ho
     have HCS:=hide hcs
     have hl5:o.length ≤ 64:=by rw [ho]; have := (Pl.ordK_ok HD.out hr i).len; omega
     have hl6:cs.length ≤ 320:=by rw [hcs,List.length_take]; omega
     clear hk hv ho hcs
     obtain ⟨go,rfl⟩:∃ go,go = gk := ⟨_,rfl⟩
     obtain ⟨A5,c5,rfl⟩:=owns_slice K0.out.o
     obtain ⟨A6,c6,rfl⟩:=owns_slice K0.out.c
     by_cases hi:i < L
     ·have hil:i < o.length:=by rw [HO.out]; exact Pl.order_lt (by omega) (by rw [← HL.out]; exact hi)
      have hki:(i:Int) < ((o.length:Nat):Int):=by omega
      have k0:(0:Int) ≤ (i:Int):=by omega
      obtain ⟨c,hc⟩:∃ c,o[i]? = some c := ⟨_,List.getElem?_eq_getElem hil⟩
      have HC:=hide (show (Pl.ordK d r i)[i]? = some c by rw [← HO.out]; exact hc)
      have hcn:c < d.n:=((Pl.ordK_ok HD.out hr i).mem c (List.mem_of_getElem? HC.out)).1
      have HS:=hide (Pl.code_sgn (Pl.pre_get (Pl.ordK_ord r (by omega)) HC.out))
      have hO:IntsAt wr A5 o.length (nats o):=own_ints' (by rw [map_nats]; exact K0.out.o)
      obtain ⟨b5,o5,rfl,x5⟩:=nats_at hO hil
      have hcg:o.getD i 0 = c:=by rw [List.getD_eq_getElem?_getD,hc]; rfl
      rw [hcg] at x5
      obtain ⟨b1,o1,rfl,x1⟩:=sign_at (HG.out.keep K0.out.bel).s hcn
      obtain ⟨d0,d1,d2,d3⟩:=box3 K0.out.d
      have c0:(0:Int) ≤ (c:Int):=by omega
      have c1:(c:Int) < (d.n:Int):=by omega
      clear hc hO hcg hig
      obtain ⟨i0,hi0,hz0,hz1,hz2⟩:=info_parts intInfo
      obtain ⟨sv,hsv⟩:∃ x,x = d.s c := ⟨_,rfl⟩
      rw [← hsv] at x1
      have HSV:=hide hsv
      clear hsv
      have KA:=hide (K0.out.alloc (.cells #[.int .i64 sv] 3))
      go_upto_region 18 with (at_builtin; refine wpList_append_lies _ (by rfl) _ _ 22 (by rfl) (w.heap.size + 2) 3 i0 (.int .i64 0) 1 8 Tryz.underlying22 hi0 hz0 hz1 hz2 rfl (by omega) _ cs.length _ (by rfl) KA.out.c ⟨wr.heap.size,0,none⟩ 1 1 [.int .i64 sv] (by rfl) (by rfl) (one_news _ _) (by simp [Value.oneCell']) (by omega) (by unfold maxLen; omega) (by omega) KA.out.big (wr.heap.size + 1) (by simp) ?_; intro g3 c3 w3 own3 grow3 at3 lt3; have OWN3 := hide own3; have GR3 := hide grow3; have AT3 := hide at3; clear own3 grow3 at3)
      have KB:=hide (show NK w [.slice (some ⟨b1,o1,none⟩) d.n cp,.slice B m cq,.int .i64 d.lp] (.slice (some ⟨b5,o5,none⟩) o.length c5) (.slice (some ⟨g3,0,none⟩) (cs.length + 1) c3) (Pl.nums d.n o) o ((Pl.code d r).take (5 * i + 1)) w3 from by
       rw [Pl.take_one HS.out,← HCS.out,← HSV.out]
       exact KA.out.appC (by rw [List.map_append]; exact OWN3.out) GR3.out (by simpa using AT3.out))
      clear KA OWN3 GR3 AT3 K0 x5 x1 d0 d1 d2 d3 hki k0 hil
      go_wp2_with fail
      go_loopg [11,12,16,17,56] 4 (fun g s11 s12 s16 s17 s56 wx => ∃ s:Nat,s + g = 4 ∧ s56 = .int .i64 (s:Int) ∧ NK w [.slice (some ⟨b1,o1,none⟩) d.n cp,.slice B m cq,.int .i64 d.lp] s11 s12 (Pl.nums d.n (Pl.addS d o c s)) (Pl.addS d o c s) ((Pl.code d r).take (5 * i + 1 + s)) wx)
      case atStart => exact ⟨0,rfl,rfl,KB.out⟩
      case round =>
       clear KB
       obtain ⟨s,hsg,rfl,hk⟩:=hrel
       have HSG:=hide hsg
       obtain ⟨q,hq⟩:∃ q,q = Pl.addS d o c s := ⟨_,rfl⟩
       obtain ⟨cs,hcs⟩:∃ cs,cs = (Pl.code d r).take (5 * i + 1 + s) := ⟨_,rfl⟩
       rw [← hq,← hcs] at hk
       have K0:=hide hk
       have HQ:=hide hq
       have HCS:=hide hcs
       have hs4:s ≤ 4:=by omega
       have hl5:q.length ≤ 64:=by
        have h:=(Pl.add_ord (d := d) (r := r) (i := i) (s := s) (by omega) HC.out hs4).length_le
        have:=HOL.out
        rw [hq,HO.out]
        omega
       have hl6:cs.length ≤ 330:=by rw [hcs,List.length_take]; omega
       clear hk hq hcs
       obtain ⟨A5,c5,rfl⟩:=owns_slice K0.out.o
       obtain ⟨A6,c6,rfl⟩:=owns_slice K0.out.c
       obtain ⟨gi,rfl⟩:∃ gi,gi = gk := ⟨_,rfl⟩
       by_cases hs:s < 4
       ·have hsi:(s:Int) < 4:=by omega
        have s0:(0:Int) ≤ (s:Int):=by omega
        have hh:4 * c + s < 4 * d.n:=by omega
        have hlt:=HD.out.lt (4 * c + s) hh
        have HX:=hide (Pl.code_step (d := d) (r := r) (i := i) (c := c) (s := s) (by omega) HC.out hs)
        rw [← HO.out] at HX
        obtain ⟨b2,o2,rfl,x2⟩:=mate_at (d := d) (by rw [← HM.out]; have := (HG.out.keep K0.out.bel).m; rwa [← HM.out] at this) hh
        have hmm:m = 4 * d.n:=HM.out
        have i2:(4:Int) * (c:Int) + (s:Int) < (m:Int):=by omega
        clear hmm
        obtain ⟨u,hu⟩:∃ u,u = d.m (4 * c + s) := ⟨_,rfl⟩
        rw [← hu] at x2 hlt
        obtain ⟨b,hb⟩:∃ b,b = u / 4 := ⟨_,rfl⟩
        obtain ⟨t,ht⟩:∃ t,t = u % 4 := ⟨_,rfl⟩
        have hbn:b < d.n:=by omega
        have ht4:t < 4:=by omega
        have q1:(u:Int).tdiv 4 = (b:Int):=by rw [hb]; rfl
        have q2:(u:Int).tmod 4 = (t:Int):=by rw [ht]; rfl
        have q3:(u:Int) / 4 = (b:Int):=by omega
        have q4:(u:Int) % 4 = (t:Int):=by omega
        have HBB:=hide (show Pl.nb d c s = b by unfold Pl.nb; rw [← hu,hb])
        have HT:=hide (show d.m (4 * c + s) % 4 = t by rw [← hu,ht])
        clear hu hb ht hh hsg
        obtain ⟨d0,d1,d2,d3⟩:=box3 K0.out.d
        have bi0:(0:Int) ≤ (b:Int):=by omega
        have bi1:(b:Int) < (d.n:Int):=by omega
        have hnc:=nums_cell K0.out.nu hbn
        have hl0:w.heap.size + 1 < wr.heap.size:=Row.lt K0.out.nu
        by_cases hbq:b ∈ q
        ·have HBQ:=hide hbq
         rw [if_pos hbq] at hnc
         obtain ⟨j,hj⟩:∃ j,j = q.idxOf b := ⟨_,rfl⟩
         rw [← hj] at hnc
         have hjl:j < 64:=by rw [hj]; have := List.idxOf_lt_length_of_mem hbq; omega
         have HJ:=hide hj
         clear hbq hj
         have j0:¬ ((j:Int) < 0):=by omega
         have KA:=hide (K0.out.alloc (.cells #[.int .i64 (4 * (j:Int) + (t:Int))] 3))
         go_wp2_with (first | (at_builtin; refine wpList_append_lies _ (by rfl) _ _ 22 (by rfl) (w.heap.size + 2) 3 i0 (.int .i64 0) 1 8 Tryz.underlying22 hi0 hz0 hz1 hz2 rfl (by omega) _ cs.length _ (by rfl) KA.out.c ⟨wr.heap.size,0,none⟩ 1 1 [.int .i64 (4 * (j:Int) + (t:Int))] (by rfl) (by rfl) (one_news _ _) (by simp [Value.oneCell']) (by omega) (by unfold maxLen; omega) (by omega) KA.out.big (wr.heap.size + 1) (by simp) ?_; intro g3 c3 w3 own3 grow3 at3 lt3; have OWN3 := hide own3; have GR3 := hide grow3; have AT3 := hide at3; clear own3 grow3 at3))
         go_roundg (gi - 1)
         case measure => have := HSG.out; omega
         case rel =>
          refine ⟨s + 1,by have := HSG.out; omega,by go_num,?_⟩
          have e1:Pl.addS d o c (s + 1) = q:=by
           show Pl.addN (Pl.addS d o c s) (Pl.nb d c s) = q
           rw [← HQ.out,HBB.out]
           unfold Pl.addN
           rw [if_pos HBQ.out]
          have e2:(Pl.code d r).take (5 * i + 1 + (s + 1)) = cs ++ [4 * (j:Int) + (t:Int)]:=by
           have hx:=HX.out
           rw [e1,HBB.out,HT.out,← HJ.out] at hx
           rw [show 5 * i + 1 + (s + 1) = 5 * i + 1 + s + 1 by omega,Pl.take_one hx,← HCS.out]
           congr 2
          rw [e1,e2]
          exact KA.out.appC (by rw [List.map_append]; exact OWN3.out) GR3.out (by simpa using AT3.out)
        ·have HBQ:=hide hbq
         rw [if_neg hbq] at hnc
         have f1:=Row.free K0.out.nu b
         have K1:=hide (K0.out.setN b (q.length:Int))
         rw [← Pl.nums_add hbn hbq] at K1
         have KA:=hide (K1.out.alloc (.cells #[.int .i64 (b:Int)] 3))
         clear hbq
         go_upto_region 25 with (at_builtin; refine wpList_append_lies _ (by rfl) _ _ 22 (by rfl) (w.heap.size + 2) 3 i0 (.int .i64 0) 1 8 Tryz.underlying22 hi0 hz0 hz1 hz2 rfl (by omega) _ q.length _ (by rfl) KA.out.o ⟨wr.heap.size,0,none⟩ 1 1 [.int .i64 (b:Int)] (by rfl) (by rfl) (one_newsG _ _ (by simp)) (by simp [Value.oneCell']) (by omega) (by unfold maxLen; omega) (by omega) KA.out.big (wr.heap.size + 1) (by simp) ?_; intro g3 c3 w3 own3 grow3 at3 lt3; have OWN3 := hide own3; have GR3 := hide grow3; have AT3 := hide at3; clear own3 grow3 at3)
         have KB:=hide (KA.out.appO (o' := q ++ [b]) (by rw [List.map_append]; exact OWN3.out) GR3.out (by simpa using AT3.out))
         clear KA K1 K0 OWN3 GR3 AT3 hnc f1 d0 d1 d2 d3 x2
         have hnc:=nums_cell KB.out.nu hbn
         have hin:b ∈ q ++ [b]:=by simp
         have hix:(q ++ [b]).idxOf b = q.length:=by rw [List.idxOf_append,if_neg HBQ.out]; simp
         rw [if_pos hin,hix] at hnc
         clear hin
         have HIX:=hide hix
         clear hix
         have KC:=hide (KB.out.alloc (.cells #[.int .i64 (4 * (q.length:Int) + (t:Int))] 3))
         go_wp2_with (at_builtin; refine wpList_append_lies _ (by rfl) _ _ 22 (by rfl) (w.heap.size + 2) 3 i0 (.int .i64 0) 1 8 Tryz.underlying22 hi0 hz0 hz1 hz2 rfl (by omega) _ cs.length _ (by rfl) KC.out.c ⟨w3.heap.size,0,none⟩ 1 1 [.int .i64 (4 * (q.length:Int) + (t:Int))] (by rfl) (by rfl) (one_news _ _) (by simp [Value.oneCell']) (by omega) (by unfold maxLen; omega) (by omega) KC.out.big (w3.heap.size + 1) (by simp) ?_; intro g4 c4 w4 own3 grow3 at3 lt4; have OWN3 := hide own3; have GR3 := hide grow3; have AT3 := hide at3; clear own3 grow3 at3)
         go_roundg (gi - 1)
         case measure => have := HSG.out; omega
         case rel =>
          refine ⟨s + 1,by have := HSG.out; omega,by go_num,?_⟩
          have e1:Pl.addS d o c (s + 1) = q ++ [b]:=by
           show Pl.addN (Pl.addS d o c s) (Pl.nb d c s) = q ++ [b]
           rw [← HQ.out,HBB.out]
           unfold Pl.addN
           rw [if_neg HBQ.out]
          have e2:(Pl.code d r).take (5 * i + 1 + (s + 1)) = cs ++ [4 * (q.length:Int) + (t:Int)]:=by
           have hx:=HX.out
           rw [e1,HBB.out,HT.out,HIX.out] at hx
           rw [show 5 * i + 1 + (s + 1) = 5 * i + 1 + s + 1 by omega,Pl.take_one hx,← HCS.out]
           congr 2
          rw [e1,e2]
          exact KC.out.appC (by rw [List.map_append]; exact OWN3.out) GR3.out (by simpa using AT3.out)
       ·have hsi:¬ ((s:Int) < 4):=by omega
        have hs5:s = 4:=by omega
        have K5:=hide (show NK w [.slice (some ⟨b1,o1,none⟩) d.n cp,.slice B m cq,.int .i64 d.lp] (.slice A5 q.length c5) (.slice A6 cs.length c6) (Pl.nums d.n (Pl.ordK d r (i + 1))) (Pl.ordK d r (i + 1)) ((Pl.code d r).take (5 * (i + 1))) wr from by
         rw [Pl.ordK_some HC.out,← HO.out,← hs5,← HQ.out,show 5 * (i + 1) = 5 * i + 1 + s by omega,← HCS.out]
         exact K0.out)
        clear hs5
        have hbs:∃ bl,best = some bl ∧ IntsAt w (some ⟨bb,bo,none⟩) bn bl ∧ bn = 5 * L ∧ bl.length = 5 * L ∧ bn ≤ bc:=by
         have h:=HB.out
         cases best with
         | none => exact absurd (show Value.slice (some ⟨bb,bo,none⟩) bn bc = .slice none 0 0 from h) (by simp)
         | some bl =>
           obtain ⟨b',o',c',e,h2,h3,h4⟩:=h
           injection e with e1 e2 e3
           rw [← e1,← e2] at h2
           exact ⟨bl,rfl,h2,by rw [e2,h3,HCL.out],by rw [h3,HCL.out],by omega⟩
        obtain ⟨bl,hbe,hbl,hb5,hb6,hbc⟩:=hbs
        have hs4':s = 4:=by omega
        have hcd:cs.drop (5 * i) = ((Pl.code d r).drop (5 * i)).take 5:=by
         rw [HCS.out,List.drop_take,hs4']
         congr 1
         omega
        have hcl:cs.length = 5 * i + 5:=by rw [HCS.out,List.length_take,HCL.out,hs4']; omega
        have HSTEP:=hide (show Pl.vdt best (Pl.code d r) (5 * (i + 1)) = if v = 0 then Pl.lx (cs.drop (5 * i)) ((bl.drop (5 * i)).take 5) else v by
         rw [HV.out,hbe,hcd,show 5 * (i + 1) = 5 * i + 5 by omega]
         exact Pl.vdt_step (by rw [HCL.out]; omega) (by omega))
        by_cases hvz:v = 0
        ·obtain ⟨C1,hc1,hr1⟩:=cut_hi (own_ints' K0.out.c) (k := 5 * i) (by omega) (own_cap K0.out.c)
         obtain ⟨C2,k2,hc2,hr2⟩:=cut_mid (hbl.keep K0.out.bel) (k := 5 * i) (by omega) hbc
         have e1:((5 * i:Nat):Int) = 5 * (i:Int):=by omega
         have e2:((5 * i + 5:Nat):Int) = 5 * (i:Int) + 5:=by omega
         rw [e1] at hr1 hr2
         rw [e2] at hr2
         have hq1:cs.length - 5 * i ≤ 1000000:=by omega
         have hq2:5 ≤ 1000000:=by omega
         have HST:=hide (show Pl.vdt best (Pl.code d r) (5 * (i + 1)) = Pl.lx (cs.drop (5 * i)) ((bl.drop (5 * i)).take 5) by rw [HSTEP.out,if_pos hvz])
         have HKP:=hide (show Pl.vdt best (Pl.code d r) (5 * (i + 1)) ≠ 0 → Pl.vall best (Pl.code d r) = Pl.vdt best (Pl.code d r) (5 * (i + 1)) from by
          intro h
          rw [hbe] at h ⊢
          exact Pl.vdt_keep (by rw [HCL.out,hb6]) h)
         obtain ⟨ys,hys⟩:∃ ys,ys = (bl.drop (5 * i)).take 5 := ⟨_,rfl⟩
         obtain ⟨xs,hxs⟩:∃ xs,xs = cs.drop (5 * i) := ⟨_,rfl⟩
         rw [← hys] at hc2 HST
         rw [← hxs] at hc1 HST
         have HC1:=hide hc1
         have HC2:=hide hc2
         subst hvz
         clear hys hxs hbe hbl hb5 hb6 hbc hs4' hcd hcl HSTEP e1 e2 hsg hc1 hc2
         by_cases hx0:(0:Int) < Pl.lx xs ys
         ·go_upto_region 28 with fail
          go_quiet ((go_at_call 117; exact Calls.quiet_of_same (compare_any xs ys _ _ _ _ _ _ _ (show IntsAt _ _ _ _ from HC1.out) (show IntsAt _ _ _ _ from HC2.out) hq1 hq2)))
          go_wp2
          refine bodyPost_ret (v := .tuple #[.slice none 0 0,.slice none 0 0,.int .i64 1]) ?_ rfl ⟨fun _ => rfl,fun h => absurd ?_ h,below_drewN K0.out.bel _⟩
          ·simp [results,Tryz.results114,go_sem]
          ·rw [HKP.out (by rw [HST.out]; omega),HST.out]; exact hx0
         ·have hx1:Pl.lx xs ys ≤ 0:=by omega
          go_upto_region 28 with fail
          go_quiet ((go_at_call 117; exact Calls.quiet_of_same (compare_any xs ys _ _ _ _ _ _ _ (show IntsAt _ _ _ _ from HC1.out) (show IntsAt _ _ _ _ from HC2.out) hq1 hq2)))
          go_wp2
          go_roundg (go - 1)
          case measure => have := HIG.out; omega
          case rel => exact ⟨i + 1,Pl.lx xs ys,by have := HIG.out; omega,by go_num,rfl,HST.out.symm,hx1,K5.out.below (below_drewN (Below.refl _ _) _)⟩
        ·have HST:=hide (show v = Pl.vdt best (Pl.code d r) (5 * (i + 1)) by rw [HSTEP.out,if_neg hvz])
         have hvb:(v == 0) = false:=by simpa using hvz
         have hvn:¬ (0 < v):=by omega
         clear hbe hbl hb5 hb6 hbc hs4' hcd hcl HSTEP hsg
         go_wp2
         go_roundg (go - 1)
         case measure => have := HIG.out; omega
         case rel => exact ⟨i + 1,v,by have := HIG.out; omega,by go_num,rfl,HST.out,hv0,K5.out⟩
     ·have hki : ¬ ((i : Int) < ((o.length : Nat) : Int)) := by
       have h1:=(Pl.ordK_ord (d := d) r (k := i) (by omega)).length_le
       have h2:=HL.out
       rw [HO.out]
       omega
      have hiL2:i = L:=by omega
      have HE:=hide (show o = Pl.ord d r ∧ cs = Pl.code d r by
       have h1:=(Pl.ordK_ord (d := d) r (k := i) (by omega)).length_le
       have h2:=HL.out
       rw [HO.out,HCS.out]
       exact ⟨Pl.ord_eq (by omega) (by omega),List.take_of_length_le (by rw [HCL.out]; omega)⟩)
      have HVE:=hide (show v = Pl.vall best (Pl.code d r) by
       rw [HV.out]
       refine (Pl.vdt_all (by rw [HCL.out]; omega) (fun b e => ?_))
       have h:=HB.out
       rw [e] at h
       obtain ⟨_,_,_,_,_,h3,_⟩:=h
       rw [h3,HCL.out]; omega)
      clear hig hiL2
      go_wp2
      refine bodyPost_ret (v := .tuple #[.slice A6 cs.length c6,.slice A5 o.length c5,.int .i64 v]) ?_ rfl ⟨fun h => ?_,fun _ => ⟨_,_,by rw [← HVE.out],?_,?_⟩,K0.out.bel⟩
      ·simp [results,Tryz.results114,go_sem]
      ·rw [← HVE.out] at h; omega
      ·have h:=K0.out.c
       rw [HE.out.2] at h
       rw [HE.out.2]
       exact own_base h (by omega)
      ·have h:=K0.out.o
       rw [HE.out.1] at h
       rw [HE.out.1]
       exact own_base h (by omega)
end Go.Proofs.YtghdiolnonejaaaGreatDoor
end
section
namespace Go.Proofs.YtghdiolnonejaaaGreatDoor
open Go Go.RowKit
def IntT (W:World) (v:Value) (xs:List Int):Prop := ∃ A c,v = .slice A xs.length c ∧ xs.length ≤ c ∧ RowT W 3 A xs.length (xs.map (.int .i64))
theorem IntT.below {W W':World} {v:Value} {xs:List Int} (h:IntT W v xs) (hb:Below W.heap.size W W'):IntT W' v xs := let ⟨A,c,e,h1,h2⟩:=h; ⟨A,c,e,h1,h2.keep hb⟩
theorem IntT.grown {W W':World} {v:Value} {xs:List Int} {row:Option Nat} {t':TypeId} (h:IntT W v xs) (hg:W.grownBy W' row) (hr:∀ g,row = some g → ∃ cs fr,W.heap[g]? = some (.cells cs t' fr)) (hne:3 ≠ t'):IntT W' v xs := let ⟨A,c,e,h1,h2⟩:=h; ⟨A,c,e,h1,h2.grown hg hr hne⟩
theorem IntT.store {W:World} {v:Value} {xs:List Int} {g i:Nat} {us:List Value} {t':TypeId} (h:IntT W v xs) (hr:Row W g t' us) (hne:3 ≠ t') (u:Value):IntT (W.setCell ⟨g,i,none⟩ u) v xs := let ⟨A,c,e,h1,h2⟩:=h; ⟨A,c,e,h1,h2.store hr hne _⟩
theorem own_intT {W:World} {base:Nat} {v:Value} {xs:List Int} (h:W.ownsRow base 3 1 v xs.length (xs.map (.int .i64))):IntT W v xs := by
 obtain ⟨A,c,rfl⟩:=owns_slice h
 exact ⟨A,c,rfl,own_cap h,own_rowT h⟩
structure PcV (W:World) (vC vO:Value) (x:Int) (p:Pl.Pc):Prop where
 c:IntT W vC p.code
 o:IntT W vO (nats p.order)
 r:x = p.roots
section
variable {W W':World} {vC vO:Value} {x:Int} {p:Pl.Pc}
theorem PcV.below (h:PcV W vC vO x p) (hb:Below W.heap.size W W'):PcV W' vC vO x p := ⟨h.c.below hb,h.o.below hb,h.r⟩
theorem PcV.grown {row:Option Nat} {t':TypeId} (h:PcV W vC vO x p) (hg:W.grownBy W' row) (hr:∀ g,row = some g → ∃ cs fr,W.heap[g]? = some (.cells cs t' fr)) (hne:3 ≠ t'):PcV W' vC vO x p := ⟨h.c.grown hg hr hne,h.o.grown hg hr hne,h.r⟩
theorem PcV.store {g i:Nat} {us:List Value} {t':TypeId} (h:PcV W vC vO x p) (hr:Row W g t' us) (hne:3 ≠ t') (u:Value):PcV (W.setCell ⟨g,i,none⟩ u) vC vO x p := ⟨h.c.store hr hne u,h.o.store hr hne u,h.r⟩
end
def PBox (d:Pl.Dg) (l:List Nat) (k:Nat) (W:World) (vC vO:Value) (x:Int):Prop :=
 (k = 0 ∧ vC = .slice none 0 0 ∧ vO = .slice none 0 0 ∧ x = 0) ∨ ∃ p,PcV W vC vO x p ∧ Pl.Lst5 d (l.take k) p ∧ 0 ≤ x ∧ x ≤ k
theorem PBox.below {d:Pl.Dg} {l:List Nat} {k:Nat} {W W':World} {vC vO:Value} {x:Int} (h:PBox d l k W vC vO x) (hb:Below W.heap.size W W'):PBox d l k W' vC vO x := by
 rcases h with h | ⟨p,h1,h2⟩
 ·exact .inl h
 ·exact .inr ⟨p,h1.below hb,h2⟩
theorem PBox.best {d:Pl.Dg} (hd:Pl.Wf d) {l:List Nat} {k q:Nat} {W:World} {vC vO:Value} {x:Int} (h:PBox d l k W vC vO x) (hq:q < d.n) (hl:∀ c,c ∈ l → c < d.n ∧ Pl.Comp d c q) :
 (k = 0 ∧ BestAt W vC (Pl.code d q).length none) ∨ ∃ p,PcV W vC vO x p ∧ Pl.Lst5 d (l.take k) p ∧ 0 ≤ x ∧ x ≤ k ∧ BestAt W vC (Pl.code d q).length (some p.code) := by
 rcases h with ⟨h0,h1,h2,_⟩ | ⟨p,h1,h2,h3,h4⟩
 ·exact .inl ⟨h0,h1⟩
 ·refine .inr ⟨p,h1,h2,h3,h4,?_⟩
  obtain ⟨r,hr,hc,ho⟩:=h2.is
  have hm:=hl r (List.mem_of_mem_take hr)
  obtain ⟨A,c,e,hcap,ht⟩:=h1.c
  have hlen:p.code.length = (Pl.code d q).length:=by rw [hc]; exact Pl.code_len_eq hd hm.1 hq hm.2
  have hpos:0 < p.code.length:=by
   rw [hlen,Pl.code_len]
   have:=(Pl.ord_ok hd hq).root
   have:=List.length_pos_of_mem this
   omega
  obtain ⟨b,o,cs,fr,hA,_⟩:=ht.2 hpos
  subst hA
  exact ⟨b,o,c,e,ht.row,hlen,hcap⟩
end Go.Proofs.YtghdiolnonejaaaGreatDoor
end
section
namespace Go.Proofs.YtghdiolnonejaaaGreatDoor
open Go Go.RowKit
attribute [local go_sem ↓] Go.wp_at_zero Go.wp_at_succ
theorem own_setNe {W:World} {base b n s:Nat} {e:TypeId} {v:Value} {xs:List Value} (h:W.ownsRow base e s v n xs) (hne:v.ownBlock ≠ some b) (o:Nat) (u:Value):(W.setCell ⟨b,o,none⟩ u).ownsRow base e s v n xs := by
 refine ⟨h.1,?_⟩
 rcases h.2 with hz | ⟨g,cap,cur,r1,r2,r3,r4⟩
 ·exact .inl hz
 ·refine .inr ⟨g,cap,cur,r1,r2,?_,r4⟩
  have hgb:g ≠ b:=fun e => hne (by rw [r1,e]; rfl)
  exact (Below.heap_setCell W ⟨b,o,none⟩ u g hgb).trans r3
def PcsV (W:World):List Value → List Pl.Pc → Prop
 | [],[] => True
 | vC :: vO :: .int .i64 x :: r,p :: ps => PcV W vC vO x p ∧ PcsV W r ps
 | _,_ => False
theorem PcsV.map {W W':World} (f:∀ {vC vO:Value} {x:Int} {p:Pl.Pc},PcV W vC vO x p → PcV W' vC vO x p):∀ {cs:List Value} {ps:List Pl.Pc},PcsV W cs ps → PcsV W' cs ps
 | [],[],_ => trivial
 | vC :: vO :: .int .i64 x :: r,p :: ps,h => ⟨f h.1,PcsV.map f h.2⟩
theorem PcsV.add {W:World} {vC vO:Value} {x:Int} {p:Pl.Pc} (hp:PcV W vC vO x p):∀ {cs:List Value} {ps:List Pl.Pc},PcsV W cs ps → PcsV W (cs ++ [vC,vO,.int .i64 x]) (ps ++ [p])
 | [],[],_ => ⟨hp,trivial⟩
 | vC' :: vO' :: .int .i64 x' :: r,p' :: ps,h => ⟨h.1,PcsV.add hp h.2⟩
structure GRf (d:Pl.Dg) (ls:List Int) (P:Nat) (A:Option Addr) (vs:List Value) (W:World):Prop where
 r:RowT W 22 A P vs
 v:Vs W vs ((List.range P).map (Gl ls d.n))
structure PL (w:World) (d:Pl.Dg) (ls:List Int) (P:Nat) (A:Option Addr) (vs dv:List Value) (j:Nat) (vL:Value) (cs:List Value) (ps:List Pl.Pc) (W:World):Prop where
 bx:Row W w.heap.size 24 dv
 gr:GRf d ls P A vs W
 own:W.ownsRow (w.heap.size + 1) 146 3 vL j cs
 pv:PcsV W cs ps
 len:ps.length = j
 is:∀ (i:Nat) (p:Pl.Pc),ps[i]? = some p → Pl.Lst5 d (Gl ls d.n i) p
 bel:Below w.heap.size w W
section
variable {w W W':World} {d:Pl.Dg} {ls:List Int} {P:Nat} {A:Option Addr} {vs dv:List Value} {j:Nat} {vL:Value} {cs:List Value} {ps:List Pl.Pc}
theorem PL.big (h:PL w d ls P A vs dv j vL cs ps W):w.heap.size + 1 ≤ W.heap.size := by have := h.bx.lt; omega
theorem PL.below (h:PL w d ls P A vs dv j vL cs ps W) (hb:Below W.heap.size W W'):PL w d ls P A vs dv j vL cs ps W' :=
 ⟨h.bx.below hb,⟨h.gr.r.keep hb,h.gr.v.below hb⟩,own_below h.own hb,h.pv.map (fun p => p.below hb),h.len,h.is,h.bel.trans (hb.mono h.bel.size)⟩
theorem PL.alloc (h:PL w d ls P A vs dv j vL cs ps W) (o:Obj):PL w d ls P A vs dv j vL cs ps (W.alloc o) := h.below ((Below.refl _ _).alloc (Nat.le_refl _) o)
theorem PL.setB (h:PL w d ls P A vs dv j vL cs ps W) {g:Nat} {us:List Value} (hr:Row W g 146 us) (hg:w.heap.size < g) (hne:vL.ownBlock ≠ some g) (o:Nat) (u:Value):PL w d ls P A vs dv j vL cs ps (W.setCell ⟨g,o,none⟩ u) :=
 ⟨h.bx.other (by show _ ≠ g; omega) _,⟨h.gr.r.store hr (by decide) u,h.gr.v.store hr (by decide) u⟩,own_setNe h.own hne o u,h.pv.map (fun p => p.store hr (by decide) u),h.len,h.is,h.bel.setCell (by show _ ≤ g; omega) _⟩
theorem PL.app (h:PL w d ls P A vs dv j vL cs ps W) {g c n:Nat} {vC vO:Value} {x:Int} {p:Pl.Pc} (own:W'.ownsRow (w.heap.size + 1) 146 3 (.slice (some ⟨g,0,none⟩) n c) n (cs ++ [vC,vO,.int .i64 x])) (gr:W.grownBy W' vL.ownBlock) (hn:n = j + 1) (hp:PcV W vC vO x p) (hi:Pl.Lst5 d (Gl ls d.n j) p) :
 PL w d ls P A vs dv n (.slice (some ⟨g,0,none⟩) n c) (cs ++ [vC,vO,.int .i64 x]) (ps ++ [p]) W' := by
 have hbk:=fun g (hg:vL.ownBlock = some g) => ownsRow_block h.own g hg
 refine ⟨h.bx.grown gr (fun e => ?_),⟨h.gr.r.grown gr hbk (by decide),h.gr.v.grown gr hbk (by decide)⟩,own,PcsV.add (hp.grown gr hbk (by decide)) (h.pv.map (fun q => q.grown gr hbk (by decide))),by rw [List.length_append,h.len,hn]; rfl,fun i q hq => ?_,h.bel.grown gr h.bel.size (fun k hk => by have := (h.own.lt k hk).1; omega)⟩
 ·have:=(h.own.lt _ e.symm).1
  omega
 ·rw [List.getElem?_append] at hq
  split at hq
  ·exact h.is i q hq
  ·have h1:=(List.getElem?_eq_some_iff.1 hq).1
   have h2:i = j:=by have := h.len; simp at h1; omega
   subst h2
   rw [h.len,Nat.sub_self] at hq
   injection hq with hq
   subst hq
   exact hi
end
end Go.Proofs.YtghdiolnonejaaaGreatDoor
end
section
namespace Go.Proofs.YtghdiolnonejaaaGreatDoor
open Go Go.RowKit
attribute [local go_sem ↓] Go.wp_at_zero Go.wp_at_succ
theorem PL.setB3 {w W:World} {d:Pl.Dg} {ls:List Int} {P:Nat} {A:Option Addr} {vs dv:List Value} {j:Nat} {vL:Value} {cs:List Value} {ps:List Pl.Pc} (h:PL w d ls P A vs dv j vL cs ps W) {g:Nat} {us:List Value} (hr:Row W g 146 us) (hg:w.heap.size < g) (hne:vL.ownBlock ≠ some g) (y0 y1 y2:Value) :
 PL w d ls P A vs dv j vL cs ps (((W.setCell ⟨g,0,none⟩ y0).setCell ⟨g,1,none⟩ y1).setCell ⟨g,2,none⟩ y2) :=
 ((h.setB hr hg hne 0 y0).setB (hr.set 0 y0) hg hne 1 y1).setB ((hr.set 0 y0).set 1 y1) hg hne 2 y2
theorem IntT.store3 {W:World} {v:Value} {xs:List Int} (h:IntT W v xs) {g:Nat} {us:List Value} (hr:Row W g 146 us) (y0 y1 y2:Value) :
 IntT (((W.setCell ⟨g,0,none⟩ y0).setCell ⟨g,1,none⟩ y1).setCell ⟨g,2,none⟩ y2) v xs :=
 ((h.store hr (by decide) y0).store (hr.set 0 y0) (by decide) y1).store ((hr.set 0 y0).set 1 y1) (by decide) y2
theorem own_natT {W:World} {base:Nat} {v:Value} {l:List Nat} (h:W.ownsRow base 3 1 v l.length (l.map (fun k:Nat => Value.int .i64 k))):IntT W v (nats l) := by
 refine own_intT (base := base) ?_
 rw [map_nats]
 have e:(nats l).length = l.length:=by unfold nats; simp
 rw [e]
 exact h
structure PI (w:World) (d:Pl.Dg) (ls:List Int) (P:Nat) (A:Option Addr) (vs dv:List Value) (j:Nat) (vL:Value) (cs:List Value) (ps:List Pl.Pc) (g6 k:Nat) (vC vO:Value) (x:Int) (W:World):Prop where
 p:PL w d ls P A vs dv j vL cs ps W
 r:Row W g6 146 [vC,vO,.int .i64 x]
 b:PBox d (Gl ls d.n j) k W vC vO x
 lo:w.heap.size < g6
 ne:vL.ownBlock ≠ some g6
section
variable {w W W':World} {d:Pl.Dg} {ls:List Int} {P:Nat} {A:Option Addr} {vs dv:List Value} {j g6 k:Nat} {vL vC vO:Value} {x:Int} {cs:List Value} {ps:List Pl.Pc}
theorem PI.below (h:PI w d ls P A vs dv j vL cs ps g6 k vC vO x W) (hb:Below W.heap.size W W'):PI w d ls P A vs dv j vL cs ps g6 k vC vO x W' :=
 ⟨h.p.below hb,h.r.below hb,h.b.below hb,h.lo,h.ne⟩
theorem PI.put (h:PI w d ls P A vs dv j vL cs ps g6 k vC vO x W) {p:Pl.Pc} {vC' vO':Value} (hp:PcV W vC' vO' 1 p) (hl:Pl.Lst5 d ((Gl ls d.n j).take (k + 1)) p) :
 PI w d ls P A vs dv j vL cs ps g6 (k + 1) vC' vO' 1 (((W.setCell ⟨g6,0,none⟩ vC').setCell ⟨g6,1,none⟩ vO').setCell ⟨g6,2,none⟩ (.int .i64 1)) :=
 ⟨h.p.setB3 h.r h.lo h.ne _ _ _,row3 h.r rfl _ _ _,.inr ⟨p,⟨hp.c.store3 h.r _ _ _,hp.o.store3 h.r _ _ _,hp.r⟩,hl,by omega,by omega⟩,h.lo,h.ne⟩
theorem PI.more (h:PI w d ls P A vs dv j vL cs ps g6 k vC vO x W) {p:Pl.Pc} (hp:PcV W vC vO x p) (hl:Pl.Lst5 d ((Gl ls d.n j).take (k + 1)) ⟨p.code,p.order,x + 1⟩) (h0:0 ≤ x) (h1:x ≤ k) :
 PI w d ls P A vs dv j vL cs ps g6 (k + 1) vC vO (x + 1) (W.setCell ⟨g6,2,none⟩ (.int .i64 (x + 1))) :=
 ⟨h.p.setB h.r h.lo h.ne _ _,h.r.set 2 (.int .i64 (x + 1)),.inr ⟨⟨p.code,p.order,x + 1⟩,⟨hp.c.store h.r (by decide) _,hp.o.store h.r (by decide) _,rfl⟩,hl,by omega,by omega⟩,h.lo,h.ne⟩
theorem PI.skip (h:PI w d ls P A vs dv j vL cs ps g6 k vC vO x W) {p:Pl.Pc} (hp:PcV W vC vO x p) (hl:Pl.Lst5 d ((Gl ls d.n j).take (k + 1)) ⟨p.code,p.order,x⟩) (h0:0 ≤ x) (h1:x ≤ k) :
 PI w d ls P A vs dv j vL cs ps g6 (k + 1) vC vO x W :=
 ⟨h.p,h.r,.inr ⟨⟨p.code,p.order,x⟩,⟨hp.c,hp.o,rfl⟩,hl,by omega,by omega⟩,h.lo,h.ne⟩
end
theorem gl_comp {d:Pl.Dg} {ls:List Int} {P:Nat} (h:Pl.LB d ls P) (hp:∀ a,a < d.n → 0 ≤ Pl.pv ls a) {j a b:Nat} (ha:a ∈ Gl ls d.n j) (hb:b ∈ Gl ls d.n j):a < d.n ∧ Pl.Comp d a b := by
 rw [mem_Gl] at ha hb
 exact ⟨ha.1,h.conn a b ha.1 hb.1 (hp a ha.1) (by rw [ha.2,hb.2])⟩
theorem gl_at {P j:Nat} (ls:List Int) (n:Nat) (hj:j < P):((List.range P).map (Gl ls n))[j]? = some (Gl ls n j) := by
 rw [List.getElem?_map,List.getElem?_range hj]; rfl
end Go.Proofs.YtghdiolnonejaaaGreatDoor
end
section
namespace Go.Proofs.YtghdiolnonejaaaGreatDoor
open Go Go.RowKit
attribute [local go_sem ↓] Go.wp_at_zero Go.wp_at_succ
theorem mvs_get:∀ (ms:List Mv) (j:Nat) (z:Mv),ms[j]? = some z → ∀ (i:Nat) (u:Value),z.cells[i]? = some u → (mvs ms)[j * 5 + i]? = some u
 | [],j,z,h,_,_,_ => by cases h
 | m :: ms, 0, z, h, i, u, hu => by
   obtain rfl:m = z := by simpa using h
   have hi:i < m.cells.length:=(List.getElem?_eq_some_iff.1 hu).1
   show (m.cells ++ mvs ms)[0 * 5 + i]? = some u
   rw [Nat.zero_mul,Nat.zero_add,List.getElem?_append_left hi,hu]
 | m :: ms, j + 1, z, h, i, u, hu => by
   have ih:=mvs_get ms j z (by simpa using h) i u hu
   show (m.cells ++ mvs ms)[(j + 1) * 5 + i]? = some u
   have e:m.cells.length = 5:=rfl
   rw [List.getElem?_append_right (by rw [e]; omega),e,← ih]
   congr 1
   omega
end Go.Proofs.YtghdiolnonejaaaGreatDoor
end
section
namespace Go.Proofs.YtghdiolnonejaaaGreatDoor
open Go Go.RowKit
attribute [local go_sem ↓] Go.wp_at_zero Go.wp_at_succ
structure AR (w:World) (dv:List Value) (b:Nat) (v:Value) (ms:List Mv) (R:Option Addr) (nr:Nat) (rs:List Mv) (W:World):Prop where
 al:AL w dv b v ms W
 rv:MovesV W R nr rs
 ne:∀ g,0 < nr → R = some ⟨g,0,none⟩ → some g ≠ v.ownBlock
section
variable {w W W':World} {dv:List Value} {b nr:Nat} {v v':Value} {ms ms' rs:List Mv} {R:Option Addr}
end
end Go.Proofs.YtghdiolnonejaaaGreatDoor
end
