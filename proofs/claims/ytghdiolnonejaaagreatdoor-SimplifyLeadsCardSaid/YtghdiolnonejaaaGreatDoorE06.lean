/-
 The texts Xr, Xt, Xu, Xv, Xx, Ya, Xw, Xy, Yh, Pok, Pkv, Cmq, Cmk, Pke, Za, Zb.
-/
import Derived.Test.YtghdiolnonejaaaGreatDoorE04
set_option linter.unusedVariables false
set_option linter.unusedSimpArgs false
section
namespace Go.Proofs.YtghdiolnonejaaaGreatDoor
open Go Go.RowKit
attribute [local go_sem ↓] Go.wp_at_zero Go.wp_at_succ
structure MG (w:World) (T:TypeId) (gd gl:Nat) (dv:List Value) (v:Value) (ms:List Mv) (W:World):Prop where
 d:Row W gd T dv
 l:Row W gl 27 [v]
 o:W.ownsRow (gl + 1) 43 5 v ms.length (mvs ms)
 bel:Below w.heap.size w W
 lo:w.heap.size ≤ gd
 lt:gd < gl
section
variable {w W W' W2:World} {T:TypeId} {gd gl:Nat} {dv:List Value} {v v':Value} {ms:List Mv} {m:Mv}
theorem MG.below (h:MG w T gd gl dv v ms W) (hb:Below W.heap.size W W'):MG w T gd gl dv v ms W' :=
 ⟨h.d.below hb,h.l.below hb,own_below h.o hb,h.bel.trans (hb.mono h.bel.size),h.lo,h.lt⟩
theorem MG.alloc (h:MG w T gd gl dv v ms W) (o:Obj):MG w T gd gl dv v ms (W.alloc o) := h.below ((Below.refl _ _).alloc (Nat.le_refl _) o)
theorem MG.big (h:MG w T gd gl dv v ms W):gl < W.heap.size := h.l.lt
theorem MG.far (h:MG w T gd gl dv v ms W) {g:Nat} (hg:g ≤ gl):some g ≠ v.ownBlock := fun e => by have := (h.o.lt g e.symm).1; omega
theorem MG.push (h:MG w T gd gl dv v ms W) (own:W2.ownsRow (gl + 1) 43 5 v' (ms.length + 1) (mvs ms ++ m.cells)) (gr:W.grownBy W2 v.ownBlock):MG w T gd gl dv v' (ms ++ [m]) (W2.setCell ⟨gl,0,none⟩ v') := by
 have a:=h.lo
 have b:=h.lt
 refine ⟨(h.d.grown gr (h.far (by omega))).other (by show gd ≠ gl; omega) _,(h.l.grown gr (h.far (Nat.le_refl _))).set 0 v',?_,?_,h.lo,h.lt⟩
 ·rw [mvs_app,List.length_append]
  exact ownsRow_setCell_below own (by show gl < gl + 1; omega) _
 ·exact (h.bel.grown gr h.bel.size (fun k hk => by have := (h.o.lt k hk).1; omega)).setCell (by show _ ≤ gl; omega) _
end
def one (c:Int) (m:Mv):List Mv := if c = 0 then [m] else []
theorem one_yes {c:Int} {m:Mv} (h:c = 0):one c m = [m] := by unfold one; rw [if_pos h]
theorem one_no {c:Int} {m:Mv} (h:¬ c = 0):one c m = [] := by unfold one; rw [if_neg h]
theorem one_len (c:Int) (m:Mv):(one c m).length ≤ 1 := by unfold one; split <;> simp
def MovesIn (b:Nat) (w:World) (v:Value) (ms:List Mv):Prop := ∃ base,b ≤ base ∧ base ≤ w.heap.size ∧ w.ownsRow base 43 5 v ms.length (mvs ms)
theorem MovesIn.at {b:Nat} {w:World} {v:Value} {ms:List Mv} (h:MovesIn b w v ms):MovesAt w v ms := let ⟨base,_,_,h⟩:=h; ⟨base,h⟩
def unL (d:Pl.Dg):Nat → List Mv
 | 0 => []
 | k + 1 => unL d k ++ one (uncC d k) ⟨2,k,0,0,false⟩
theorem unL_len (d:Pl.Dg):∀ k,(unL d k).length ≤ k
 | 0 => Nat.le_refl _
 | k + 1 => by
   have a:=unL_len d k
   have b:=one_len (uncC d k) ⟨2,k,0,0,false⟩
   show (unL d k ++ one (uncC d k) ⟨2,k,0,0,false⟩).length ≤ _
   rw [List.length_append]
   omega
set_option maxRecDepth 100000 in
set_option maxHeartbeats 4000000 in
theorem unTry_any (d:Pl.Dg) (hd:Pl.Wf d) (A B:Option Addr) (cp cq m gd gl c:Nat) (v:Value) (ms:List Mv) (w0 w:World) (hm:m = 4 * d.n) (hg:DgAt w A B d) (hc:c < d.n) (hms:ms.length ≤ 1000000)
 (hp:MG w0 24 gd gl [.slice A d.n cp,.slice B m cq,.int .i64 (d.lp:Int)] v ms w) :
 Calls Tryz.prog 93 #[.agg #[.int .i64 2,.int .i64 (c:Int),.int .i64 0,.int .i64 0,.bool false],.pointer (some ⟨gd,0,none⟩),.pointer (some ⟨gl,0,none⟩)] w fun e w' => e = .returned (.tuple #[]) ∧ ∃ v',MG w0 24 gd gl [.slice A d.n cp,.slice B m cq,.int .i64 (d.lp:Int)] v' (ms ++ one (uncC d c) ⟨2,c,0,0,false⟩) w' := by
 have HM:=hide hm
 have HG:=hide hg
 have hn:=hd.few
 obtain ⟨cc,hcc⟩:∃ c',c' = uncC d c := ⟨_,rfl⟩
 have HC:=hide hcc
 have hb0:Below w.heap.size w (w.alloc (.cells #[.int .i64 2,.int .i64 (c:Int),.int .i64 0,.int .i64 0,.bool false] 43)):=(Below.refl _ _).alloc (Nat.le_refl _) _
 have HB0:=hide hb0
 have P1:=hide (hp.below hb0)
 have M1:=hide (row_at (W := w) (g := w.heap.size) (t := 43) (vs := [.int .i64 2,.int .i64 (c:Int),.int .i64 0,.int .i64 0,.bool false]) rfl)
 have hgl:gl < w.heap.size:=hp.big
 have hgd:gd < gl:=hp.lt
 clear hp hb0 hg hm hcc
 obtain ⟨d0,d1,d2,d3⟩:=box3 P1.out.d
 obtain ⟨e0,e1,e2,e3,e4,e5⟩:=box5 M1.out
 go_enter Tryz.func93,Tryz.ntmps93
 go_wp2_with fail
 refine (kink_any d hd A B cp cq m c _ HM.out (HG.out.keep HB0.out) hc).mono ?_
 rintro e w1 ⟨he,hb1⟩
 have P2:=hide (P1.out.below hb1)
 have M2:=hide (M1.out.below hb1)
 have HB1:=hide (HB0.out.trans (hb1.mono HB0.out.size))
 have hs2:w.heap.size < w1.heap.size:=M2.out.lt
 have hs3:gl < w1.heap.size:=by omega
 have HE:=hide he
 clear hb1 d0 d1 d2 d3 e0 e1 e2 e3 e4 e5 HB0 P1 M1 he
 obtain ⟨d0,d1,d2,d3⟩:=box3 P2.out.d
 obtain ⟨e0,e1,e2,e3,e4,e5⟩:=box5 M2.out
 by_cases hI:isK d c
 ·have HE2:=HE.out
  rw [Pl.vb_true hI] at HE2
  unfold kinkE at HE2
  obtain ⟨z1,hz1⟩:∃ z:Nat,z = Pl.tn (kk d c) 2 := ⟨_,rfl⟩
  obtain ⟨z2,hz2⟩:∃ z:Nat,z = Pl.tn (d.m (kk d c)) 2 := ⟨_,rfl⟩
  rw [← hz1,← hz2] at HE2
  simp only [if_true] at HE2
  subst HE2
  clear HE hI hz1 hz2
  go_wp2_with fail
  refine (uncurl_m d hd A B cp cq m c 2 0 0 false _ HM.out (HG.out.keep HB1.out) hc).mono ?_
  rintro e w3 ⟨r1,r2,hb3⟩
  have P3:=hide (P2.out.below hb3)
  have M3:=hide (M2.out.below hb3)
  have hs4:w.heap.size < w3.heap.size:=M3.out.lt
  have hs5:gl < w3.heap.size:=by omega
  rw [← HC.out] at r1 r2
  have R1:=hide r1
  have R2:=hide r2
  clear r1 r2 hb3 d0 d1 d2 d3 e0 e1 e2 e3 e4 e5 HB1 P2 M2
  obtain ⟨e0,e1,e2,e3,e4,e5⟩:=box5 M3.out
  have hs6:gl < w3.heap.size + 1:=by omega
  have hs7:gl < w3.heap.size + 1 + 1:=by omega
  have hs8:w.heap.size < w3.heap.size + 1:=by omega
  have hs9:w.heap.size < w3.heap.size + 1 + 1:=by omega
  by_cases h0:cc = 0
  ·obtain ⟨A9,B9,c8,c9,k9,x9,y9,s9,o9,hmv,rfl,hT⟩:=ResOk.split (R2.out h0)
   have E:=hide (show one cc ⟨2,c,0,0,false⟩ = [⟨2,c,0,0,false⟩] from one_yes h0)
   clear h0 R1 R2 hmv hT
   obtain ⟨N9,hN9⟩:∃ n,n = (unD d c).n := ⟨_,rfl⟩
   obtain ⟨N4,hN4⟩:∃ n,n = 4 * (unD d c).n := ⟨_,rfl⟩
   obtain ⟨L9,hL9⟩:∃ n,n = (unD d c).lp := ⟨_,rfl⟩
   rw [← hN4,← hN9,← hL9]
   clear hN9 hN4 hL9
   obtain ⟨q0,q1⟩:=box1 P3.out.l
   obtain ⟨n0,hn0,hz0,hz1,hz2⟩:=info_parts moveInfo
   have PA:=hide ((P3.out.alloc (.cells #[.slice A9 N9 c8,.slice B9 N4 c9,.int .i64 (L9:Int)] 24)).alloc (.cells #[.int .i64 k9,.int .i64 x9,.int .i64 y9,.int .i64 s9,.bool o9] 43))
   have A0:=hide (PA.out.alloc (.cells (Mv.cells ⟨2,c,0,0,false⟩).toArray 43)).o
   have A1:∀ u ∈ Mv.cells ⟨2,c,0,0,false⟩,u.oneCell' = true:=by simp [Mv.cells,Value.oneCell']
   have A2:ms.length + 1 ≤ maxLen:=by unfold maxLen; omega
   have A3:(ms.length + 1) * 40 ≤ 140737488355328:=by omega
   have A6:=hide (five_news ((w3.alloc (.cells #[.slice A9 N9 c8,.slice B9 N4 c9,.int .i64 (L9:Int)] 24)).alloc (.cells #[.int .i64 k9,.int .i64 x9,.int .i64 y9,.int .i64 s9,.bool o9] 43)) (w3.heap.size + 1 + 1) (by simp) ⟨2,c,0,0,false⟩)
   go_wp2_with (at_builtin; refine wpList_append_lies _ (by rfl) _ _ 27 (by rfl) (gl + 1) 43 n0 (.agg #[.int .i64 0,.int .i64 0,.int .i64 0,.int .i64 0,.bool false]) 5 40 Tryz.underlying27 hn0 hz0 hz1 hz2 rfl (by omega) v ms.length (mvs ms) (by rfl) A0.out ⟨w3.heap.size + 1 + 1,0,none⟩ 1 1 (Mv.cells ⟨2,c,0,0,false⟩) (by rfl) (by rfl) A6.out A1 (by omega) A2 A3 (by simp; omega) (w3.heap.size + 1 + 1 + 1) (by simp) ?_; intro g2 c2 w2 own2 grow2 at2 lt2; obtain ⟨q2,q3⟩:=box1 ((PA.out.alloc (.cells (Mv.cells ⟨2,c,0,0,false⟩).toArray 43)).l.grown grow2 ((PA.out.alloc (.cells (Mv.cells ⟨2,c,0,0,false⟩).toArray 43)).far (Nat.le_refl _))); have OWN2 := hide own2; have GR2 := hide grow2; clear own2 grow2 at2)
   refine bodyPost_end (results_none rfl _ _ _) rfl ⟨rfl,.slice (some ⟨g2,0,none⟩) (ms.length + 1) c2,?_⟩
   rw [← HC.out,E.out]
   exact (PA.out.alloc _).push OWN2.out GR2.out
  ·have E:=hide (show one cc ⟨2,c,0,0,false⟩ = [] from one_no h0)
   have hE:=ResErr.split (R1.out h0)
   subst hE
   have t1:(cc == 0) = false:=by rw [beq_eq_false_iff_ne]; exact h0
   clear h0 R1 R2
   go_wp2
   refine bodyPost_end (results_none rfl _ _ _) rfl ⟨rfl,v,?_⟩
   rw [← HC.out,E.out,List.append_nil]
   exact (P3.out.alloc _).alloc _
 ·have HE2:=HE.out
  rw [Pl.vb_false hI] at HE2
  have E:=hide (show one cc ⟨2,c,0,0,false⟩ = [] from one_no (by
   rw [HC.out]
   unfold uncC
   rw [if_neg (show ¬ d.m (kk d c) / 4 = c from hI)]
   decide))
  unfold kinkE at HE2
  simp only [Bool.false_eq_true,if_false] at HE2
  subst HE2
  clear HE hI
  go_wp2
  refine bodyPost_ret (results_none rfl _ _ _) rfl ⟨rfl,v,?_⟩
  rw [← HC.out,E.out,List.append_nil]
  exact P2.out
set_option maxRecDepth 100000 in
set_option maxHeartbeats 4000000 in
theorem uncurls_any (d:Pl.Dg) (hd:Pl.Wf d) (A B:Option Addr) (cp cq m:Nat) (w:World) (hm:m = 4 * d.n) (hg:DgAt w A B d) :
 Calls Tryz.prog 55 #[.agg #[.slice A d.n cp,.slice B m cq,.int .i64 d.lp]] w fun e w' => ∃ v,e = .returned v ∧ MovesIn w.heap.size w' v (unL d d.n) ∧ Below w.heap.size w w' := by
 have HM:=hide hm
 have HG:=hide hg
 have hn:=hd.few
 have P0:=hide (show MG w 24 w.heap.size (w.heap.size + 1) [.slice A d.n cp,.slice B m cq,.int .i64 (d.lp:Int)] (.slice none 0 0) [] ((w.alloc (.cells #[.slice A d.n cp,.slice B m cq,.int .i64 (d.lp:Int)] 24)).alloc (.cells #[.slice none 0 0] 27)) from
  ⟨(row_at (vs := [_,_,_]) rfl).alloc _,row_at (vs := [_]) (by simp),⟨rfl,.inl ⟨rfl,rfl⟩⟩,((Below.refl _ _).alloc (Nat.le_refl _) _).alloc (by simp) _,Nat.le_refl _,by omega⟩)
 clear hg hm
 go_enter Tryz.func55,Tryz.ntmps55
 go_wp2
 go_loopg [5,10] d.n (fun g s5 s10 wx => ∃ (k:Nat) (v:Value),k + g = d.n ∧ s10 = .int .i64 (k:Int) ∧ MG w 24 w.heap.size (w.heap.size + 1) [.slice A d.n cp,.slice B m cq,.int .i64 (d.lp:Int)] v (unL d k) wx)
 case atStart => exact ⟨0,_,by omega,rfl,P0.out⟩
 case round =>
  clear P0
  obtain ⟨k,v,hkg,rfl,hp⟩:=hrel
  have HKG:=hide hkg
  have PK:=hide hp
  have hlen:=unL_len d k
  clear hp
  by_cases hk:k < d.n
  ·have hki:(k:Int) < (d.n:Int):=by omega
   clear hkg
   go_wp2_with fail
   refine (unTry_any d hd A B cp cq m w.heap.size (w.heap.size + 1) k v (unL d k) w wr HM.out (HG.out.keep PK.out.bel) hk (by omega) PK.out).mono ?_
   rintro e w1 ⟨rfl,v',hp1⟩
   have P1:=hide hp1
   clear hp1
   go_wp2
   go_roundg (gk - 1)
   case measure => have := HKG.out; omega
   case rel => exact ⟨k + 1,v',by have := HKG.out; omega,by go_num,P1.out⟩
  ·have hki:¬ ((k:Int) < (d.n:Int)):=by omega
   have e:k = d.n:=by omega
   have EL:=hide (show unL d k = unL d d.n by rw [e])
   obtain ⟨q0,q1⟩:=box1 PK.out.l
   clear hkg e
   go_wp2
   go_ret
   exact ⟨v,rfl,⟨w.heap.size + 1 + 1,by omega,PK.out.big,by rw [← EL.out]; exact PK.out.o⟩,PK.out.bel⟩
end Go.Proofs.YtghdiolnonejaaaGreatDoor
end
section
namespace Go.Proofs.YtghdiolnonejaaaGreatDoor
open Go Go.RowKit
attribute [local go_sem ↓] Go.wp_at_zero Go.wp_at_succ
def upY (d:Pl.Dg) (x:Nat):Nat → List Mv
 | 0 => []
 | k + 1 => upY d x k ++ (if x < k then one (unpC d x k) ⟨4,x,k,0,false⟩ else [])
def upX (d:Pl.Dg):Nat → List Mv
 | 0 => []
 | k + 1 => upX d k ++ upY d k d.n
theorem upY_none (d:Pl.Dg) (x:Nat):∀ k,k ≤ x + 1 → upY d x k = []
 | 0,_ => rfl
 | k + 1, h => by
   show upY d x k ++ (if x < k then one (unpC d x k) ⟨4,x,k,0,false⟩ else []) = []
   rw [upY_none d x k (by omega),if_neg (by omega)]
   rfl
theorem upY_len (d:Pl.Dg) (x:Nat):∀ k,(upY d x k).length ≤ k
 | 0 => Nat.le_refl _
 | k + 1 => by
   have a:=upY_len d x k
   have b:=one_len (unpC d x k) ⟨4,x,k,0,false⟩
   show (upY d x k ++ (if x < k then one (unpC d x k) ⟨4,x,k,0,false⟩ else [])).length ≤ _
   rw [List.length_append]
   split
   ·omega
   ·simp; omega
theorem upX_len {d:Pl.Dg} (hn:d.n ≤ 64):∀ k,(upX d k).length ≤ 64 * k
 | 0 => Nat.le_refl _
 | k + 1 => by
   have a:=upX_len hn k
   have b:=upY_len d k d.n
   show (upX d k ++ upY d k d.n).length ≤ _
   rw [List.length_append]
   omega
set_option maxRecDepth 100000 in
set_option maxHeartbeats 4000000 in
theorem upTry_any (d:Pl.Dg) (hd:Pl.Wf d) (A B:Option Addr) (cp cq m gd gl x y:Nat) (v:Value) (ms:List Mv) (w0 w:World) (hm:m = 4 * d.n) (hg:DgAt w A B d) (hxy:x < y) (hy:y < d.n) (hms:ms.length ≤ 1000000)
 (hp:MG w0 24 gd gl [.slice A d.n cp,.slice B m cq,.int .i64 (d.lp:Int)] v ms w) :
 Calls Tryz.prog 94 #[.agg #[.int .i64 4,.int .i64 (x:Int),.int .i64 (y:Int),.int .i64 0,.bool false],.pointer (some ⟨gd,0,none⟩),.pointer (some ⟨gl,0,none⟩)] w fun e w' => e = .returned (.tuple #[]) ∧ ∃ v',MG w0 24 gd gl [.slice A d.n cp,.slice B m cq,.int .i64 (d.lp:Int)] v' (ms ++ one (unpC d x y) ⟨4,x,y,0,false⟩) w' := by
 have HM:=hide hm
 have HG:=hide hg
 have hn:=hd.few
 obtain ⟨cc,hcc⟩:∃ c',c' = unpC d x y := ⟨_,rfl⟩
 have HC:=hide hcc
 have hb0:Below w.heap.size w (w.alloc (.cells #[.int .i64 4,.int .i64 (x:Int),.int .i64 (y:Int),.int .i64 0,.bool false] 43)):=(Below.refl _ _).alloc (Nat.le_refl _) _
 have HB0:=hide hb0
 have P1:=hide (hp.below hb0)
 have M1:=hide (row_at (W := w) (g := w.heap.size) (t := 43) (vs := [.int .i64 4,.int .i64 (x:Int),.int .i64 (y:Int),.int .i64 0,.bool false]) rfl)
 have hgl:gl < w.heap.size:=hp.big
 have hgd:gd < gl:=hp.lt
 clear hp hb0 hg hm hcc
 obtain ⟨d0,d1,d2,d3⟩:=box3 P1.out.d
 obtain ⟨e0,e1,e2,e3,e4,e5⟩:=box5 M1.out
 go_enter Tryz.func94,Tryz.ntmps94
 go_wp2_with fail
 refine (find_any d hd A B cp cq m x y _ HM.out (HG.out.keep HB0.out) (by omega) hy).mono ?_
 rintro e w1 ⟨he,hb1⟩
 have P2:=hide (P1.out.below hb1)
 have M2:=hide (M1.out.below hb1)
 have HB1:=hide (HB0.out.trans (hb1.mono HB0.out.size))
 have hs2:w.heap.size < w1.heap.size:=M2.out.lt
 have hs3:gl < w1.heap.size:=by omega
 have hs2':w.heap.size < w1.heap.size + 1:=by omega
 have hs1d:gd < w1.heap.size:=by omega
 have hs3':gl < w1.heap.size + 1:=by omega
 have HE:=hide he
 clear hb1 d0 d1 d2 d3 e0 e1 e2 e3 e4 e5 HB0 P1 M1 he
 obtain ⟨d0,d1,d2,d3⟩:=box3 P2.out.d
 obtain ⟨e0,e1,e2,e3,e4,e5⟩:=box5 M2.out
 obtain ⟨L,hL⟩:∃ L,L = lensI d x y := ⟨_,rfl⟩
 have HL:=hide hL
 have HE2:=HE.out
 rw [← hL] at HE2
 clear hL HE
 cases L with
 | some i =>
   unfold findE lensV at HE2
   dsimp only at HE2
   obtain ⟨l0,hl0⟩:∃ z:Nat,z = lnH x y i := ⟨_,rfl⟩
   rw [← hl0] at HE2
   obtain ⟨l1,hl1⟩:∃ z:Nat,z = d.m (Pl.nx d l0) := ⟨_,rfl⟩
   rw [← hl1] at HE2
   obtain ⟨l2,hl2⟩:∃ z:Nat,z = Pl.tn l0 2 := ⟨_,rfl⟩
   rw [← hl2] at HE2
   obtain ⟨l3,hl3⟩:∃ z:Nat,z = Pl.tn l1 2 := ⟨_,rfl⟩
   rw [← hl3] at HE2
   obtain ⟨l4,hl4⟩:∃ z:Nat,z = Pl.tn (d.m l0) 2 := ⟨_,rfl⟩
   rw [← hl4] at HE2
   obtain ⟨l5,hl5⟩:∃ z:Nat,z = Pl.nx d l0 := ⟨_,rfl⟩
   rw [← hl5] at HE2
   obtain ⟨l6,hl6⟩:∃ z:Nat,z = d.m l0 := ⟨_,rfl⟩
   rw [← hl6] at HE2
   obtain ⟨l7,hl7⟩:∃ z:Nat,z = Pl.tn l5 2 := ⟨_,rfl⟩
   rw [← hl7] at HE2
   clear hl0 hl1 hl2 hl3 hl4 hl5 hl6 hl7
   subst HE2
   have PL:=hide (P2.out.alloc (.cells #[.int .i64 (l0:Int),.int .i64 (l1:Int),.int .i64 (l2:Int),.int .i64 (l3:Int),.int .i64 (l4:Int),.int .i64 (l5:Int),.int .i64 (l6:Int),.int .i64 (l7:Int)] 131))
   have ML0:=hide (M2.out.alloc (.cells #[.int .i64 (l0:Int),.int .i64 (l1:Int),.int .i64 (l2:Int),.int .i64 (l3:Int),.int .i64 (l4:Int),.int .i64 (l5:Int),.int .i64 (l6:Int),.int .i64 (l7:Int)] 131))
   have HBL:=hide (HB1.out.alloc HB1.out.size (.cells #[.int .i64 (l0:Int),.int .i64 (l1:Int),.int .i64 (l2:Int),.int .i64 (l3:Int),.int .i64 (l4:Int),.int .i64 (l5:Int),.int .i64 (l6:Int),.int .i64 (l7:Int)] 131))
   go_wp2_with fail
   refine (unpoke_m d hd A B cp cq m x y 4 0 false _ HM.out (HG.out.keep HBL.out) hxy hy).mono ?_
   rintro e w3 ⟨r1,r2,hb3⟩
   have P3:=hide (PL.out.below hb3)
   have M3:=hide (ML0.out.below hb3)
   have hs4:w.heap.size < w3.heap.size:=M3.out.lt
   have hs5:gl < w3.heap.size:=by omega
   rw [← HC.out] at r1 r2
   have R1:=hide r1
   have R2:=hide r2
   clear r1 r2 hb3 d0 d1 d2 d3 e0 e1 e2 e3 e4 e5 HB1 P2 M2 PL ML0 HBL
   obtain ⟨e0,e1,e2,e3,e4,e5⟩:=box5 M3.out
   have hs6:gl < w3.heap.size + 1:=by omega
   have hs7:gl < w3.heap.size + 1 + 1:=by omega
   have hs8:w.heap.size < w3.heap.size + 1:=by omega
   have hs9:w.heap.size < w3.heap.size + 1 + 1:=by omega
   by_cases h0:cc = 0
   ·obtain ⟨A9,B9,c8,c9,k9,x9,y9,s9,o9,hmv,rfl,hT⟩:=ResOk.split (R2.out h0)
    have E:=hide (show one cc ⟨4,x,y,0,false⟩ = [⟨4,x,y,0,false⟩] from one_yes h0)
    clear h0 R1 R2 hmv hT
    obtain ⟨N9,hN9⟩:∃ n,n = (unpD d x y).n := ⟨_,rfl⟩
    obtain ⟨N4,hN4⟩:∃ n,n = 4 * (unpD d x y).n := ⟨_,rfl⟩
    obtain ⟨L9,hL9⟩:∃ n,n = (unpD d x y).lp := ⟨_,rfl⟩
    rw [← hN4,← hN9,← hL9]
    clear hN9 hN4 hL9
    obtain ⟨q0,q1⟩:=box1 P3.out.l
    obtain ⟨n0,hn0,hz0,hz1,hz2⟩:=info_parts moveInfo
    have PA:=hide ((P3.out.alloc (.cells #[.slice A9 N9 c8,.slice B9 N4 c9,.int .i64 (L9:Int)] 24)).alloc (.cells #[.int .i64 k9,.int .i64 x9,.int .i64 y9,.int .i64 s9,.bool o9] 43))
    have A0:=hide (PA.out.alloc (.cells (Mv.cells ⟨4,x,y,0,false⟩).toArray 43)).o
    have A1:∀ u ∈ Mv.cells ⟨4,x,y,0,false⟩,u.oneCell' = true:=by simp [Mv.cells,Value.oneCell']
    have A2:ms.length + 1 ≤ maxLen:=by unfold maxLen; omega
    have A3:(ms.length + 1) * 40 ≤ 140737488355328:=by omega
    have A6:=hide (five_news ((w3.alloc (.cells #[.slice A9 N9 c8,.slice B9 N4 c9,.int .i64 (L9:Int)] 24)).alloc (.cells #[.int .i64 k9,.int .i64 x9,.int .i64 y9,.int .i64 s9,.bool o9] 43)) (w3.heap.size + 1 + 1) (by simp) ⟨4,x,y,0,false⟩)
    go_wp2_with (at_builtin; refine wpList_append_lies _ (by rfl) _ _ 27 (by rfl) (gl + 1) 43 n0 (.agg #[.int .i64 0,.int .i64 0,.int .i64 0,.int .i64 0,.bool false]) 5 40 Tryz.underlying27 hn0 hz0 hz1 hz2 rfl (by omega) v ms.length (mvs ms) (by rfl) A0.out ⟨w3.heap.size + 1 + 1,0,none⟩ 1 1 (Mv.cells ⟨4,x,y,0,false⟩) (by rfl) (by rfl) A6.out A1 (by omega) A2 A3 (by simp; omega) (w3.heap.size + 1 + 1 + 1) (by simp) ?_; intro g2 c2 w2 own2 grow2 at2 lt2; obtain ⟨q2,q3⟩:=box1 ((PA.out.alloc (.cells (Mv.cells ⟨4,x,y,0,false⟩).toArray 43)).l.grown grow2 ((PA.out.alloc (.cells (Mv.cells ⟨4,x,y,0,false⟩).toArray 43)).far (Nat.le_refl _))); have OWN2 := hide own2; have GR2 := hide grow2; clear own2 grow2 at2)
    refine bodyPost_end (results_none rfl _ _ _) rfl ⟨rfl,.slice (some ⟨g2,0,none⟩) (ms.length + 1) c2,?_⟩
    rw [← HC.out,E.out]
    exact (PA.out.alloc _).push OWN2.out GR2.out
   ·have E:=hide (show one cc ⟨4,x,y,0,false⟩ = [] from one_no h0)
    have hE:=ResErr.split (R1.out h0)
    subst hE
    have t1:(cc == 0) = false:=by rw [beq_eq_false_iff_ne]; exact h0
    clear h0 R1 R2
    go_wp2
    refine bodyPost_end (results_none rfl _ _ _) rfl ⟨rfl,v,?_⟩
    rw [← HC.out,E.out,List.append_nil]
    exact (P3.out.alloc _).alloc _
 | none =>
   unfold findE noLens at HE2
   dsimp only at HE2
   have E:=hide (show one cc ⟨4,x,y,0,false⟩ = [] from one_no (by
    rw [HC.out]
    unfold unpC
    rw [← HL.out]
    intro h
    cases h))
   subst HE2
   go_wp2
   refine bodyPost_ret (results_none rfl _ _ _) rfl ⟨rfl,v,?_⟩
   rw [← HC.out,E.out,List.append_nil]
   exact P2.out.alloc _
set_option maxRecDepth 100000 in
set_option maxHeartbeats 4000000 in
theorem unpokes_any (d:Pl.Dg) (hd:Pl.Wf d) (A B:Option Addr) (cp cq m:Nat) (w:World) (hm:m = 4 * d.n) (hg:DgAt w A B d) :
 Calls Tryz.prog 56 #[.agg #[.slice A d.n cp,.slice B m cq,.int .i64 d.lp]] w fun e w' => ∃ v,e = .returned v ∧ MovesIn w.heap.size w' v (upX d d.n) ∧ Below w.heap.size w w' := by
 have HM:=hide hm
 have HG:=hide hg
 have hn:=hd.few
 have P0:=hide (show MG w 24 w.heap.size (w.heap.size + 1) [.slice A d.n cp,.slice B m cq,.int .i64 (d.lp:Int)] (.slice none 0 0) [] ((w.alloc (.cells #[.slice A d.n cp,.slice B m cq,.int .i64 (d.lp:Int)] 24)).alloc (.cells #[.slice none 0 0] 27)) from
  ⟨(row_at (vs := [_,_,_]) rfl).alloc _,row_at (vs := [_]) (by simp),⟨rfl,.inl ⟨rfl,rfl⟩⟩,((Below.refl _ _).alloc (Nat.le_refl _) _).alloc (by simp) _,Nat.le_refl _,by omega⟩)
 clear hg hm
 go_enter Tryz.func56,Tryz.ntmps56
 go_wp2
 go_loopg [5,6,11] d.n (fun g s5 s6 s11 wx => ∃ (k:Nat) (v:Value),k + g = d.n ∧ s11 = .int .i64 (k:Int) ∧ MG w 24 w.heap.size (w.heap.size + 1) [.slice A d.n cp,.slice B m cq,.int .i64 (d.lp:Int)] v (upX d k) wx)
 case atStart => exact ⟨0,_,by omega,rfl,P0.out⟩
 case round =>
  clear P0
  obtain ⟨k,v,hkg,rfl,hp⟩:=hrel
  obtain ⟨go,rfl⟩:∃ go,go = gk := ⟨_,rfl⟩
  have HKG:=hide hkg
  have PK:=hide hp
  have hlen:=upX_len hn k
  clear hp
  by_cases hk:k < d.n
  ·have hki:(k:Int) < (d.n:Int):=by omega
   clear hkg
   go_wp2
   go_loopg [6] (d.n - (k + 1)) (fun g s6 wx => ∃ (j:Nat) (u:Value),j + g = d.n ∧ k + 1 ≤ j ∧ s6 = .int .i64 (j:Int) ∧ MG w 24 w.heap.size (w.heap.size + 1) [.slice A d.n cp,.slice B m cq,.int .i64 (d.lp:Int)] u (upX d k ++ upY d k j) wx)
   case atStart => exact ⟨k + 1,v,by omega,by omega,by go_num,by rw [upY_none d k (k + 1) (Nat.le_refl _),List.append_nil]; exact PK.out⟩
   case round =>
    clear PK
    obtain ⟨j,u,hjg,hkj,rfl,hq⟩:=hrel
    have HJG:=hide hjg
    have QJ:=hide hq
    have hlen2:=upY_len d k j
    obtain ⟨d0,d1,d2,d3⟩:=box3 hq.d
    clear hq hjg
    by_cases hj:j < d.n
    ·have hji:(j:Int) < (d.n:Int):=by omega
     go_wp2_with fail
     refine (upTry_any d hd A B cp cq m _ _ k j u _ w _ HM.out (HG.out.keep QJ.out.bel) (by omega) hj (by simp only [List.length_append]; omega) QJ.out).mono ?_
     rintro e w1 ⟨rfl,u1,hp1⟩
     have Q1:=hide hp1
     clear hp1
     go_wp2
     go_roundg (gk - 1)
     case measure => have := HJG.out; omega
     case rel =>
      have e2:upY d k (j + 1) = upY d k j ++ one (unpC d k j) ⟨4,k,j,0,false⟩:=by
       show upY d k j ++ (if k < j then one (unpC d k j) ⟨4,k,j,0,false⟩ else []) = _
       rw [if_pos (by omega)]
      exact ⟨j + 1,u1,by have := HJG.out; omega,by omega,by go_num,by rw [e2]; simpa using Q1.out⟩
    ·have hji:¬ ((j:Int) < (d.n:Int)):=by omega
     have E2:=hide (show upX d (k + 1) = upX d k ++ upY d k j by
      have:j = d.n:=by have := HJG.out; omega
      rw [this]; rfl)
     go_wp2
     go_roundg (go - 1)
     case measure => have := HKG.out; omega
     case rel => exact ⟨k + 1,u,by have := HKG.out; omega,by go_num,by rw [E2.out]; exact QJ.out⟩
  ·have hki:¬ ((k:Int) < (d.n:Int)):=by omega
   have e:k = d.n:=by omega
   have EL:=hide (show upX d k = upX d d.n by rw [e])
   obtain ⟨q0,q1⟩:=box1 PK.out.l
   clear hkg e
   go_wp2
   go_ret
   exact ⟨v,rfl,⟨w.heap.size + 1 + 1,by omega,PK.out.big,by rw [← EL.out]; exact PK.out.o⟩,PK.out.bel⟩
end Go.Proofs.YtghdiolnonejaaaGreatDoor
end
section
namespace Go.Proofs.YtghdiolnonejaaaGreatDoor
open Go Go.RowKit
attribute [local go_sem ↓] Go.wp_at_zero Go.wp_at_succ
section
variable {P:Program} (w:World)
def SrcAt (w:World) (A:Option Addr) (m:Nat) (xs:List Value):Prop := xs.length = m * 5 ∧ (0 < m → ∃ b o,A = some ⟨b,o,none⟩ ∧ ∀ (j:Nat) u,xs[j]? = some u → w.cell? ⟨b,o + j,none⟩ = some u) ∧ ∀ u ∈ xs,u.oneCell' = true
theorem mvs_one (ms:List Mv):∀ u ∈ mvs ms,u.oneCell' = true := by
 intro u hu
 unfold mvs at hu
 obtain ⟨m,_,hm⟩:=List.mem_flatMap.1 hu
 simp only [Mv.cells,List.mem_cons,List.not_mem_nil,or_false] at hm
 rcases hm with rfl | rfl | rfl | rfl | rfl <;> rfl
theorem MovesAt.src {w:World} {v:Value} {ms:List Mv} (h:MovesAt w v ms):∃ (A:Option Addr) (c:Nat),v = .slice A ms.length c ∧ SrcAt w A ms.length (mvs ms) := by
 obtain ⟨base,h⟩:=h
 obtain ⟨A,c,rfl⟩:=owns_slice h
 refine ⟨A,c,rfl,h.1,fun hp => ?_,mvs_one ms⟩
 obtain ⟨g,cap,e,_,hg⟩:=World.ownsRow.form h hp
 injection e with e1 _ _
 subst e1
 refine ⟨g,0,rfl,fun j u hu => ?_⟩
 have hj:j < ms.length * 5:=by
  have:=(List.getElem?_eq_some_iff.1 hu).1
  rw [mvs_len] at this
  exact this
 rw [Nat.zero_add,World.ownsRow.cellAt h j hj]
 exact hu
theorem run_append_src (base:Nat) (t ty e:TypeId) (i:TypeInfo) (z:Value) (bytes:Nat) (ht:P.underlying t = some (.slice e)) (hi:P.info? e = some i) (hz:i.zero = some z)
 (hsize:i.size = 5) (hby:i.bytes = bytes) (hzs:z.cells.size = 5)
 (v:Value) (n:Nat) (xs:List Value) (hown:w.ownsRow base e 5 v n xs)
 (A:Option Addr) (m c:Nat) (ys:List Value) (hin:SrcAt w A m ys)
 (h63:n + m ≤ maxLen) (hbytes:(n + m) * bytes ≤ 140737488355328) (hbase:base ≤ w.heap.size) :
 ∃ v' w',(Builtin.append_ #[t,t] ty #[v,.slice A m c]).run P w = .ok v' w' ∧ w'.ownsRow base e 5 v' (n + m) (xs ++ ys) ∧ w.grownBy w' v.ownBlock := by
 have hl:=hin.1
 rcases Nat.eq_zero_or_pos m with h0 | h0
 ·subst h0
  obtain rfl:ys = [] := List.eq_nil_of_length_eq_zero (by omega)
  have hr:(Builtin.append_ #[t,t] ty #[v,.slice A 0 c]).run P w = .ok v w:=by
   rcases hown.2 with ⟨rfl,rfl⟩ | ⟨g,cap,cur,rfl,_,_,hnc,_⟩
   ·cases A <;> simp [Builtin.append_,run_underlying ht,sizeOf,typeInfo,hi,Builtin.lenOf,Builtin.firstCells,loadCells,loadCellsFrom]
   ·cases A <;> simp [Builtin.append_,run_underlying ht,sizeOf,typeInfo,hi,Builtin.lenOf,Builtin.firstCells,hnc,storeCells,loadCells,loadCellsFrom]
  refine ⟨v,w,hr,by simpa using hown,⟨rfl,rfl,rfl,Nat.le_refl _,fun _ _ _ => rfl⟩⟩
 ·obtain ⟨b,o,rfl,hc⟩:=hin.2.1 h0
  obtain ⟨v',w',hr,h2,h3,_⟩:=run_append_own (P := P) w base t ty e i z 5 bytes ht hi hz hsize hby hzs (by omega) v n xs hown ⟨b,o,none⟩ m c ys hl (fun j u hu => by
   have:(⟨b,o,none⟩:Addr).add j = ⟨b,o + j,none⟩:=by unfold Addr.add; split <;> simp_all
   rw [this]; exact hc j u hu) hin.2.2 h63 hbytes hbase
  exact ⟨v',w',hr,h2,h3⟩
theorem wp_append_src {o:Oper} {a:Act} {K:Act → World → Prop} {Q:Exit → Act → World → Prop} (s x:Operand) (t:TypeId)
 (ho:o.op = .call { callee := .builtin .append,args := #[s,x],argTypes := #[t,t] })
 (base:Nat) (e:TypeId) (i:TypeInfo) (z:Value) (bytes:Nat) (ht:P.underlying t = some (.slice e)) (hi:P.info? e = some i) (hz:i.zero = some z)
 (hsize:i.size = 5) (hby:i.bytes = bytes) (hzs:z.cells.size = 5)
 (v:Value) (n:Nat) (xs:List Value) (hs:a.eval s = v) (hown:w.ownsRow base e 5 v n xs)
 (A:Option Addr) (m c:Nat) (ys:List Value) (hx:a.eval x = .slice A m c) (hin:SrcAt w A m ys)
 (h63:n + m ≤ maxLen) (hbytes:(n + m) * bytes ≤ 140737488355328) (hbase:base ≤ w.heap.size)
 (h:∀ v' w',w'.ownsRow base e 5 v' (n + m) (xs ++ ys) → w.grownBy w' v.ownBlock → K (a.put o.dst v') w'):o.wp P a w K Q := by
 obtain ⟨v',w',hr,h2,h3⟩:=run_append_src (P := P) w base t o.type e i z bytes ht hi hz hsize hby hzs v n xs hown A m c ys hin h63 hbytes hbase
 unfold Oper.wp execOp
 simp only [ho,resolve,invoke,builtin,Sem.run_bind,Sem.run_pure,Result.andThen_ok,List.map_toArray,List.map_cons,List.map_nil,hs,hx,hr]
 exact h v' w' h2 h3
theorem step_append_src {ops:Array Oper} {o:Oper} {a:Act} {K:Act → World → Prop} {Q:Exit → Act → World → Prop} {E:Prop} (hgd:o.guard = none) (s x:Operand) (t:TypeId)
 (ho:o.op = .call { callee := .builtin .append,args := #[s,x],argTypes := #[t,t] })
 (base:Nat) (e:TypeId) (i:TypeInfo) (z:Value) (bytes:Nat) (ht:P.underlying t = some (.slice e)) (hi:P.info? e = some i) (hz:i.zero = some z)
 (hsize:i.size = 5) (hby:i.bytes = bytes) (hzs:z.cells.size = 5)
 (v:Value) (n:Nat) (xs:List Value) (hs:a.eval s = v) (hown:w.ownsRow base e 5 v n xs)
 (A:Option Addr) (m c:Nat) (ys:List Value) (hx:a.eval x = .slice A m c) (hin:SrcAt w A m ys)
 (h63:n + m ≤ maxLen) (hbytes:(n + m) * bytes ≤ 140737488355328) (hbase:base ≤ w.heap.size)
 (h:∀ v' w',w'.ownsRow base e 5 v' (n + m) (xs ++ ys) → w.grownBy w' v.ownBlock → K (a.put o.dst v') w') :
 if Region.wanted o (yielded ops a.tmps) = true then Oper.wp P o a w K Q else E := by
 have hw:Region.wanted o (yielded ops a.tmps) = true:=by simp [Region.wanted,hgd]
 rw [if_pos hw]
 exact wp_append_src w s x t ho base e i z bytes ht hi hz hsize hby hzs v n xs hs hown A m c ys hx hin h63 hbytes hbase h
end
def unC:Nat → List Mv
 | 0 => []
 | k + 1 => unC k ++ [⟨2,k,0,0,false⟩]
def upN (x:Nat):Nat → List Mv
 | 0 => []
 | k + 1 => upN x k ++ (if x < k then [⟨4,x,k,0,false⟩] else [])
def upNX (n:Nat):Nat → List Mv
 | 0 => []
 | k + 1 => upNX n k ++ upN k n
noncomputable def sel (d:Pl.Dg) (l:List Mv):List Mv := l.flatMap (fun m => one (apC d m) m)
theorem sel_nil (d:Pl.Dg):sel d [] = [] := rfl
theorem sel_app (d:Pl.Dg) (l r:List Mv):sel d (l ++ r) = sel d l ++ sel d r := by unfold sel; rw [List.flatMap_append]
theorem sel_cons (d:Pl.Dg) (m:Mv) (l:List Mv):sel d (m :: l) = one (apC d m) m ++ sel d l := by unfold sel; rw [List.flatMap_cons]
theorem mem_one {c:Int} {m z:Mv}:z ∈ one c m ↔ z = m ∧ c = 0 := by
 unfold one
 split
 ·rename_i h; simp [h]
 ·rename_i h; simp [h]
theorem mem_sel {d:Pl.Dg} {l:List Mv} {z:Mv}:z ∈ sel d l ↔ z ∈ l ∧ apC d z = 0 := by
 unfold sel
 rw [List.mem_flatMap]
 constructor
 ·rintro ⟨m,h1,h2⟩
  obtain ⟨rfl,h3⟩:=mem_one.1 h2
  exact ⟨h1,h3⟩
 ·rintro ⟨h1,h2⟩
  exact ⟨z,h1,mem_one.2 ⟨rfl,h2⟩⟩
theorem apC_in {d:Pl.Dg} {m:Mv} (hk:1 ≤ m.kind ∧ m.kind ≤ 5) (hin:inR d.n m):apC d m = if m.kind = 1 then curlableC d m.x else if m.kind = 2 then uncC d m.x.toNat else if m.kind = 3 then pkQ d m.x m.y m.sign else if m.kind = 4 then unpC d m.x.toNat m.y.toNat else sldC d m.x.toNat := by
 unfold apC
 rw [if_neg (by omega),if_neg (by rw [Pl.vb_true hin]; decide)]
theorem un_code {d:Pl.Dg} {c:Nat} (hc:c < d.n):apC d ⟨2,c,0,0,false⟩ = uncC d c := by
 rw [apC_in (by simp) (by unfold inR; simp; omega)]
 simp
theorem up_code {d:Pl.Dg} {x y:Nat} (hx:x < y) (hy:y < d.n):apC d ⟨4,x,y,0,false⟩ = unpC d x y := by
 rw [apC_in (by simp) (by unfold inR; simp; omega)]
 simp
theorem un_sel (d:Pl.Dg):∀ k,k ≤ d.n → unL d k = sel d (unC k)
 | 0,_ => rfl
 | k + 1, h => by
   show unL d k ++ one (uncC d k) ⟨2,k,0,0,false⟩ = sel d (unC k ++ [⟨2,k,0,0,false⟩])
   rw [sel_app,un_sel d k (by omega),sel_cons,sel_nil,un_code (by omega),List.append_nil]
theorem upY_sel (d:Pl.Dg) (x:Nat):∀ k,k ≤ d.n → upY d x k = sel d (upN x k)
 | 0,_ => rfl
 | k + 1, h => by
   show upY d x k ++ (if x < k then one (unpC d x k) ⟨4,x,k,0,false⟩ else []) = sel d (upN x k ++ (if x < k then [⟨4,x,k,0,false⟩] else []))
   rw [sel_app,upY_sel d x k (by omega)]
   congr 1
   split
   ·rename_i hx; rw [sel_cons,sel_nil,up_code hx (by omega),List.append_nil]
   ·rfl
theorem up_sel (d:Pl.Dg):∀ k,upX d k = sel d (upNX d.n k)
 | 0 => rfl
 | k + 1 => by
   show upX d k ++ upY d k d.n = sel d (upNX d.n k ++ upN k d.n)
   rw [sel_app,up_sel d k,upY_sel d k d.n (Nat.le_refl _)]
section
variable {d:Pl.Dg} {F P:List Nat}
end
noncomputable def remL (d:Pl.Dg):List Mv := sel d (unC d.n) ++ sel d (upNX d.n d.n)
end Go.Proofs.YtghdiolnonejaaaGreatDoor
end
section
namespace Go.Proofs.YtghdiolnonejaaaGreatDoor
open Go Go.RowKit
attribute [local go_sem ↓] Go.wp_at_zero Go.wp_at_succ
theorem mvs_apps (ms r:List Mv):mvs (ms ++ r) = mvs ms ++ mvs r := by unfold mvs; rw [List.flatMap_append]
structure AL (w:World) (dv:List Value) (b:Nat) (v:Value) (ms:List Mv) (W:World):Prop where
 d:Row W w.heap.size 24 dv
 o:W.ownsRow b 43 5 v ms.length (mvs ms)
 bel:Below w.heap.size w W
 lo:w.heap.size < b
 lo2:b ≤ W.heap.size
section
variable {w W W' W2:World} {dv:List Value} {b:Nat} {v v':Value} {ms r:List Mv}
theorem AL.below (h:AL w dv b v ms W) (hb:Below W.heap.size W W'):AL w dv b v ms W' :=
 ⟨h.d.below hb,own_below h.o hb,h.bel.trans (hb.mono h.bel.size),h.lo,Nat.le_trans h.lo2 hb.size⟩
theorem AL.far (h:AL w dv b v ms W):some w.heap.size ≠ v.ownBlock := fun e => by have := (h.o.lt _ e.symm).1; have := h.lo; omega
theorem AL.app (h:AL w dv b v ms W) (own:W2.ownsRow b 43 5 v' (ms.length + r.length) (mvs ms ++ mvs r)) (gr:W.grownBy W2 v.ownBlock):AL w dv b v' (ms ++ r) W2 := by
 refine ⟨h.d.grown gr h.far,?_,h.bel.grown gr h.bel.size (fun k hk => by have := (h.o.lt k hk).1; have := h.lo; omega),h.lo,Nat.le_trans h.lo2 gr.size⟩
 rw [mvs_apps,List.length_append]
 exact own
end
theorem un_le {d:Pl.Dg} (hn:d.n ≤ 64):(sel d (unC d.n)).length ≤ 64 := by
 have a:=unL_len d d.n
 rw [un_sel d _ (Nat.le_refl _)] at a
 omega
theorem up_le {d:Pl.Dg} (hn:d.n ≤ 64):(sel d (upNX d.n d.n)).length ≤ 4096 := by
 have a:=upX_len hn d.n
 rw [up_sel d _] at a
 omega
end Go.Proofs.YtghdiolnonejaaaGreatDoor
end
section
namespace Go.Proofs.YtghdiolnonejaaaGreatDoor
open Go Go.RowKit
attribute [local go_sem ↓] Go.wp_at_zero Go.wp_at_succ
theorem mv_get:∀ (ms:List Mv) (j:Nat) (z:Mv),ms[j]? = some z → ∀ (i:Nat) (u:Value),z.cells[i]? = some u → (mvs ms)[j * 5 + i]? = some u
 | [],j,z,h,_,_,_ => by cases h
 | m :: ms, 0, z, h, i, u, hu => by
   obtain rfl:m = z := by simpa using h
   have hi:i < m.cells.length:=(List.getElem?_eq_some_iff.1 hu).1
   show (m.cells ++ mvs ms)[0 * 5 + i]? = some u
   rw [Nat.zero_mul,Nat.zero_add,List.getElem?_append_left hi,hu]
 | m :: ms, j + 1, z, h, i, u, hu => by
   have ih:=mv_get ms j z (by simpa using h) i u hu
   show (m.cells ++ mvs ms)[(j + 1) * 5 + i]? = some u
   have e:m.cells.length = 5:=rfl
   rw [List.getElem?_append_right (by rw [e]; omega),e,← ih]
   congr 1
   omega
theorem mv_val {w:World} {v:Value} {ms:List Mv} (h:MovesAt w v ms):∃ (A:Option Addr) (c:Nat),v = .slice A ms.length c ∧ (0 < ms.length → ∃ g,A = some ⟨g,0,none⟩ ∧ g < w.heap.size ∧ ∀ (j:Nat) (z:Mv),ms[j]? = some z → ∀ (i:Nat) (u:Value),z.cells[i]? = some u → w.cell? ⟨g,j * 5 + i,none⟩ = some u) := by
 obtain ⟨base,h⟩:=h
 obtain ⟨A,c,rfl⟩:=owns_slice h
 refine ⟨A,c,rfl,fun hp => ?_⟩
 obtain ⟨g,cap,e,_,hg⟩:=World.ownsRow.form h hp
 injection e with e1 _ _
 subst e1
 refine ⟨g,rfl,hg,fun j z hz i u hu => ?_⟩
 have hj:j < ms.length:=(List.getElem?_eq_some_iff.1 hz).1
 have hi:i < 5:=(List.getElem?_eq_some_iff.1 hu).1
 rw [World.ownsRow.cellAt h (j * 5 + i) (by omega)]
 exact mv_get ms j z hz i u hu
def MovesV (w:World) (A:Option Addr) (n:Nat) (ms:List Mv):Prop := n = ms.length ∧ (0 < n → ∃ g,A = some ⟨g,0,none⟩ ∧ g < w.heap.size ∧ ∀ (j:Nat) (z:Mv),ms[j]? = some z → ∀ (i:Nat) (u:Value),z.cells[i]? = some u → w.cell? ⟨g,j * 5 + i,none⟩ = some u)
theorem MovesV.keep {w w':World} {A:Option Addr} {n:Nat} {ms:List Mv} (h:MovesV w A n ms) (hb:Below w.heap.size w w'):MovesV w' A n ms :=
 ⟨h.1,fun hp => let ⟨g,e,hl,hc⟩:=h.2 hp; ⟨g,e,Nat.lt_of_lt_of_le hl hb.size,fun j z hz i u hu => cell_below (hc j z hz i u hu) hb⟩⟩
theorem MovesAt.mv {w:World} {v:Value} {ms:List Mv} (h:MovesAt w v ms):∃ (A:Option Addr) (c:Nat),v = .slice A ms.length c ∧ MovesV w A ms.length ms := by
 obtain ⟨A,c,e,h2⟩:=mv_val h
 exact ⟨A,c,e,rfl,h2⟩
theorem MovesV.at_ {w:World} {A:Option Addr} {n j:Nat} {ms:List Mv} (h:MovesV w A n ms) (hj:j < n):∃ g k x y s o,A = some ⟨g,0,none⟩ ∧ g < w.heap.size ∧ ms[j]? = some ⟨k,x,y,s,o⟩ ∧ w.cell? ⟨g,j * 5,none⟩ = some (.int .i64 k) ∧ w.cell? ⟨g,j * 5 + 1,none⟩ = some (.int .i64 x) ∧ w.cell? ⟨g,j * 5 + 2,none⟩ = some (.int .i64 y) ∧ w.cell? ⟨g,j * 5 + 3,none⟩ = some (.int .i64 s) ∧ w.cell? ⟨g,j * 5 + 4,none⟩ = some (.bool o) := by
 obtain ⟨g,e,hl,hc⟩:=h.2 (by omega)
 obtain ⟨z,hz⟩:∃ z,ms[j]? = some z := ⟨_,List.getElem?_eq_getElem (by rw [← h.1]; exact hj)⟩
 obtain ⟨k,x,y,s,o⟩:=z
 exact ⟨g,k,x,y,s,o,e,hl,hz,hc j _ hz 0 _ rfl,hc j _ hz 1 _ rfl,hc j _ hz 2 _ rfl,hc j _ hz 3 _ rfl,hc j _ hz 4 _ rfl⟩
def eqM (a b:Mv):Bool := a.kind == b.kind && a.x == b.x && a.y == b.y && a.sign == b.sign && a.over == b.over
set_option maxRecDepth 100000 in
set_option maxHeartbeats 4000000 in
theorem Removing_any (d:Pl.Dg) (hd:Pl.Valid d) (A B:Option Addr) (cp cq m:Nat) (w:World) (hm:m = 4 * d.n) (hg:DgAt w A B d) :
 Calls Tryz.prog 29 #[.agg #[.slice A d.n cp,.slice B m cq,.int .i64 d.lp]] w fun e w' => ∃ v,e = .returned v ∧ MovesIn w.heap.size w' v (remL d) ∧ Below w.heap.size w w' := by
 have HM:=hide hm
 have HG:=hide hg
 have HW:=hide (Pl.Valid.iff.1 hd).1
 have hn:=hd.wf.few
 clear hg hm
 have R0:=hide (row_at (W := w) (g := w.heap.size) (t := 24) (vs := [.slice A d.n cp,.slice B m cq,.int .i64 (d.lp:Int)]) rfl)
 have B0:=hide (show Below w.heap.size w (w.alloc (.cells #[.slice A d.n cp,.slice B m cq,.int .i64 (d.lp:Int)] 24)) from (Below.refl _ _).alloc (Nat.le_refl _) _)
 go_enter Tryz.func29,Tryz.ntmps29
 go_wp2_with fail
 refine (valid_yes d hd A B cp cq m _ HM.out (HG.out.keep B0.out)).mono ?_
 rintro e w1 ⟨rfl,hb1⟩
 have R1:=hide (R0.out.below hb1)
 have B1:=hide (B0.out.trans (hb1.mono B0.out.size))
 clear hb1
 obtain ⟨d0,d1,d2,d3⟩:=box3 R1.out
 go_wp2_with fail
 have lun:=un_le (d := d) hn
 have lup:=up_le (d := d) hn
 have B3:(sel d (unC d.n)).length + (sel d (upNX d.n d.n)).length ≤ maxLen:=by unfold maxLen; omega
 have C3:((sel d (unC d.n)).length + (sel d (upNX d.n d.n)).length) * 40 ≤ 140737488355328:=by omega
 obtain ⟨n0,hn0,hz0,hz1,hz2⟩:=info_parts moveInfo
 have hw1:w.heap.size < w1.heap.size:=R1.out.lt
 have HG1:=hide (show DgAt w1.drew A B d from ⟨(HG.out.keep B1.out).s,(HG.out.keep B1.out).m⟩)
 go_region_law
  (first
    | (refine step_append_src _ ?_ (.tmp 7) (.tmp 9) 27 ?_ b 43 n0 (.agg #[.int .i64 0, .int .i64 0, .int .i64 0, .int .i64 0, .bool false]) 40 Tryz.underlying27 hn0 hz0 hz1 hz2 rfl v3 _ _ ?_ Q4.out.o A4 _ c4 _ ?_ S4.out B3 C3 Q4.out.lo2 ?_
       ·rfl
       ·rfl
       ·rfl
       ·rfl
       intro v5 w5 own5 grow5
       have Q5:=hide (Q4.out.app own5 grow5)
       clear own5 grow5)
    | (go_simp
       go_wp2_with (first
        | ((go_at_call 55); refine Calls.mono (uncurls_any d HW.out A B cp cq m _ HM.out HG1.out) ?_; rintro e w3 ⟨v3,rfl,⟨b,hlb,hlb2,own3⟩,hb3⟩; rw [un_sel d _ (Nat.le_refl _)] at own3; have Q3 := hide (show AL w [.slice A d.n cp,.slice B m cq,.int .i64 (d.lp:Int)] b v3 (sel d (unC d.n)) w3 from ⟨R1.out.drew.below hb3,own3,B1.out.drew.trans (hb3.mono B1.out.size),Nat.lt_of_lt_of_le hw1 hlb,hlb2⟩); obtain ⟨e0,e1,e2,e3⟩:=box3 Q3.out.d; clear own3 hb3)
        | ((go_at_call 56); refine Calls.mono (unpokes_any d HW.out A B cp cq m _ HM.out (HG.out.keep Q3.out.bel)) ?_; rintro e w4 ⟨v4,rfl,hv4,hb4⟩; rw [up_sel] at hv4; obtain ⟨A4,c4,rfl,src4⟩:=hv4.at.src; have Q4 := hide (Q3.out.below hb4); have S4 := hide src4; clear hb4 hv4 src4))))
 all_goals
  go_wp2
  go_ret
  exact ⟨v5,rfl,⟨b,by have := Q5.out.lo; omega,Q5.out.lo2,Q5.out.o⟩,Q5.out.bel⟩
end Go.Proofs.YtghdiolnonejaaaGreatDoor
end
section
namespace Go.Proofs.YtghdiolnonejaaaGreatDoor
open Go Go.RowKit
attribute [local go_sem ↓] Go.wp_at_zero Go.wp_at_succ
def gro (k:Int):Int := if k = 1 then 1 else if k = 2 then -1 else if k = 3 then 2 else if k = 4 then -2 else 0
structure CB (W:World) (g1 g2:Nat) (n:Nat) (most:Int):Prop where
 n:Row W g1 3 [.int .i64 (n:Int)]
 m:Row W g2 3 [.int .i64 most]
end Go.Proofs.YtghdiolnonejaaaGreatDoor
end
section
namespace Go.Proofs.YtghdiolnonejaaaGreatDoor
open Go Go.RowKit
theorem mem_unC {n:Nat} {z:Mv}:∀ k,k ≤ n → (z ∈ unC k ↔ z.kind = 2 ∧ inR n z ∧ z.x < (k:Int))
 | 0, _ => by
   constructor
   ·intro h; cases h
   ·rintro ⟨h1,h2,h3⟩
    unfold inR at h2
    rw [if_neg (by omega),if_pos h1] at h2
    omega
 | k + 1, h => by
   show z ∈ unC k ++ [⟨2,k,0,0,false⟩] ↔ _
   rw [List.mem_append,mem_unC (n := n) k (by omega)]
   obtain ⟨zk,zx,zy,zs,zo⟩:=z
   constructor
   ·rintro (⟨h1,h2,h3⟩ | h1)
    ·exact ⟨h1,h2,by simp only at h3 ⊢; omega⟩
    ·simp only [List.mem_cons,List.not_mem_nil,or_false,Mv.mk.injEq] at h1
     obtain ⟨rfl,rfl,rfl,rfl,rfl⟩:=h1
     refine ⟨rfl,?_,by simp only; omega⟩
     unfold inR
     simp
     omega
   ·rintro ⟨h1,h2,h3⟩
    by_cases hx:zx < (k:Int)
    ·exact .inl ⟨h1,h2,hx⟩
    ·right
     unfold inR at h2
     rw [if_neg (by omega),if_pos h1] at h2
     simp only at h1 h2 h3
     simp only [List.mem_cons,List.not_mem_nil,or_false,Mv.mk.injEq]
     exact ⟨h1,by omega,h2.2.2.1,h2.2.2.2.1,h2.2.2.2.2⟩
theorem mem_upN {n x:Nat} {z:Mv}:∀ k,k ≤ n → (z ∈ upN x k ↔ z.kind = 4 ∧ inR n z ∧ z.x = (x:Int) ∧ z.y < (k:Int))
 | 0, _ => by
   constructor
   ·intro h; cases h
   ·rintro ⟨h1,h2,h3,h4⟩
    unfold inR at h2
    rw [if_neg (by omega),if_neg (by omega),if_pos h1] at h2
    omega
 | k + 1, h => by
   show z ∈ upN x k ++ (if x < k then [⟨4,x,k,0,false⟩] else []) ↔ _
   rw [List.mem_append,mem_upN (n := n) k (by omega)]
   obtain ⟨zk,zx,zy,zs,zo⟩:=z
   constructor
   ·rintro (⟨h1,h2,h3,h4⟩ | h1)
    ·exact ⟨h1,h2,h3,by simp only at h4 ⊢; omega⟩
    ·split at h1
     ·simp only [List.mem_cons,List.not_mem_nil,or_false,Mv.mk.injEq] at h1
      obtain ⟨rfl,rfl,rfl,rfl,rfl⟩:=h1
      refine ⟨rfl,?_,rfl,by simp only; omega⟩
      unfold inR
      simp
      omega
     ·cases h1
   ·rintro ⟨h1,h2,h3,h4⟩
    by_cases hx:zy < (k:Int)
    ·exact .inl ⟨h1,h2,h3,hx⟩
    ·right
     unfold inR at h2
     rw [if_neg (by omega),if_neg (by omega),if_pos h1] at h2
     simp only at h1 h2 h3 h4
     rw [if_pos (by omega)]
     simp only [List.mem_cons,List.not_mem_nil,or_false,Mv.mk.injEq]
     exact ⟨h1,h3,by omega,h2.2.2.2.1,h2.2.2.2.2⟩
theorem mem_upNX {n:Nat} {z:Mv}:∀ k,k ≤ n → (z ∈ upNX n k ↔ z.kind = 4 ∧ inR n z ∧ z.x < (k:Int))
 | 0, _ => by
   constructor
   ·intro h; cases h
   ·rintro ⟨h1,h2,h3⟩
    unfold inR at h2
    rw [if_neg (by omega),if_neg (by omega),if_pos h1] at h2
    omega
 | k + 1, h => by
   show z ∈ upNX n k ++ upN k n ↔ _
   rw [List.mem_append,mem_upNX (n := n) k (by omega),mem_upN (n := n) n (Nat.le_refl _)]
   constructor
   ·rintro (⟨h1,h2,h3⟩ | ⟨h1,h2,h3,h4⟩)
    ·exact ⟨h1,h2,by omega⟩
    ·exact ⟨h1,h2,by omega⟩
   ·rintro ⟨h1,h2,h3⟩
    by_cases hx:z.x < (k:Int)
    ·exact .inl ⟨h1,h2,hx⟩
    ·right
     refine ⟨h1,h2,by omega,?_⟩
     unfold inR at h2
     rw [if_neg (by omega),if_neg (by omega),if_pos h1] at h2
     omega
theorem un_kind {d:Pl.Dg} {z:Mv} (h:z ∈ sel d (unC d.n)):z.kind = 2 := ((mem_unC _ (Nat.le_refl _)).1 (mem_sel.1 h).1).1
theorem up_kind {d:Pl.Dg} {z:Mv} (h:z ∈ sel d (upNX d.n d.n)):z.kind = 4 := ((mem_upNX _ (Nat.le_refl _)).1 (mem_sel.1 h).1).1
end Go.Proofs.YtghdiolnonejaaaGreatDoor
end
section
namespace Go.Proofs.YtghdiolnonejaaaGreatDoor
open Go Go.RowKit
attribute [local go_sem ↓] Go.wp_at_zero Go.wp_at_succ
section
variable {w W W' W2:World} {vR vS:Value} {rs ss:List Mv} {m:Mv} {g n c:Nat}
theorem apart {v u:Value} (ne:∀ g,v.ownBlock = some g → u.ownBlock = some g → False):u.ownBlock = none ∨ u.ownBlock ≠ v.ownBlock := by
 cases hu:u.ownBlock with
 | none => exact .inl rfl
 | some g => exact .inr (fun e => ne g e.symm hu)
end
theorem remL_le {d:Pl.Dg} (hn:d.n ≤ 64):(remL d).length ≤ 5000 := by
 have b:=un_le (d := d) hn
 have e:=up_le (d := d) hn
 unfold remL
 rw [List.length_append]
 omega
end Go.Proofs.YtghdiolnonejaaaGreatDoor
end
section
namespace Go.Proofs.YtghdiolnonejaaaGreatDoor
open Go Go.RowKit
attribute [local go_sem ↓] Go.wp_at_zero Go.wp_at_succ
theorem ap_n {d:Pl.Dg} (hd:Pl.Valid d) {z:Mv} (h:apC d z = 0):((apD d z).n:Int) = d.n + gro z.kind := (signs_law hd z h).2.1
section
variable {w W W' W2:World} {v v':Value} {ms:List Mv} {m:Mv}
end
end Go.Proofs.YtghdiolnonejaaaGreatDoor
end
section
namespace Go.Proofs.YtghdiolnonejaaaGreatDoor.Pl
def jl (l:List Nat) (a b:Nat):List Nat := (l.set a b).set b a
theorem jl_len (l:List Nat) (a b:Nat):(jl l a b).length = l.length := by unfold jl; simp
theorem jset_getD (l:List Nat) (a v z:Nat) (ha:a < l.length):(l.set a v).getD z 0 = if z = a then v else l.getD z 0 := by
 rw [List.getD_eq_getElem?_getD,List.getD_eq_getElem?_getD,List.getElem?_set]
 by_cases e:a = z
 ·subst e; simp [ha]
 ·rw [if_neg e,if_neg (Ne.symm e)]
theorem jl_at {l:List Nat} {a b:Nat} (ha:a < l.length) (hb:b < l.length) (z:Nat):(jl l a b).getD z 0 = if z = b then a else if z = a then b else l.getD z 0 := by
 unfold jl
 rw [jset_getD _ _ _ _ (by simpa using hb),jset_getD _ _ _ _ ha]
theorem tr_fix {a:Nat → Nat} {x y z:Nat} (hne:x ≠ y) (fx:a x = x) (fy:a y = y) (e:tr a x y z = z):a z = z ∧ z ≠ x ∧ z ≠ y := by
 by_cases h1:z = x
 ·subst h1; rw [tr_a,fy] at e; exact absurd e.symm hne
 ·by_cases h2:z = y
  ·subst h2; rw [tr_b,fx] at e; exact absurd e hne
  ·rw [tr_ne h1 h2] at e; exact ⟨e,h1,h2⟩
structure MS (M:Nat) (o:Nat → Bool) (l:List Nat) (a:Nat → Nat):Prop where
 hm:Hm (4 * M) (fun h => h < 4 * M) rot a
 fl:Flat (fun h => h < 4 * M) rot a
 wy:∀ z,z < 4 * M → a z ≠ z → o (a z) = !o z
 len:l.length = 4 * M
 at_:∀ z,z < 4 * M → a z ≠ z → l.getD z 0 = a z
section
variable {M:Nat} {o:Nat → Bool} {l:List Nat} {a:Nat → Nat}
theorem MS.join' (m:MS M o l a) {x y:Nat} (hx:x < 4 * M) (hy:y < 4 * M) (hne:x ≠ y) (fx:a x = x) (fy:a y = y) (ho:o y = !o x) (hf:Flat (fun h => h < 4 * M) rot (tr a x y)):MS M o (jl l x y) (tr a x y) := by
 refine ⟨m.hm.tr hx hy fx fy,hf,fun z hz e => ?_,by rw [jl_len,m.len],fun z hz e => ?_⟩
 ·by_cases h1:z = x
  ·subst h1; rw [tr_a,fy,ho]
  ·by_cases h2:z = y
   ·subst h2; rw [tr_b,fx,ho,Bool.not_not]
   ·rw [tr_ne h1 h2] at e ⊢; exact m.wy z hz e
 ·rw [jl_at (by rw [m.len]; exact hx) (by rw [m.len]; exact hy)]
  by_cases h2:z = y
  ·subst h2; rw [if_pos rfl,tr_b,fx]
  ·rw [if_neg h2]
   by_cases h1:z = x
   ·subst h1; rw [if_pos rfl,tr_a,fy]
   ·rw [if_neg h1,tr_ne h1 h2]; rw [tr_ne h1 h2] at e; exact m.at_ z hz e
theorem MS.join (m:MS M o l a) {x y:Nat} (hx:x < 4 * M) (hy:y < 4 * M) (hne:x ≠ y) (fx:a x = x) (fy:a y = y) (ho:o y = !o x) (hc:Orb (phi rot a) x y ∨ Orb (phi rot a) y x ∨ ¬ Con rot a x y):MS M o (jl l x y) (tr a x y) := by
 refine m.join' hx hy hne fx fy ho (Flat.add m.hm hx hy hne fx fy (fun e => ?_) m.fl)
 rcases hc with h | h | h
 ·exact h
 ·exact m.hm.pb.symm hy h
 ·exact absurd e h
theorem MS.two (m:MS M o l a) {x u v:Nat} (hx:x < 4 * M) (hu:u < 4 * M) (hv:v < 4 * M) (huv:u ≠ v) (nx:a x ≠ x) (fu:a u = u) (fv:a v = v) (ou:o u = !o x) (ov:o v = o x)
 (hf:Flat (fun h => h < 4 * M) rot (tr (tr (tr a x (a x)) x u) v (a x))):MS M o (jl (jl l x u) v (a x)) (tr (tr (tr a x (a x)) x u) v (a x)) := by
 obtain ⟨c1,c2,c3⟩:=Hm.cut m.hm hx nx
 have hy:a x < 4 * M:=m.hm.ab.maps x hx
 have xu:x ≠ u:=fun e => nx (by rw [e]; exact fu)
 have xv:x ≠ v:=fun e => nx (by rw [e]; exact fv)
 have yu:a x ≠ u:=fun e => by have := m.hm.inv x hx; rw [e,fu] at this; exact xu this.symm
 have yv:a x ≠ v:=fun e => by have := m.hm.inv x hx; rw [e,fv] at this; exact xv this.symm
 have fu1:tr a x (a x) u = u:=by rw [tr_ne (Ne.symm xu) (Ne.symm yu),fu]
 have fv1:tr a x (a x) v = v:=by rw [tr_ne (Ne.symm xv) (Ne.symm yv),fv]
 have h1:=c1.tr hx hu c2 fu1
 have fv2:tr (tr a x (a x)) x u v = v:=by rw [tr_ne (Ne.symm xv) (Ne.symm huv),fv1]
 have fy2:tr (tr a x (a x)) x u (a x) = a x:=by rw [tr_ne nx yu,c3]
 have oy:=m.wy x hx nx
 have e1:tr (tr (tr a x (a x)) x u) v (a x) x = u:=by rw [tr_ne xv (Ne.symm nx),tr_a,fu1]
 have e2:tr (tr (tr a x (a x)) x u) v (a x) u = x:=by rw [tr_ne huv (Ne.symm yu),tr_b,c2]
 have e3:tr (tr (tr a x (a x)) x u) v (a x) v = a x:=by rw [tr_a,fy2]
 have e4:tr (tr (tr a x (a x)) x u) v (a x) (a x) = v:=by rw [tr_b,fv2]
 have e5:∀ z,z ≠ x → z ≠ u → z ≠ v → z ≠ a x → tr (tr (tr a x (a x)) x u) v (a x) z = a z:=fun z z1 z2 z3 z4 => by rw [tr_ne z3 z4,tr_ne z1 z2,tr_ne z1 z4]
 refine ⟨h1.tr hv hy fv2 fy2,hf,fun z hz e => ?_,by rw [jl_len,jl_len,m.len],fun z hz e => ?_⟩
 ·by_cases z1:z = x
  ·rw [z1,e1,ou]
  ·by_cases z2:z = u
   ·rw [z2,e2,ou,Bool.not_not]
   ·by_cases z3:z = v
    ·rw [z3,e3,oy,ov]
    ·by_cases z4:z = a x
     ·rw [z4,e4,oy,ov,Bool.not_not]
     ·rw [e5 z z1 z2 z3 z4] at e ⊢; exact m.wy z hz e
 ·rw [jl_at (by rw [jl_len,m.len]; exact hv) (by rw [jl_len,m.len]; exact hy)]
  by_cases z4:z = a x
  ·rw [if_pos z4,z4,e4]
  ·rw [if_neg z4]
   by_cases z3:z = v
   ·rw [if_pos z3,z3,e3]
   ·rw [if_neg z3,jl_at (by rw [m.len]; exact hx) (by rw [m.len]; exact hu)]
    by_cases z2:z = u
    ·rw [if_pos z2,z2,e2]
    ·rw [if_neg z2]
     by_cases z1:z = x
     ·rw [if_pos z1,z1,e1]
     ·rw [if_neg z1,e5 z z1 z2 z3 z4]; rw [e5 z z1 z2 z3 z4] at e; exact m.at_ z hz e
theorem two_fix (m:MS M o l a) {x u v z:Nat} (hx:x < 4 * M) (hu:u < 4 * M) (hv:v < 4 * M) (huv:u ≠ v) (nx:a x ≠ x) (fu:a u = u) (fv:a v = v) (e:tr (tr (tr a x (a x)) x u) v (a x) z = z):a z = z ∧ z ≠ u ∧ z ≠ v := by
 have xu:x ≠ u:=fun e => nx (by rw [e]; exact fu)
 have xv:x ≠ v:=fun e => nx (by rw [e]; exact fv)
 have yu:a x ≠ u:=fun e => by have := m.hm.inv x hx; rw [e,fu] at this; exact xu this.symm
 have yv:a x ≠ v:=fun e => by have := m.hm.inv x hx; rw [e,fv] at this; exact xv this.symm
 obtain ⟨c1,c2,c3⟩:=Hm.cut m.hm hx nx
 have fu1:tr a x (a x) u = u:=by rw [tr_ne (Ne.symm xu) (Ne.symm yu),fu]
 have fv1:tr a x (a x) v = v:=by rw [tr_ne (Ne.symm xv) (Ne.symm yv),fv]
 have fv2:tr (tr a x (a x)) x u v = v:=by rw [tr_ne (Ne.symm xv) (Ne.symm huv),fv1]
 have fy2:tr (tr a x (a x)) x u (a x) = a x:=by rw [tr_ne nx yu,c3]
 obtain ⟨g1,g2,g3⟩:=tr_fix (Ne.symm yv) fv2 fy2 e
 obtain ⟨g4,g5,g6⟩:=tr_fix xu c2 fu1 g1
 rw [tr_ne g5 g3] at g4
 exact ⟨g4,g6,g2⟩
theorem MS.detour (m:MS M o l a) {x u v:Nat} (hx:x < 4 * M) (hu:u < 4 * M) (hv:v < 4 * M) (huv:u ≠ v) (nx:a x ≠ x) (fu:a u = u) (fv:a v = v) (ou:o u = !o x) (ov:o v = o x)
 (n1:¬ Con rot a x u) (ho:Orb (phi rot a) v u):MS M o (jl (jl l x u) v (a x)) (tr (tr (tr a x (a x)) x u) v (a x)) := by
 refine m.two hx hu hv huv nx fu fv ou ov ?_
 obtain ⟨c1,c2,c3⟩:=Hm.cut m.hm hx nx
 have hy:a x < 4 * M:=m.hm.ab.maps x hx
 have xu:x ≠ u:=fun e => nx (by rw [e]; exact fu)
 have xv:x ≠ v:=fun e => nx (by rw [e]; exact fv)
 have yu:a x ≠ u:=fun e => by have := m.hm.inv x hx; rw [e,fu] at this; exact xu this.symm
 have yv:a x ≠ v:=fun e => by have := m.hm.inv x hx; rw [e,fv] at this; exact xv this.symm
 have fu1:tr a x (a x) u = u:=by rw [tr_ne (Ne.symm xu) (Ne.symm yu),fu]
 have fv1:tr a x (a x) v = v:=by rw [tr_ne (Ne.symm xv) (Ne.symm yv),fv]
 -- what the cut map holds together,the whole one does
 have up:∀ {z w},z < 4 * M → Con rot (tr a x (a x)) z w → Con rot a z w:=by
  intro z w hz e
  refine con_sub c1 m.hm.ceqv (fun t _ => Con.refl.left) (fun t ht => ?_) hz e
  by_cases t1:t = x
  ·subst t1; rw [c2]; exact .refl
  ·by_cases t2:t = a x
   ·subst t2; rw [c3]; exact .refl
   ·rw [tr_ne t1 t2]; exact Con.refl.right
 have cxy:Con rot a x (a x):=Con.refl.right
 have k1:¬ Con rot (tr a x (a x)) x u:=fun e => n1 (up hx e)
 have k2:¬ Con rot (tr a x (a x)) (a x) u:=fun e => n1 (cxy.trans (up hy e))
 -- v's face does not come to x
 have ho2:Orb (phi rot (tr a x (a x))) v u:=by
  have cv:Con rot a v u:=orb_phi_con ho
  obtain ⟨k,hk⟩:=ho
  have run:∀ j,it (phi rot (tr a x (a x))) j v = it (phi rot a) j v:=by
   intro j
   induction j with
   | zero => rfl
   | succ j ih =>
     show phi rot (tr a x (a x)) (it (phi rot (tr a x (a x))) j v) = phi rot a (it (phi rot a) j v)
     rw [ih]
     have hz:=m.hm.pb.it j v hv
     have ov':Con rot a v (it (phi rot a) j v):=orb_phi_con ⟨j,rfl⟩
     have z1:it (phi rot a) j v ≠ x:=fun e => n1 (by rw [e] at ov'; exact (m.hm.con_symm hv ov').trans cv)
     have z2:it (phi rot a) j v ≠ a x:=fun e => n1 (by rw [e] at ov'; exact cxy.trans ((m.hm.con_symm hv ov').trans cv))
     show rot (tr a x (a x) (it (phi rot a) j v)) = rot (a (it (phi rot a) j v))
     rw [tr_ne z1 z2]
  exact ⟨k,by rw [run]; exact hk⟩
 have hg:Gen (fun h => h < 4 * M) rot (tr (tr a x (a x)) x (a x)) 0:=by rw [tr_tr]; exact m.fl
 exact Gen.detour c1 hx hy hu hv (Ne.symm nx) huv c2 c3 fu1 fv1 k1 k2 ho2 hg
theorem MS.push (m:MS M o l a) {y c e p:Nat} (hy:y < 4 * M) (hc:c < 4 * M) (he:e < 4 * M) (ce:c ≠ e) (ny:a y ≠ y) (fc:a c = c) (fe:a e = e) (oc:o c = !o y) (oe:o e = o y)
 (e1:phi rot a e = p) (e2:phi rot a p = c) (py:p ≠ y) (pc:p ≠ c) (pyy:p ≠ a y) (hn:Orb (phi rot a) c y ∨ ¬ Con rot a c y):MS M o (jl (jl l y c) e (a y)) (tr (tr (tr a y (a y)) y c) e (a y)) := by
 refine m.two hy hc he ce ny fc fe oc oe ?_
 obtain ⟨c1,c2,c3⟩:=Hm.cut m.hm hy ny
 have hy':a y < 4 * M:=m.hm.ab.maps y hy
 have yc:y ≠ c:=fun h => ny (by rw [h]; exact fc)
 have ye:y ≠ e:=fun h => ny (by rw [h]; exact fe)
 have yyc:a y ≠ c:=fun h => by have := m.hm.inv y hy; rw [h,fc] at this; exact yc this.symm
 have yye:a y ≠ e:=fun h => by have := m.hm.inv y hy; rw [h,fe] at this; exact ye this.symm
 refine Flat.push c1 (p := p) hy hy' hc he (Ne.symm ny) yc ye ce yyc yye c2 c3 (by rw [tr_ne (Ne.symm yc) (Ne.symm yyc),fc]) (by rw [tr_ne (Ne.symm ye) (Ne.symm yye),fe]) ?_ ?_ py pc ?_ ?_
 ·unfold phi; rw [tr_ne (Ne.symm ye) (Ne.symm yye)]; exact e1
 ·unfold phi; rw [tr_ne py pyy]; exact e2
 ·rw [tr_tr]; exact hn
 ·rw [tr_tr]; exact m.fl
end
theorem MS.valid {d':Dg} {a:Nat → Nat} (m:MS d'.n (out d') d'.mt a) (few:d'.n ≤ 64) (lp:d'.lp ≤ 64) (sign:∀ c,c < d'.n → d'.s c = 1 ∨ d'.s c = -1) (nf:∀ z,z < 4 * d'.n → a z ≠ z):Valid d' := by
 have e:∀ z,z < 4 * d'.n → d'.m z = a z:=fun z hz => by
  rw [← m.at_ z hz (nf z hz)]
  unfold Dg.m
  rw [List.getD_eq_getElem?_getD,List.getD_eq_getElem?_getD,List.getElem?_eq_getElem (by rw [m.len]; exact hz)]
  rfl
 refine Valid.iff.2 ⟨wf_by few m.len lp sign fun z hz => ?_,?_⟩
 ·have h2:=m.hm.ab.maps z hz
  rw [e z hz,e _ h2]
  refine ⟨h2,m.hm.inv z hz,?_⟩
  rw [m.wy z hz (nf z hz)]
  cases out d' z <;> decide
 ·exact Gen.congr m.hm (fun _ _ => rfl) (fun z hz => (e z hz).symm) m.fl
end Go.Proofs.YtghdiolnonejaaaGreatDoor.Pl
end
section
namespace Go.Proofs.YtghdiolnonejaaaGreatDoor.Pl
theorem jl_comm {l:List Nat} {a b c e:Nat} (ac:a ≠ c) (ae:a ≠ e) (bc:b ≠ c) (be:b ≠ e):jl (jl l a b) c e = jl (jl l c e) a b := by
 unfold jl
 rw [List.set_comm a e bc,List.set_comm b e ac,List.set_comm a c be,List.set_comm b c ae]
section
variable {M:Nat} {o:Nat → Bool} {l:List Nat} {a:Nat → Nat}
theorem two_at (m:MS M o l a) {x u v:Nat} (hx:x < 4 * M) (huv:u ≠ v) (nx:a x ≠ x) (fu:a u = u) (fv:a v = v) :
 tr (tr (tr a x (a x)) x u) v (a x) x = u ∧ tr (tr (tr a x (a x)) x u) v (a x) u = x ∧ tr (tr (tr a x (a x)) x u) v (a x) v = a x ∧ tr (tr (tr a x (a x)) x u) v (a x) (a x) = v ∧
 ∀ z,z ≠ x → z ≠ u → z ≠ v → z ≠ a x → tr (tr (tr a x (a x)) x u) v (a x) z = a z := by
 obtain ⟨c1,c2,c3⟩:=Hm.cut m.hm hx nx
 have xu:x ≠ u:=fun e => nx (by rw [e]; exact fu)
 have xv:x ≠ v:=fun e => nx (by rw [e]; exact fv)
 have yu:a x ≠ u:=fun e => by have := m.hm.inv x hx; rw [e,fu] at this; exact xu this.symm
 have yv:a x ≠ v:=fun e => by have := m.hm.inv x hx; rw [e,fv] at this; exact xv this.symm
 have fu1:tr a x (a x) u = u:=by rw [tr_ne (Ne.symm xu) (Ne.symm yu),fu]
 have fv1:tr a x (a x) v = v:=by rw [tr_ne (Ne.symm xv) (Ne.symm yv),fv]
 have fv2:tr (tr a x (a x)) x u v = v:=by rw [tr_ne (Ne.symm xv) (Ne.symm huv),fv1]
 have fy2:tr (tr a x (a x)) x u (a x) = a x:=by rw [tr_ne nx yu,c3]
 exact ⟨by rw [tr_ne xv (Ne.symm nx),tr_a,fu1],by rw [tr_ne huv (Ne.symm yu),tr_b,c2],by rw [tr_a,fy2],by rw [tr_b,fv2],fun z z1 z2 z3 z4 => by rw [tr_ne z3 z4,tr_ne z1 z2,tr_ne z1 z4]⟩
end
def pp (n f t:Nat):Nat := 4 * n + (t + f) % 4
theorem rot_pp (n f t:Nat):rot (pp n f t) = pp n f (t + 3) := by unfold rot tn pp; omega
theorem pp_mod (n f t:Nat):pp n f (t + 4) = pp n f t := by unfold pp; omega
theorem pp_bd (n f t:Nat):4 * n ≤ pp n f t ∧ pp n f t < 4 * n + 4 := by unfold pp; omega
theorem pp_ne {n f s t:Nat} (h:s % 4 ≠ t % 4):pp n f s ≠ pp n f t := by unfold pp; omega
theorem pp_nq {n f g s t:Nat}:pp n f s ≠ pp (n + 1) g t := by unfold pp; omega
theorem pp_cover {n f z:Nat} (h:4 * n ≤ z ∧ z < 4 * n + 4):z = pp n f 0 ∨ z = pp n f 1 ∨ z = pp n f 2 ∨ z = pp n f 3 := by unfold pp; omega
structure Pd (d d':Dg) (f g:Nat) (fx fy:Bool):Prop where
 few:d.n + 2 ≤ 64
 n:d'.n = d.n + 2
 lp:d'.lp ≤ 64
 old:∀ c,c < d.n → d'.s c = d.s c
 s0:d'.s d.n = 1 ∨ d'.s d.n = -1
 s1:d'.s (d.n + 1) = 1 ∨ d'.s (d.n + 1) = -1
 p0:out d' (pp d.n f 0) = !fy
 p1:out d' (pp d.n f 1) = fx
 p2:out d' (pp d.n f 2) = fy
 p3:out d' (pp d.n f 3) = !fx
 q0:out d' (pp (d.n + 1) g 0) = !fy
 q1:out d' (pp (d.n + 1) g 1) = !fx
 q2:out d' (pp (d.n + 1) g 2) = fy
 q3:out d' (pp (d.n + 1) g 3) = fx
section
variable {d d':Dg} {f g:Nat} {fx fy:Bool}
def pkL0 (d:Dg) (f g:Nat):List Nat := jl (jl (d.mt ++ List.replicate 8 0) (pp d.n f 1) (pp (d.n + 1) g 1)) (pp (d.n + 1) g 2) (pp d.n f 0)
def pkB (d:Dg) (f g:Nat):Nat → Nat := tr (tr (ex d.n d.m) (pp d.n f 1) (pp (d.n + 1) g 1)) (pp (d.n + 1) g 2) (pp d.n f 0)
theorem Pd.ext (hd:Valid d) (K:Pd d d' f g fx fy):MS (d.n + 2) (out d') (d.mt ++ List.replicate 8 0) (ex d.n d.m) := by
 have hv:=Valid.iff.1 hd
 have hw:=hv.1
 refine ⟨ext_hm (by omega) hw.hm,ext_gen (by omega) hw.hm hv.2,fun z hz e => ?_,by rw [List.length_append,hw.len]; simp; omega,fun z hz e => ?_⟩
 ·have hz2:z < 4 * d.n:=Nat.lt_of_not_le fun h => e (ex_new h)
  have hm:=hw.lt z hz2
  rw [ex_old hz2,out_old (d := d) (K.old _ (by omega)),out_old (d := d) (K.old _ (by omega)),out_way hw hz2]
 ·have hz2:z < 4 * d.n:=Nat.lt_of_not_le fun h => e (ex_new h)
  rw [ex_old hz2,← dg_m hw hz2,List.getD_eq_getElem?_getD,List.getD_eq_getElem?_getD,List.getElem?_append_left (by rw [hw.len]; exact hz2)]
structure Bs (d d':Dg) (f g:Nat) (b:Nat → Nat):Prop where
 ms:MS (d.n + 2) (out d') (pkL0 d f g) b
 old:∀ z,z < 4 * d.n → b z = d.m z
 b1:b (pp d.n f 1) = pp (d.n + 1) g 1
 b2:b (pp (d.n + 1) g 1) = pp d.n f 1
 b3:b (pp (d.n + 1) g 2) = pp d.n f 0
 b4:b (pp d.n f 0) = pp (d.n + 1) g 2
 f1:b (pp d.n f 2) = pp d.n f 2
 f2:b (pp d.n f 3) = pp d.n f 3
 f3:b (pp (d.n + 1) g 0) = pp (d.n + 1) g 0
 f4:b (pp (d.n + 1) g 3) = pp (d.n + 1) g 3
theorem Pd.base (hd:Valid d) (K:Pd d d' f g fx fy):Bs d d' f g (pkB d f g) := by
 have m0:=K.ext hd
 have P:∀ t,4 * d.n ≤ pp d.n f t ∧ pp d.n f t < 4 * d.n + 4:=pp_bd d.n f
 have Q:∀ t,4 * (d.n + 1) ≤ pp (d.n + 1) g t ∧ pp (d.n + 1) g t < 4 * (d.n + 1) + 4:=pp_bd (d.n + 1) g
 have fP:∀ t,ex d.n d.m (pp d.n f t) = pp d.n f t:=fun t => ex_new (P t).1
 have fQ:∀ t,ex d.n d.m (pp (d.n + 1) g t) = pp (d.n + 1) g t:=fun t => ex_new (by have := (Q t).1; omega)
 have pl:∀ t,pp d.n f t < 4 * (d.n + 2):=fun t => by have := (P t).2; omega
 have ql:∀ t,pp (d.n + 1) g t < 4 * (d.n + 2):=fun t => by have := (Q t).2; omega
 have m1:=m0.join (pl 1) (ql 1) pp_nq (fP 1) (fQ 1) (by rw [K.q1,K.p1]) (.inr (.inr fun e => by
  have:∀ w,Con rot (ex d.n d.m) (pp d.n f 1) w → w / 4 = d.n:=by
   intro w e
   induction e with
   | refl => have := P 1; omega
   | left _ ih => show tn _ 3 / 4 = d.n; rw [tn_div]; exact ih
   | right _ ih => rw [ex_new (by omega)]; exact ih
  have h1:=this _ e
  have:=Q 1
  omega))
 have g1:∀ z,z ≠ pp d.n f 1 → z ≠ pp (d.n + 1) g 1 → tr (ex d.n d.m) (pp d.n f 1) (pp (d.n + 1) g 1) z = ex d.n d.m z:=fun z z1 z2 => tr_ne z1 z2
 have m2:=m1.join (ql 2) (pl 0) (Ne.symm pp_nq) (by rw [g1 _ (Ne.symm pp_nq) (pp_ne (by omega)),fQ]) (by rw [g1 _ (pp_ne (by omega)) pp_nq,fP]) (by rw [K.q2,K.p0]) (.inl ⟨2,by
  show phi rot _ (phi rot _ (pp (d.n + 1) g 2)) = _
  have s1:phi rot (tr (ex d.n d.m) (pp d.n f 1) (pp (d.n + 1) g 1)) (pp (d.n + 1) g 2) = pp (d.n + 1) g 1:=by
   unfold phi; rw [g1 _ (Ne.symm pp_nq) (pp_ne (by omega)),fQ,rot_pp,show 2 + 3 = 1 + 4 from rfl,pp_mod]
  have s2:phi rot (tr (ex d.n d.m) (pp d.n f 1) (pp (d.n + 1) g 1)) (pp (d.n + 1) g 1) = pp d.n f 0:=by
   unfold phi; rw [tr_b,fP,rot_pp,show 1 + 3 = 0 + 4 from rfl,pp_mod]
  rw [s1,s2]⟩)
 have g2:∀ z,z ≠ pp (d.n + 1) g 2 → z ≠ pp d.n f 0 → z ≠ pp d.n f 1 → z ≠ pp (d.n + 1) g 1 → pkB d f g z = ex d.n d.m z:=fun z z1 z2 z3 z4 => by unfold pkB; rw [tr_ne z1 z2,tr_ne z3 z4]
 refine ⟨m2,fun z hz => ?_,?_,?_,?_,?_,?_,?_,?_,?_⟩
 ·have:=P 0; have := P 1; have := Q 1; have := Q 2
  rw [g2 z (by omega) (by omega) (by omega) (by omega),ex_old hz]
 ·unfold pkB; rw [tr_ne pp_nq (pp_ne (by omega)),tr_a,fQ]
 ·unfold pkB; rw [tr_ne (pp_ne (by omega)) (Ne.symm pp_nq),tr_b,fP]
 ·unfold pkB; rw [tr_a,tr_ne (pp_ne (by omega)) pp_nq,fP]
 ·unfold pkB; rw [tr_b,tr_ne (Ne.symm pp_nq) (pp_ne (by omega)),fQ]
 ·rw [g2 _ pp_nq (pp_ne (by omega)) (pp_ne (by omega)) pp_nq,fP]
 ·rw [g2 _ pp_nq (pp_ne (by omega)) (pp_ne (by omega)) pp_nq,fP]
 ·rw [g2 _ (pp_ne (by omega)) (Ne.symm pp_nq) (Ne.symm pp_nq) (pp_ne (by omega)),fQ]
 ·rw [g2 _ (pp_ne (by omega)) (Ne.symm pp_nq) (Ne.symm pp_nq) (pp_ne (by omega)),fQ]
theorem Bs.far {b:Nat → Nat} (hd:Valid d) (B:Bs d d' f g b) {x w:Nat} (hx:x < 4 * d.n) (hw:4 * d.n ≤ w):¬ Con rot b x w := fun e => by
 have:=con_old (n := d.n) (b := b) (fun z hz => by rw [B.old z hz]; exact (Valid.iff.1 hd).1.lt z hz) hx e
 omega
theorem Bs.fix {b:Nat → Nat} (hd:Valid d) (B:Bs d d' f g b) {z:Nat} (hz:z < 4 * (d.n + 2)) (e:b z = z):z = pp d.n f 2 ∨ z = pp d.n f 3 ∨ z = pp (d.n + 1) g 0 ∨ z = pp (d.n + 1) g 3 := by
 rcases Nat.lt_or_ge z (4 * d.n) with h | h
 ·rw [B.old z h] at e; exact absurd e ((Valid.iff.1 hd).1.ne z h)
 ·rcases Nat.lt_or_ge z (4 * d.n + 4) with h2 | h2
  ·rcases pp_cover (f := f) ⟨h,h2⟩ with rfl | rfl | rfl | rfl
   ·rw [B.b4] at e; exact absurd e (Ne.symm pp_nq)
   ·rw [B.b1] at e; exact absurd e (Ne.symm pp_nq)
   ·exact .inl rfl
   ·exact .inr (.inl rfl)
  ·rcases pp_cover (n := d.n + 1) (f := g) (z := z) ⟨by omega,by omega⟩ with rfl | rfl | rfl | rfl
   ·exact .inr (.inr (.inl rfl))
   ·rw [B.b2] at e; exact absurd e pp_nq
   ·rw [B.b3] at e; exact absurd e pp_nq
   ·exact .inr (.inr (.inr rfl))
variable {b:Nat → Nat}
theorem stp {r b:Nat → Nat} {x y z:Nat} (e:b x = y) (h:r y = z):phi r b x = z := by unfold phi; rw [e,h]
theorem Bs.pq (hd:Valid d) (B:Bs d d' f g b):(∀ t,pp d.n f t < 4 * (d.n + 2)) ∧ (∀ t,pp (d.n + 1) g t < 4 * (d.n + 2)) ∧ (∀ t z,z < 4 * d.n → pp d.n f t ≠ z) ∧ (∀ t z,z < 4 * d.n → pp (d.n + 1) g t ≠ z) :=
 ⟨fun t => by have := pp_bd d.n f t; omega,fun t => by have := pp_bd (d.n + 1) g t; omega,fun t z hz => by have := pp_bd d.n f t; omega,fun t z hz => by have := pp_bd (d.n + 1) g t; omega⟩
theorem rp (n f:Nat):rot (pp n f 0) = pp n f 3 ∧ rot (pp n f 1) = pp n f 0 ∧ rot (pp n f 2) = pp n f 1 ∧ rot (pp n f 3) = pp n f 2 :=
 ⟨rot_pp n f 0,by rw [rot_pp,show 1 + 3 = 0 + 4 from rfl,pp_mod],by rw [rot_pp,show 2 + 3 = 1 + 4 from rfl,pp_mod],by rw [rot_pp,show 3 + 3 = 2 + 4 from rfl,pp_mod]⟩
theorem Pd.fin (hd:Valid d) (K:Pd d d' f g fx fy) {l:List Nat} (m:MS (d.n + 2) (out d') l b) (hl:d'.mt = l) (nf:∀ z,z < 4 * (d.n + 2) → b z ≠ z):Valid d' := by
 have hw:=(Valid.iff.1 hd).1
 refine MS.valid (a := b) (by rw [K.n,hl]; exact m) (by rw [K.n]; exact K.few) K.lp (fun c hc => ?_) (by rw [K.n]; exact nf)
 rw [K.n] at hc
 rcases Nat.lt_or_ge c d.n with h | h
 ·rw [K.old c h]; exact hw.sign c h
 ·rcases Nat.lt_or_ge d.n c with h2 | h2
  ·rw [show c = d.n + 1 by omega]; exact K.s1
  ·rw [show c = d.n by omega]; exact K.s0
theorem Pd.self0 (hd:Valid d) (K:Pd d d' f g fx fx) (hl:d'.mt = jl (jl (pkL0 d f g) (pp (d.n + 1) g 3) (pp (d.n + 1) g 0)) (pp d.n f 2) (pp d.n f 3)):Valid d' := by
 have B:=K.base hd
 obtain ⟨pl,ql,po,qo⟩:=B.pq hd
 obtain ⟨r0,r1,r2,r3⟩:=rp d.n f
 obtain ⟨t0,t1,t2,t3⟩:=rp (d.n + 1) g
 have m1:=B.ms.join (ql 3) (ql 0) (pp_ne (by omega)) B.f4 B.f3 (by rw [K.q0,K.q3]) (.inr (.inl ⟨1,stp B.f3 t0⟩))
 have e1:∀ z,z ≠ pp (d.n + 1) g 3 → z ≠ pp (d.n + 1) g 0 → tr (pkB d f g) (pp (d.n + 1) g 3) (pp (d.n + 1) g 0) z = pkB d f g z:=fun z z1 z2 => tr_ne z1 z2
 have f2:=(e1 _ pp_nq pp_nq).trans B.f1
 have f3:=(e1 _ pp_nq pp_nq).trans B.f2
 have m2:=m1.join (pl 2) (pl 3) (pp_ne (by omega)) f2 f3 (by rw [K.p2,K.p3]) (.inr (.inl ⟨1,stp f3 r3⟩))
 refine K.fin hd m2 hl fun z hz e => ?_
 obtain ⟨g1,g2,g3⟩:=tr_fix (pp_ne (by omega)) f2 f3 e
 obtain ⟨g4,g5,g6⟩:=tr_fix (pp_ne (by omega)) B.f4 B.f3 g1
 rcases B.fix hd hz g4 with h | h | h | h
 ·exact g2 h
 ·exact g3 h
 ·exact g6 h
 ·exact g5 h
theorem Pd.self1 (hd:Valid d) (K:Pd d d' f g fx fx) {x:Nat} (hx:x < 4 * d.n) (ho:out d x = fx) (hl:d'.mt = jl (jl (jl (pkL0 d f g) x (pp d.n f 3)) (pp (d.n + 1) g 3) (pp (d.n + 1) g 0)) (pp d.n f 2) (d.m x)):Valid d' := by
 have hw:=(Valid.iff.1 hd).1
 have B:=K.base hd
 obtain ⟨pl,ql,po,qo⟩:=B.pq hd
 obtain ⟨r0,r1,r2,r3⟩:=rp d.n f
 obtain ⟨t0,t1,t2,t3⟩:=rp (d.n + 1) g
 have hmx:=hw.lt x hx
 have m1:=B.ms.join (ql 3) (ql 0) (pp_ne (by omega)) B.f4 B.f3 (by rw [K.q0,K.q3]) (.inr (.inl ⟨1,stp B.f3 t0⟩))
 obtain ⟨b1,hb1⟩:∃ b1,b1 = tr (pkB d f g) (pp (d.n + 1) g 3) (pp (d.n + 1) g 0) := ⟨_,rfl⟩
 rw [← hb1] at m1
 have e1:∀ z,z ≠ pp (d.n + 1) g 3 → z ≠ pp (d.n + 1) g 0 → b1 z = pkB d f g z:=fun z z1 z2 => by rw [hb1]; exact tr_ne z1 z2
 have f2:b1 (pp d.n f 2) = pp d.n f 2:=(e1 _ pp_nq pp_nq).trans B.f1
 have f3:b1 (pp d.n f 3) = pp d.n f 3:=(e1 _ pp_nq pp_nq).trans B.f2
 have v0:b1 (pp (d.n + 1) g 0) = pp (d.n + 1) g 3:=by rw [hb1,tr_b,B.f4]
 have v1:b1 (pp d.n f 1) = pp (d.n + 1) g 1:=(e1 _ pp_nq pp_nq).trans B.b1
 have v2:b1 (pp (d.n + 1) g 2) = pp d.n f 0:=(e1 _ (pp_ne (by omega)) (pp_ne (by omega))).trans B.b3
 have old:∀ z,z < 4 * d.n → b1 z = d.m z:=fun z hz => (e1 z (Ne.symm (qo 3 z hz)) (Ne.symm (qo 0 z hz))).trans (B.old z hz)
 have hx2:x < 4 * (d.n + 2):=by omega
 have wx:out d' x = fx:=by rw [out_old (d := d) (K.old _ (by omega)),ho]
 have nx:b1 x ≠ x:=by rw [old x hx]; exact hw.ne x hx
 have m2:=m1.detour hx2 (pl 3) (pl 2) (pp_ne (by omega)) nx f3 f2 (by rw [K.p3,wx]) (by rw [K.p2,wx])
  (fun e => by have := con_old (n := d.n) (b := b1) (fun z hz => by rw [old z hz]; exact hw.lt z hz) hx e; exact po 3 _ this rfl)
  ⟨4, by
    show phi rot b1 (phi rot b1 (phi rot b1 (phi rot b1 (pp d.n f 2)))) = _
    rw [stp f2 r2,stp v1 t1,stp v0 t3,stp v2 r0]⟩
 refine K.fin hd m2 ?_ fun z hz e => ?_
 ·rw [hl,old x hx,jl_comm (a := x) (b := pp d.n f 3) (Ne.symm (qo 3 x hx)) (Ne.symm (qo 0 x hx)) pp_nq pp_nq]
 ·obtain ⟨g1,g2,g3⟩:=two_fix m1 hx2 (pl 3) (pl 2) (pp_ne (by omega)) nx f3 f2 e
  rw [hb1] at g1
  obtain ⟨g4,g5,g6⟩:=tr_fix (pp_ne (by omega)) B.f4 B.f3 g1
  rcases B.fix hd hz g4 with h | h | h | h
  ·exact g3 h
  ·exact g2 h
  ·exact g6 h
  ·exact g5 h
theorem Pd.self2 (hd:Valid d) (K:Pd d d' f g fx fx) {x:Nat} (hx:x < 4 * d.n) (ho:out d x = fx) (hl:d'.mt = jl (jl (jl (pkL0 d f g) x (pp (d.n + 1) g 0)) (pp d.n f 2) (pp d.n f 3)) (pp (d.n + 1) g 3) (d.m x)):Valid d' := by
 have hw:=(Valid.iff.1 hd).1
 have B:=K.base hd
 obtain ⟨pl,ql,po,qo⟩:=B.pq hd
 obtain ⟨r0,r1,r2,r3⟩:=rp d.n f
 obtain ⟨t0,t1,t2,t3⟩:=rp (d.n + 1) g
 have hmx:=hw.lt x hx
 have m1:=B.ms.join (pl 2) (pl 3) (pp_ne (by omega)) B.f1 B.f2 (by rw [K.p2,K.p3]) (.inr (.inl ⟨1,stp B.f2 r3⟩))
 obtain ⟨b1,hb1⟩:∃ b1,b1 = tr (pkB d f g) (pp d.n f 2) (pp d.n f 3) := ⟨_,rfl⟩
 rw [← hb1] at m1
 have e1:∀ z,z ≠ pp d.n f 2 → z ≠ pp d.n f 3 → b1 z = pkB d f g z:=fun z z1 z2 => by rw [hb1]; exact tr_ne z1 z2
 have f0:b1 (pp (d.n + 1) g 0) = pp (d.n + 1) g 0:=(e1 _ (Ne.symm pp_nq) (Ne.symm pp_nq)).trans B.f3
 have f3:b1 (pp (d.n + 1) g 3) = pp (d.n + 1) g 3:=(e1 _ (Ne.symm pp_nq) (Ne.symm pp_nq)).trans B.f4
 have v1:b1 (pp d.n f 1) = pp (d.n + 1) g 1:=(e1 _ (pp_ne (by omega)) (pp_ne (by omega))).trans B.b1
 have v2:b1 (pp (d.n + 1) g 2) = pp d.n f 0:=(e1 _ (Ne.symm pp_nq) (Ne.symm pp_nq)).trans B.b3
 have v3:b1 (pp d.n f 3) = pp d.n f 2:=by rw [hb1,tr_b,B.f1]
 have old:∀ z,z < 4 * d.n → b1 z = d.m z:=fun z hz => (e1 z (Ne.symm (po 2 z hz)) (Ne.symm (po 3 z hz))).trans (B.old z hz)
 have hx2:x < 4 * (d.n + 2):=by omega
 have wx:out d' x = fx:=by rw [out_old (d := d) (K.old _ (by omega)),ho]
 have nx:b1 x ≠ x:=by rw [old x hx]; exact hw.ne x hx
 have m2:=m1.detour hx2 (ql 0) (ql 3) (pp_ne (by omega)) nx f0 f3 (by rw [K.q0,wx]) (by rw [K.q3,wx])
  (fun e => by have := con_old (n := d.n) (b := b1) (fun z hz => by rw [old z hz]; exact hw.lt z hz) hx e; exact qo 0 _ this rfl)
  ⟨4, by
    show phi rot b1 (phi rot b1 (phi rot b1 (phi rot b1 (pp (d.n + 1) g 3)))) = _
    rw [stp f3 t3,stp v2 r0,stp v3 r2,stp v1 t1]⟩
 refine K.fin hd m2 ?_ fun z hz e => ?_
 ·rw [hl,old x hx,jl_comm (a := x) (b := pp (d.n + 1) g 0) (Ne.symm (po 2 x hx)) (Ne.symm (po 3 x hx)) (Ne.symm pp_nq) (Ne.symm pp_nq)]
 ·obtain ⟨g1,g2,g3⟩:=two_fix m1 hx2 (ql 0) (ql 3) (pp_ne (by omega)) nx f0 f3 e
  rw [hb1] at g1
  obtain ⟨g4,g5,g6⟩:=tr_fix (pp_ne (by omega)) B.f1 B.f2 g1
  rcases B.fix hd hz g4 with h | h | h | h
  ·exact g5 h
  ·exact g6 h
  ·exact g2 h
  ·exact g3 h
structure Ys (d d':Dg) (f g:Nat) (l:List Nat) (b:Nat → Nat):Prop where
 ms:MS (d.n + 2) (out d') l b
 v0:b (pp d.n f 1) = pp (d.n + 1) g 1
 v2:b (pp (d.n + 1) g 2) = pp d.n f 0
 f3:b (pp d.n f 3) = pp d.n f 3
 f4:b (pp (d.n + 1) g 3) = pp (d.n + 1) g 3
 fix:∀ z,z < 4 * (d.n + 2) → b z = z → z = pp d.n f 3 ∨ z = pp (d.n + 1) g 3
theorem Ys.orb {l:List Nat} (Y:Ys d d' f g l b):Orb (phi rot b) (pp (d.n + 1) g 3) (pp d.n f 3) := by
 obtain ⟨r0,r1,r2,r3⟩:=rp d.n f
 obtain ⟨t0,t1,t2,t3⟩:=rp (d.n + 1) g
 refine ⟨2,?_⟩
 show phi rot b (phi rot b (pp (d.n + 1) g 3)) = _
 rw [stp Y.f4 t3,stp Y.v2 r0]
theorem Pd.yloop (hd:Valid d) (K:Pd d d' f g fx fy):Ys d d' f g (jl (pkL0 d f g) (pp (d.n + 1) g 0) (pp d.n f 2)) (tr (pkB d f g) (pp (d.n + 1) g 0) (pp d.n f 2)) ∧ ∀ z,z < 4 * d.n → tr (pkB d f g) (pp (d.n + 1) g 0) (pp d.n f 2) z = d.m z := by
 have B:=K.base hd
 obtain ⟨pl,ql,po,qo⟩:=B.pq hd
 obtain ⟨r0,r1,r2,r3⟩:=rp d.n f
 obtain ⟨t0,t1,t2,t3⟩:=rp (d.n + 1) g
 have e1:∀ z,z ≠ pp (d.n + 1) g 0 → z ≠ pp d.n f 2 → tr (pkB d f g) (pp (d.n + 1) g 0) (pp d.n f 2) z = pkB d f g z:=fun z z1 z2 => tr_ne z1 z2
 refine ⟨⟨B.ms.join (ql 0) (pl 2) (Ne.symm pp_nq) B.f3 B.f1 (by rw [K.p2,K.q0,Bool.not_not]) (.inr (.inl ⟨2,by
  show phi rot _ (phi rot _ (pp d.n f 2)) = _
  rw [stp B.f1 r2,stp B.b1 t1]⟩)),?_,?_,?_,?_,fun z hz e => ?_⟩,fun z hz => ?_⟩
 ·rw [e1 _ pp_nq (pp_ne (by omega)),B.b1]
 ·rw [e1 _ (pp_ne (by omega)) (Ne.symm pp_nq),B.b3]
 ·rw [e1 _ pp_nq (pp_ne (by omega)),B.f2]
 ·rw [e1 _ (pp_ne (by omega)) (Ne.symm pp_nq),B.f4]
 ·obtain ⟨g1,g2,g3⟩:=tr_fix (Ne.symm pp_nq) B.f3 B.f1 e
  rcases B.fix hd hz g1 with h | h | h | h
  ·exact absurd h g3
  ·exact .inl h
  ·exact absurd h g2
  ·exact .inr h
 ·rw [e1 z (Ne.symm (qo 0 z hz)) (Ne.symm (po 2 z hz)),B.old z hz]
theorem Pd.yedge (hd:Valid d) (K:Pd d d' f g fx fy) {y:Nat} (hy:y < 4 * d.n) (ho:out d y = fy) :
 ∃ b, Ys d d' f g (jl (jl (pkL0 d f g) y (pp (d.n + 1) g 0)) (pp d.n f 2) (d.m y)) b ∧ (∀ z, z < 4 * d.n → z ≠ y → z ≠ d.m y → b z = d.m z) ∧ b y = pp (d.n + 1) g 0 ∧ b (pp (d.n + 1) g 0) = y ∧ b (pp d.n f 2) = d.m y ∧ b (d.m y) = pp d.n f 2 ∧
   b (pp (d.n + 1) g 1) = pp d.n f 1 ∧ b (pp d.n f 0) = pp (d.n + 1) g 2 := by
 have hw:=(Valid.iff.1 hd).1
 have B:=K.base hd
 obtain ⟨pl,ql,po,qo⟩:=B.pq hd
 obtain ⟨r0,r1,r2,r3⟩:=rp d.n f
 obtain ⟨t0,t1,t2,t3⟩:=rp (d.n + 1) g
 have hmy:=hw.lt y hy
 have hy2:y < 4 * (d.n + 2):=by omega
 have wy:out d' y = fy:=by rw [out_old (d := d) (K.old _ (by omega)),ho]
 have ny:pkB d f g y ≠ y:=by rw [B.old y hy]; exact hw.ne y hy
 have m2:=B.ms.detour hy2 (ql 0) (pl 2) (Ne.symm pp_nq) ny B.f3 B.f1 (by rw [K.q0,wy]) (by rw [K.p2,wy]) (B.far hd hy (by have := pp_bd (d.n + 1) g 0; omega)) ⟨2,by
  show phi rot _ (phi rot _ (pp d.n f 2)) = _
  rw [stp B.f1 r2,stp B.b1 t1]⟩
 obtain ⟨a1,a2,a3,a4,a5⟩:=two_at B.ms hy2 (u := pp (d.n + 1) g 0) (v := pp d.n f 2) (Ne.symm pp_nq) ny B.f3 B.f1
 have fx:=fun z => two_fix (z := z) B.ms hy2 (ql 0) (pl 2) (Ne.symm pp_nq) ny B.f3 B.f1
 rw [B.old y hy] at m2 a1 a2 a3 a4 a5 fx
 refine ⟨_,⟨m2,?_,?_,?_,?_,fun z hz e => ?_⟩,fun z hz z1 z2 => ?_,a1,a2,a3,a4,?_,?_⟩
 ·rw [a5 _ (po 1 y hy) pp_nq (pp_ne (by omega)) (po 1 _ hmy),B.b1]
 ·rw [a5 _ (qo 2 y hy) (pp_ne (by omega)) (Ne.symm pp_nq) (qo 2 _ hmy),B.b3]
 ·rw [a5 _ (po 3 y hy) pp_nq (pp_ne (by omega)) (po 3 _ hmy),B.f2]
 ·rw [a5 _ (qo 3 y hy) (pp_ne (by omega)) (Ne.symm pp_nq) (qo 3 _ hmy),B.f4]
 ·obtain ⟨g1,g2,g3⟩:=fx z e
  rcases B.fix hd hz g1 with h | h | h | h
  ·exact absurd h g3
  ·exact .inl h
  ·exact absurd h g2
  ·exact .inr h
 ·rw [a5 z z1 (Ne.symm (qo 0 z hz)) (Ne.symm (po 2 z hz)) z2,B.old z hz]
 ·rw [a5 _ (qo 1 y hy) (pp_ne (by omega)) (Ne.symm pp_nq) (qo 1 _ hmy),B.b2]
 ·rw [a5 _ (po 0 y hy) pp_nq (pp_ne (by omega)) (po 0 _ hmy),B.b4]
theorem Ys.xloop (hd:Valid d) (K:Pd d d' f g fx fy) {l:List Nat} (Y:Ys d d' f g l b) (hl:d'.mt = jl l (pp d.n f 3) (pp (d.n + 1) g 3)):Valid d' := by
 have B:=K.base hd
 obtain ⟨pl,ql,po,qo⟩:=B.pq hd
 have m2:=Y.ms.join (pl 3) (ql 3) pp_nq Y.f3 Y.f4 (by rw [K.q3,K.p3,Bool.not_not]) (.inr (.inl Y.orb))
 refine K.fin hd m2 hl fun z hz e => ?_
 obtain ⟨g1,g2,g3⟩:=tr_fix pp_nq Y.f3 Y.f4 e
 rcases Y.fix z hz g1 with h | h
 ·exact g2 h
 ·exact g3 h
theorem Ys.end_ (hd:Valid d) (K:Pd d d' f g fx fy) {l:List Nat} (Y:Ys d d' f g l b) {x:Nat} (hx:x < 4 * d.n) (hb:b x = d.m x) (m2:MS (d.n + 2) (out d') (jl (jl l x (pp d.n f 3)) (pp (d.n + 1) g 3) (b x)) (tr (tr (tr b x (b x)) x (pp d.n f 3)) (pp (d.n + 1) g 3) (b x))) (hl:d'.mt = jl (jl l x (pp d.n f 3)) (pp (d.n + 1) g 3) (d.m x)):Valid d' := by
 have B:=K.base hd
 obtain ⟨pl,ql,po,qo⟩:=B.pq hd
 have nx:b x ≠ x:=by rw [hb]; exact (Valid.iff.1 hd).1.ne x hx
 refine K.fin hd m2 (by rw [hb]; exact hl) fun z hz e => ?_
 obtain ⟨g1,g2,g3⟩:=two_fix Y.ms (by omega) (pl 3) (ql 3) pp_nq nx Y.f3 Y.f4 e
 rcases Y.fix z hz g1 with h | h
 ·exact g2 h
 ·exact g3 h
theorem Ys.xedge0 (hd:Valid d) (K:Pd d d' f g fx fy) {l:List Nat} (Y:Ys d d' f g l b) (old:∀ z,z < 4 * d.n → b z = d.m z) {x:Nat} (hx:x < 4 * d.n) (ho:out d x = fx) (hl:d'.mt = jl (jl l x (pp d.n f 3)) (pp (d.n + 1) g 3) (d.m x)):Valid d' := by
 have hw:=(Valid.iff.1 hd).1
 have B:=K.base hd
 obtain ⟨pl,ql,po,qo⟩:=B.pq hd
 have nx:b x ≠ x:=by rw [old x hx]; exact hw.ne x hx
 have wx:out d' x = fx:=by rw [out_old (d := d) (K.old _ (by omega)),ho]
 exact Y.end_ hd K hx (old x hx) (Y.ms.detour (by omega) (pl 3) (ql 3) pp_nq nx Y.f3 Y.f4 (by rw [K.p3,wx]) (by rw [K.q3,wx]) (fun e => by
  have:=con_old (n := d.n) (b := b) (fun z hz => by rw [old z hz]; exact hw.lt z hz) hx e
  exact po 3 _ this rfl) Y.orb) hl
theorem Pd.edges (hd:Valid d) (K:Pd d d' f g fx fy) {x y:Nat} (hx:x < 4 * d.n) (hy:y < 4 * d.n) (ox:out d x = fx) (oy:out d y = fy) (hxy:x ≠ y) (hm:d.m x ≠ y) (hn:Orb (nx d) x y ∨ ¬ Comp d (x / 4) (y / 4))
 (hl:d'.mt = jl (jl (jl (jl (pkL0 d f g) y (pp (d.n + 1) g 0)) (pp d.n f 2) (d.m y)) x (pp d.n f 3)) (pp (d.n + 1) g 3) (d.m x)):Valid d' := by
 have hw:=(Valid.iff.1 hd).1
 have B:=K.base hd
 obtain ⟨pl,ql,po,qo⟩:=B.pq hd
 obtain ⟨r0,r1,r2,r3⟩:=rp d.n f
 obtain ⟨t0,t1,t2,t3⟩:=rp (d.n + 1) g
 obtain ⟨b,Y,old,e1,e2,e3,e4,e5,e6⟩:=K.yedge hd hy oy
 have hmy:=hw.lt y hy
 have hmx:=hw.lt x hx
 have xmy:x ≠ d.m y:=fun e => hm (by rw [e,hw.inv y hy])
 have hb:b x = d.m x:=old x hx hxy xmy
 have nx':b x ≠ x:=by rw [hb]; exact hw.ne x hx
 have wx:out d' x = fx:=by rw [out_old (d := d) (K.old _ (by omega)),ox]
 refine Y.end_ hd K hx hb (Y.ms.push (y := x) (c := pp d.n f 3) (e := pp (d.n + 1) g 3) (p := pp (d.n + 1) g 2) (by omega) (pl 3) (ql 3) pp_nq nx' Y.f3 Y.f4 (by rw [K.p3,wx]) (by rw [K.q3,wx]) (stp Y.f4 t3) (stp Y.v2 r0) (qo 2 x hx) (Ne.symm pp_nq) (by rw [hb]; exact qo 2 _ hmx) ?_) hl
 -- the faces of the old diagram,in the new one
 have sim:∀ z,z < 4 * d.n → Orb (phi rot b) z (nx d z):=fun z hz => by
  by_cases z1:z = y
  ·subst z1
   refine ⟨5,?_⟩
   show phi rot b (phi rot b (phi rot b (phi rot b (phi rot b z)))) = _
   rw [stp e1 t0,stp Y.f4 t3,stp Y.v2 r0,stp Y.f3 r3,stp e3 rfl]
   rfl
  ·by_cases z2:z = d.m y
   ·subst z2
    refine ⟨3,?_⟩
    show phi rot b (phi rot b (phi rot b (d.m y))) = _
    rw [stp e4 r2,stp Y.v0 t1,stp e2 rfl]
    show _ = rot (d.m (d.m y))
    rw [hw.inv y hy]
   ·exact ⟨1,by show rot (b z) = rot (d.m z); rw [old z hz z1 z2]⟩
 have yp:Orb (phi rot b) y (pp d.n f 3):=⟨3,by
  show phi rot b (phi rot b (phi rot b y)) = _
  rw [stp e1 t0,stp Y.f4 t3,stp Y.v2 r0]⟩
 have hM:∀ {z},z < 4 * d.n → z < 4 * (d.n + 2):=fun h => by omega
 have sym:∀ {u v},u < 4 * (d.n + 2) → Orb (phi rot b) u v → Orb (phi rot b) v u:=fun hu e => Y.ms.hm.pb.symm hu e
 rcases hn with h | h
 ·left
  have hyx:Orb (nx d) y x:=hw.hm.pb.symm (x := x) (y := y) hx h
  have:Orb (phi rot b) y x:=by
   obtain ⟨k,hk⟩:=hyx
   have run:∀ j,Orb (phi rot b) y (it (nx d) j y) ∧ it (nx d) j y < 4 * d.n:=by
    intro j
    induction j with
    | zero => exact ⟨Orb.refl _ _,hy⟩
    | succ j ih => exact ⟨ih.1.trans (sim _ ih.2),tn_lt (hw.lt _ ih.2)⟩
   rw [← hk]
   exact (run k).1
  exact (sym (hM hy) yp).trans this
 ·right
  intro e
  have:∀ w,Con rot b (pp d.n f 3) w → w < 4 * d.n → Con rot d.m y w:=by
   have key:∀ w,Con rot b (pp d.n f 3) w → w < 4 * (d.n + 2) ∧ (4 * d.n ≤ w ∨ (w < 4 * d.n ∧ Con rot d.m y w)):=by
    intro w e
    induction e with
    | refl => exact ⟨pl 3,.inl (pp_bd _ _ _).1⟩
    | left _ ih =>
      refine ⟨rot_lt ih.1,?_⟩
      rcases ih.2 with h | ⟨h1,h2⟩
      ·exact .inl (rot_ge h)
      ·exact .inr ⟨rot_lt h1,h2.left⟩
    | @right w _ ih =>
      have hbw:=Y.ms.hm.ab.maps w ih.1
      refine ⟨hbw,?_⟩
      rcases Nat.lt_or_ge (b w) (4 * d.n) with h3 | h3
      ·refine .inr ⟨h3,?_⟩
       have hinv:=Y.ms.hm.inv w ih.1
       by_cases z1:b w = y
       ·rw [z1]; exact .refl
       ·by_cases z2:b w = d.m y
        ·rw [z2]; exact Con.refl.right
        ·rw [old _ h3 z1 z2] at hinv
         have hw2:w < 4 * d.n:=by rw [← hinv]; exact hw.lt _ h3
         rcases ih.2 with h | ⟨_,h2⟩
         ·omega
         ·have:b w = d.m w:=by have h5 := hw.inv _ h3; rw [hinv] at h5; exact h5.symm
          rw [this]; exact h2.right
      ·exact .inl h3
   intro w e hwl
   rcases (key w e).2 with h | h
   ·omega
   ·exact h.2
  have:=this x e hx
  exact h ((con_comp hw hx hy).1 (hw.hm.con_symm hy this))
end
end Go.Proofs.YtghdiolnonejaaaGreatDoor.Pl
end
section
namespace Go.Proofs.YtghdiolnonejaaaGreatDoor.Pl
variable {d d':Dg}
theorem Kq.opp {n i0 o0 i1 o1:Nat} (k:Kq n i0 o0 i1 o1):tn o0 2 = i0 ∧ tn i1 2 = o1 ∧ o0 / 4 = n ∧ i1 / 4 = n := by
 have:=k.bd
 unfold Kq at k
 unfold tn
 omega
theorem kd_stay (n:d'.n = d.n + 1) (z:Nat):stay d' [d.n] z ↔ z < 4 * d.n := by
 unfold stay
 rw [List.mem_singleton,n]
 omega
theorem Kd.same0 (hd:Valid d) (hd':Valid d') {i0 o0 i1 o1:Nat} (K:Kd d d' i0 o0 i1 o1) (mo:∀ h,h < 4 * d.n → d'.m h = d.m h) (m4:d'.m i0 = o1) (hlp:d.lp = d'.lp + 1):Same d d' := by
 intro s s' h h'
 have hw:=(Valid.iff.1 hd).1
 have hw':=(Valid.iff.1 hd').1
 obtain ⟨q1,q2,q3,q4⟩:=K.k.opp
 obtain ⟨a1,a2,a3,a4,n1,n2,n3,n4,n5,n6⟩:=K.k.bd
 have ho:o0 < 4 * d'.n:=by rw [K.n]; exact a2.2
 have hk:d'.m o0 / 4 = o0 / 4:=by rw [K.m1,q4,q3]
 have hn:d'.m (tn o0 2) = tn (d'.m o0) 2:=by rw [q1,m4,K.m1,q2]
 have R:=kink_rs0 hd' ho hk hn (lp := 0) (by omega)
 have hg:=kink_cls0 hd' ho hk hn
 rw [q3] at R hg
 have:=in_same hw hw' R (kd_stay K.n) mo (h'.all hw') hg h
 omega
theorem Kd.same (hd:Valid d) (hd':Valid d') {i0 o0 i1 o1 x:Nat} (K:Kd d d' i0 o0 i1 o1) (hx:x < 4 * d.n) (mo:∀ h,h < 4 * d.n → h ≠ x → h ≠ d.m x → d'.m h = d.m h)
 (m3:d'.m o1 = d.m x) (m4:d'.m (d.m x) = o1) (m5:d'.m x = i0) (m6:d'.m i0 = x) (hlp:d.lp = d'.lp):Same d d' := by
 intro s s' h h'
 have hw:=(Valid.iff.1 hd).1
 have hw':=(Valid.iff.1 hd').1
 obtain ⟨q1,q2,q3,q4⟩:=K.k.opp
 obtain ⟨a1,a2,a3,a4,n1,n2,n3,n4,n5,n6⟩:=K.k.bd
 have ho:o0 < 4 * d'.n:=by rw [K.n]; exact a2.2
 have hi0:i0 < 4 * d'.n:=by rw [K.n]; exact a1.2
 have ho1:o1 < 4 * d'.n:=by rw [K.n]; exact a4.2
 have hk:d'.m o0 / 4 = o0 / 4:=by rw [K.m1,q4,q3]
 have hn:d'.m (tn o0 2) ≠ tn (d'.m o0) 2:=by rw [q1,m6,K.m1,q2]; omega
 obtain ⟨c1,c2⟩:=kink_cls hd' ho hk hn (h'.all hw')
 have R:=kink_rs hd' ho hk hn (lp := 0) (by omega) (mt := List.ofFn (n := 4 * d'.n) (fun h => if h.1 = d'.m (tn o0 2) then d'.m (tn (d'.m o0) 2) else if h.1 = d'.m (tn (d'.m o0) 2) then d'.m (tn o0 2) else d'.m h.1)) (fun h hh => by
  rw [List.getD_eq_getElem?_getD,List.getElem?_ofFn,dif_pos hh]; rfl)
 have hnb:d'.m o1 ≠ i0:=by rw [m3]; have := hw.lt x hx; omega
 obtain ⟨b1,b2,b3,b4,b5⟩:=byp_at hw'.hm ho1 hi0 (Ne.symm n3) (hw'.ne _ ho1) (hw'.ne _ hi0) hnb
 rw [K.m1,q1,q2] at c1
 rw [K.m1,q1,q2,q3] at c2 R
 have:=in_same hw hw' R (kd_stay K.n) (fun z hz => ?_) c1 c2 h
 ·omega
 ·by_cases z1:z = x
  ·rw [z1]; rw [m6] at b4; rw [b4,m3]
  ·by_cases z2:z = d.m x
   ·rw [z2]; rw [m3] at b3; rw [b3,m6,hw.inv x hx]
   ·rw [b5 z (by omega) (by omega) (by rw [m3]; exact z2) (by rw [m6]; exact z1),mo z hz z1 z2]
theorem slide_cls {n:Nat} {a t:Nat → Nat} (hm:Hm (4 * n) (fun h => h < 4 * n) rot a) (hm':Hm (4 * n) (fun h => h < 4 * n) rot (cj t a)) (D:Nat → Prop) (Q:Nat → Nat → Nat → Nat → Prop)
 (q:∀ u h p v,Q u h p v → op u = h ∧ op p = v ∧ a h = p ∧ t u = p ∧ t h = v ∧ t p = u ∧ t v = h ∧ D u ∧ D v ∧ ¬ D h ∧ ¬ D p ∧ h < 4 * n ∧ p < 4 * n)
 (dS:∀ x,D x → x < 4 * n) (da:∀ x,D x → D (a x)) (din:∀ x,x < 4 * n → ¬ D x → ∃ u h p v,Q u h p v ∧ (x = h ∨ x = p))
 (dout:∀ x,D x → (∃ u h p v,Q u h p v ∧ (x = u ∨ x = v)) ∨ (t x = x ∧ D (op x))) {k:Nat} (hk:Cls (fun h => h < 4 * n) (Orb (phi op a)) k):Cls (fun h => h < 4 * n) (Orb (phi op (cj t a))) k := by
 have hR:∀ w,D w → D (op (t w)):=by
  intro w hw
  rcases dout w hw with ⟨u,h,p,v,hq,rfl | rfl⟩ | ⟨e,hd⟩
  ·obtain ⟨e1,e2,e3,e4,e5,e6,e7,d1,d2,d3,d4,l1,l2⟩:=q _ _ _ _ hq
   rw [e4,e2]; exact d2
  ·obtain ⟨e1,e2,e3,e4,e5,e6,e7,d1,d2,d3,d4,l1,l2⟩:=q _ _ _ _ hq
   rw [e7,← e1,op_op]; exact d1
  ·rw [e]; exact hd
 -- both come back to the outer half-edges at the same one
 have fR:∀ x,D x → (phi op a x = op (t (a x))) ∨ (¬ D (phi op a x) ∧ phi op a (phi op a x) = op (t (a x))):=by
  intro x hx
  rcases dout (a x) (da x hx) with ⟨u,h,p,v,hq,e | e⟩ | ⟨e,hd⟩
  ·obtain ⟨e1,e2,e3,e4,e5,e6,e7,d1,d2,d3,d4,l1,l2⟩:=q _ _ _ _ hq
   right
   have s1:phi op a x = h:=by show op (a x) = h; rw [e,e1]
   rw [s1]
   exact ⟨d3,by show op (a h) = _; rw [e3,e2,e,e4,e2]⟩
  ·obtain ⟨e1,e2,e3,e4,e5,e6,e7,d1,d2,d3,d4,l1,l2⟩:=q _ _ _ _ hq
   right
   have s1:phi op a x = p:=by show op (a x) = p; rw [e,← e2,op_op]
   have s2:a p = h:=by rw [← e3,hm.inv _ l1]
   rw [s1]
   exact ⟨d4,by show op (a p) = _; rw [s2,e,e7]⟩
  ·left; show op (a x) = _; rw [e]
 have gR:∀ x,D x → (phi op (cj t a) x = op (t (a x))) ∨ (¬ D (phi op (cj t a) x) ∧ phi op (cj t a) (phi op (cj t a) x) = op (t (a x))):=by
  intro x hx
  rcases dout x hx with ⟨u,h,p,v,hq,rfl | rfl⟩ | ⟨e,hd⟩
  ·obtain ⟨e1,e2,e3,e4,e5,e6,e7,d1,d2,d3,d4,l1,l2⟩:=q _ _ _ _ hq
   right
   have s2:a p = h:=by rw [← e3,hm.inv _ l1]
   have s1:phi op (cj t a) x = p:=by show op (t (a (t x))) = p; rw [e4,s2,e5,← e2,op_op]
   rw [s1]
   exact ⟨d4,by show op (t (a (t p))) = _; rw [e6]⟩
  ·obtain ⟨e1,e2,e3,e4,e5,e6,e7,d1,d2,d3,d4,l1,l2⟩:=q _ _ _ _ hq
   right
   have s1:phi op (cj t a) x = h:=by show op (t (a (t x))) = h; rw [e7,e3,e6,e1]
   rw [s1]
   exact ⟨d3,by show op (t (a (t h))) = _; rw [e5]⟩
  ·left; show op (t (a (t x))) = _; rw [e]
 have fo:∀ x,D x → Orb (phi op a) x (op (t (a x))):=fun x hx => by
  rcases fR x hx with e | ⟨_,e⟩
  ·exact ⟨1,e⟩
  ·exact ⟨2,e⟩
 have go:∀ x,D x → Orb (phi op (cj t a)) x (op (t (a x))):=fun x hx => by
  rcases gR x hx with e | ⟨_,e⟩
  ·exact ⟨1,e⟩
  ·exact ⟨2,e⟩
 have fE:=hm.op.pb.eqv
 have gE:=hm'.op.pb.eqv
 have fin:∀ x,x < 4 * n → ∃ y,D y ∧ Orb (phi op a) x y:=by
  intro x hx
  by_cases hD:D x
  ·exact ⟨x,hD,Orb.refl _ _⟩
  ·obtain ⟨u,h,p,v,hq,rfl | rfl⟩:=din x hx hD
   ·obtain ⟨e1,e2,e3,e4,e5,e6,e7,d1,d2,d3,d4,l1,l2⟩:=q _ _ _ _ hq
    exact ⟨v,d2,⟨1,by show op (a x) = v; rw [e3,e2]⟩⟩
   ·obtain ⟨e1,e2,e3,e4,e5,e6,e7,d1,d2,d3,d4,l1,l2⟩:=q _ _ _ _ hq
    have s2:a x = h:=by rw [← e3,hm.inv _ l1]
    exact ⟨u,d1,⟨1,by show op (a x) = u; rw [s2,← e1,op_op]⟩⟩
 have gin:∀ x,x < 4 * n → ∃ y,D y ∧ Orb (phi op (cj t a)) x y:=by
  intro x hx
  by_cases hD:D x
  ·exact ⟨x,hD,Orb.refl _ _⟩
  ·obtain ⟨u,h,p,v,hq,rfl | rfl⟩:=din x hx hD
   ·obtain ⟨e1,e2,e3,e4,e5,e6,e7,d1,d2,d3,d4,l1,l2⟩:=q _ _ _ _ hq
    exact ⟨_,hR _ (da _ d2),⟨1,by show op (t (a (t x))) = _; rw [e5]⟩⟩
   ·obtain ⟨e1,e2,e3,e4,e5,e6,e7,d1,d2,d3,d4,l1,l2⟩:=q _ _ _ _ hq
    exact ⟨_,hR _ (da _ d1),⟨1,by show op (t (a (t x))) = _; rw [e6]⟩⟩
 have h1:=hk.sub (D := D) dS fin
 have h2:Cls D (Orb (phi op (cj t a))) k:=Cls.congr h1 (fun _ => Iff.rfl) fun x y hx hy => by
  constructor
  ·refine orb_ret (D := D) (fun x hx => ?_) hx hy
   rcases fR x hx with e | ⟨n1,e⟩
   ·left; rw [e]; exact ⟨hR _ (da x hx),go x hx⟩
   ·right; rw [e]; exact ⟨hR _ (da x hx),n1,go x hx⟩
  ·refine orb_ret (D := D) (fun x hx => ?_) hx hy
   rcases gR x hx with e | ⟨n1,e⟩
   ·left; rw [e]; exact ⟨hR _ (da x hx),fo x hx⟩
   ·right; rw [e]; exact ⟨hR _ (da x hx),n1,fo x hx⟩
 exact h2.sup gE dS gin
theorem Tr.same (hd:Valid d) {h0 h1 h2:Nat} (t:Tr d h0 h1 h2) (sg:d'.sg = d.sg) (lp:d'.lp = d.lp) (len:d'.mt.length = 4 * d.n) (hm:∀ x,x < 4 * d.n → d'.m x = cj (tu h0 h1 h2) d.m x):Same d d' := by
 intro s s' h h'
 have hv:=Valid.iff.1 hd
 have hw:=hv.1
 have hw':=(Valid.iff.1 (t.valid hd sg lp len hm)).1
 have T:=t.tri hw
 have hn:d'.n = d.n:=by unfold Dg.n; rw [sg]
 have hj:=hw.hm.cj (t := tu h0 h1 h2) T.tS (fun x _ => T.tt x)
 have hm':Hm (4 * d.n) (fun h => h < 4 * d.n) rot (cj (tu h0 h1 h2) d.m):=⟨hw.hm.rb,hj.ab,hj.inv⟩
 have o1:∀ x y z,rot x = y → rot y = z → op x = z:=fun x y z e1 e2 => by show tn x 2 = z; rw [← rot_rot,e1,e2]
 have key:=slide_cls (k := 2 * s) hw.hm hm' (Dout (dart d) h0 h1 h2 (tn h0 1) (tn h1 1) (tn h2 1))
  (fun u h p v => (u = tn h0 2 ∧ h = h0 ∧ p = tn h1 1 ∧ v = tn h1 3) ∨ (u = tn h1 2 ∧ h = h1 ∧ p = tn h2 1 ∧ v = tn h2 3) ∨ (u = tn h2 2 ∧ h = h2 ∧ p = tn h0 1 ∧ v = tn h0 3))
  (fun u h p v hq => by
    rcases hq with ⟨rfl,rfl,rfl,rfl⟩ | ⟨rfl,rfl,rfl,rfl⟩ | ⟨rfl,rfl,rfl,rfl⟩
    ·exact ⟨o1 _ _ _ T.ru0 T.rp0,o1 _ _ _ T.rp1 T.rh1,T.ah0,T.tu0,T.th0,T.tp1,T.tv1,T.du0,T.dv1,T.nh0,T.np1,T.mem _ (by simp),T.mem _ (by simp)⟩
    ·exact ⟨o1 _ _ _ T.ru1 T.rp1,o1 _ _ _ T.rp2 T.rh2,T.ah1,T.tu1,T.th1,T.tp2,T.tv2,T.du1,T.dv2,T.nh1,T.np2,T.mem _ (by simp),T.mem _ (by simp)⟩
    ·exact ⟨o1 _ _ _ T.ru2 T.rp2,o1 _ _ _ T.rp0 T.rh0,T.ah2,T.tu2,T.th2,T.tp0,T.tv0,T.du2,T.dv0,T.nh2,T.np0,T.mem _ (by simp),T.mem _ (by simp)⟩)
  (fun x hx => hx.1) (fun x hx => T.da hw.hm hx)
  (fun x hx hD => by
    have hD2:x = h0 ∨ x = h1 ∨ x = h2 ∨ x = tn h0 1 ∨ x = tn h1 1 ∨ x = tn h2 1:=by
     rw [T.out hx] at hD
     exact Classical.byContradiction fun e => hD e
    rcases hD2 with e | e | e | e | e | e
    ·exact ⟨_,_,_,_,.inl ⟨rfl,rfl,rfl,rfl⟩,.inl e⟩
    ·exact ⟨_,_,_,_,.inr (.inl ⟨rfl,rfl,rfl,rfl⟩),.inl e⟩
    ·exact ⟨_,_,_,_,.inr (.inr ⟨rfl,rfl,rfl,rfl⟩),.inl e⟩
    ·exact ⟨_,_,_,_,.inr (.inr ⟨rfl,rfl,rfl,rfl⟩),.inr e⟩
    ·exact ⟨_,_,_,_,.inl ⟨rfl,rfl,rfl,rfl⟩,.inr e⟩
    ·exact ⟨_,_,_,_,.inr (.inl ⟨rfl,rfl,rfl,rfl⟩),.inr e⟩)
  (fun x hx => by
    by_cases e:x ∈ [tn h0 2,tn h1 2,tn h2 2,tn h0 3,tn h1 3,tn h2 3]
    ·left
     simp only [List.mem_cons,List.not_mem_nil,or_false] at e
     rcases e with e | e | e | e | e | e
     ·exact ⟨_,_,_,_,.inl ⟨rfl,rfl,rfl,rfl⟩,.inl e⟩
     ·exact ⟨_,_,_,_,.inr (.inl ⟨rfl,rfl,rfl,rfl⟩),.inl e⟩
     ·exact ⟨_,_,_,_,.inr (.inr ⟨rfl,rfl,rfl,rfl⟩),.inl e⟩
     ·exact ⟨_,_,_,_,.inr (.inr ⟨rfl,rfl,rfl,rfl⟩),.inr e⟩
     ·exact ⟨_,_,_,_,.inl ⟨rfl,rfl,rfl,rfl⟩,.inr e⟩
     ·exact ⟨_,_,_,_,.inr (.inl ⟨rfl,rfl,rfl,rfl⟩),.inr e⟩
    ·right
     have hx0:=(T.out hx.1).1 hx
     have hno:x ∉ [h0,h1,h2,tn h0 1,tn h1 1,tn h2 1,tn h0 2,tn h1 2,tn h2 2,tn h0 3,tn h1 3,tn h2 3]:=fun hm => by
      simp only [List.mem_cons,List.not_mem_nil,or_false] at hm e
      rcases hm with h | h | h | h | h | h | h
      ·exact hx0 (.inl h)
      ·exact hx0 (.inr (.inl h))
      ·exact hx0 (.inr (.inr (.inl h)))
      ·exact hx0 (.inr (.inr (.inr (.inl h))))
      ·exact hx0 (.inr (.inr (.inr (.inr (.inl h)))))
      ·exact hx0 (.inr (.inr (.inr (.inr (.inr h)))))
      ·exact e h
     refine ⟨T.tx x hno,?_⟩
     have c1:=(T.cx hw.hm hx.1 hno).1
     have c2:=(T.cx hw.hm (rot_lt hx.1) c1).1
     rw [T.out (show dart d (op x) from tn_lt hx.1)]
     intro hm
     apply c2
     rw [rot_rot]
     simp only [List.mem_cons,List.not_mem_nil,or_false]
     rcases hm with h | h | h | h | h | h
     ·exact .inl h
     ·exact .inr (.inl h)
     ·exact .inr (.inr (.inl h))
     ·exact .inr (.inr (.inr (.inl h)))
     ·exact .inr (.inr (.inr (.inr (.inl h))))
     ·exact .inr (.inr (.inr (.inr (.inr (.inl h))))))
  (h.all hw)
 have e2:Cls (dart d') (Orb (st d')) (2 * s):=Cls.congr key (fun x => by unfold dart; rw [hn]) fun x y hx hy => by
  refine Orb.congr (S := fun z => z < 4 * d.n) (fun z hz => tn_lt (hm'.ab.maps z hz)) (fun z hz => ?_) hx
  show tn _ 2 = tn (d'.m z) 2
  rw [hm z hz]
 have:=h'.iff hw' e2
 omega
end Go.Proofs.YtghdiolnonejaaaGreatDoor.Pl
end
section
namespace Go.Proofs.YtghdiolnonejaaaGreatDoor.Pl
section
variable {d:Dg} {h u:Nat}
theorem Lens.lA_c (E:d.m (tn h 2) = tn u 2):lA d h u = d.m := by unfold lA Pl.cls; rw [if_pos E]
theorem Lens.lA_e (hw:Wf d) (L:Lens d h u) (E:d.m (tn h 2) ≠ tn u 2):lA d h u (d.m (tn h 2)) = d.m (tn u 2) ∧ lA d h u (d.m (tn u 2)) = d.m (tn h 2) ∧ ∀ z,z ≠ tn h 2 → z ≠ tn u 2 → z ≠ d.m (tn h 2) → z ≠ d.m (tn u 2) → lA d h u z = d.m z := by
 have hh:=L.hh
 have hu:=L.hu hw
 obtain ⟨b1,b2,b3,b4,b5⟩:=byp_at hw.hm (tn_lt hh) (tn_lt hu) (pm L.ne) (hw.ne _ (tn_lt (k := 2) hh)) (hw.ne _ (tn_lt (k := 2) hu)) E
 unfold lA Pl.cls
 rw [if_neg E]
 exact ⟨b3,b4,b5⟩
theorem Lens.lB_c (E:lA d h u (tn h 3) = tn u 1):lB d h u = lA d h u := by unfold lB; unfold Pl.cls; rw [if_pos E]
theorem Lens.lB_e (hd:Valid d) (L:Lens d h u) (E:lA d h u (tn h 3) ≠ tn u 1):lB d h u (lA d h u (tn h 3)) = lA d h u (tn u 1) ∧ lB d h u (lA d h u (tn u 1)) = lA d h u (tn h 3) ∧
 ∀ z,z ≠ tn h 3 → z ≠ tn u 1 → z ≠ lA d h u (tn h 3) → z ≠ lA d h u (tn u 1) → lB d h u z = lA d h u z := by
 have hw:=(Valid.iff.1 hd).1
 have hh:=L.hh
 have hu:=L.hu hw
 have A:=L.la hd
 obtain ⟨b1,b2,b3,b4,b5⟩:=byp_at A.hm (tn_lt hh) (tn_lt hu) (pm L.ne) (A.nf _ (tn_lt (k := 3) hh) (tn_ne (by omega)) (pm L.ne)) (A.nf _ (tn_lt (k := 1) hu) (Ne.symm (pm L.ne)) (tn_ne (by omega))) E
 unfold lB
 unfold Pl.cls
 rw [if_neg E]
 exact ⟨b3,b4,b5⟩
end
theorem tn_pp (n f t k:Nat):tn (pp n f t) k = pp n f (t + k) := by unfold tn pp; omega
structure Out (d d':Dg) (f g c1 c2:Nat):Prop where
 n:d'.n = d.n + 2
 L:Lens d' (pp d.n f 0) (pp (d.n + 1) g 2)
 b:∀ z,z < 4 * d.n → lB d' (pp d.n f 0) (pp (d.n + 1) g 2) z = d.m z
 e1:c1 = if d'.m (pp d.n f 2) = pp (d.n + 1) g 0 then 1 else 0
 e2:c2 = if lA d' (pp d.n f 0) (pp (d.n + 1) g 2) (pp d.n f 3) = pp (d.n + 1) g 3 then 1 else 0
section
variable {d d':Dg} {f g c1 c2:Nat}
theorem Out.stay (O:Out d d' f g c1 c2) (z:Nat):Pl.stay d' [d.n,d.n + 1] z ↔ z < 4 * d.n := by
 unfold Pl.stay
 rw [O.n,List.mem_cons,List.mem_singleton]
 omega
theorem Out.hx (O:Out d d' f g c1 c2):(d.n = pp d.n f 0 / 4 ∧ d.n + 1 = pp (d.n + 1) g 2 / 4) ∨ (d.n = pp (d.n + 1) g 2 / 4 ∧ d.n + 1 = pp d.n f 0 / 4) := by
 left; unfold pp; omega
theorem Out.same (hd:Valid d) (hd':Valid d') (O:Out d d' f g c1 c2) (hlp:d.lp = d'.lp + c1 + c2):Same d d' := by
 intro s s' h h'
 have hw:=(Valid.iff.1 hd).1
 have hw':=(Valid.iff.1 hd').1
 have R:=(O.L.lb hd').rs hw' O.L (x := d.n) (y := d.n + 1) (by omega) O.hx (lp := 0) (by omega) (mt := List.ofFn (n := 4 * d'.n) (fun z => lB d' (pp d.n f 0) (pp (d.n + 1) g 2) z.1)) (fun z hz => by
  rw [List.getD_eq_getElem?_getD,List.getElem?_ofFn,dif_pos hz.1]; rfl)
 have:=in_same hw hw' R O.stay O.b (O.L.cls hd' (h'.all hw')) (O.L.gone hd' O.hx) h
 have q1:tn (pp d.n f 0) 2 = pp d.n f 2:=tn_pp _ _ _ _
 have q2:tn (pp (d.n + 1) g 2) 2 = pp (d.n + 1) g 0:=by rw [tn_pp,show 2 + 2 = 0 + 4 from rfl,pp_mod]
 have q3:tn (pp d.n f 0) 3 = pp d.n f 3:=tn_pp _ _ _ _
 have q4:tn (pp (d.n + 1) g 2) 1 = pp (d.n + 1) g 3:=tn_pp _ _ _ _
 rw [q1,q2,q3,q4] at this
 have e1:=O.e1
 have e2:=O.e2
 by_cases a1:d'.m (pp d.n f 2) = pp (d.n + 1) g 0 <;> by_cases a2:lA d' (pp d.n f 0) (pp (d.n + 1) g 2) (pp d.n f 3) = pp (d.n + 1) g 3 <;> simp only [a1,a2,if_true,if_false] at this e1 e2 <;> omega
structure In (d d':Dg) (f g:Nat):Prop where
 n:d'.n = d.n + 2
 v:Valid d'
 m0:d'.m (pp d.n f 0) = pp (d.n + 1) g 2
 m1:d'.m (pp d.n f 1) = pp (d.n + 1) g 1
theorem In.lens (I:In d d' f g):Lens d' (pp d.n f 0) (pp (d.n + 1) g 2) :=
 ⟨by rw [I.n]; unfold pp; omega,I.m0,by rw [tn_pp,I.m1,tn_pp,show 2 + 3 = 1 + 4 from rfl,pp_mod],by unfold pp; omega⟩
section
variable (I:In d d' f g)
include I
theorem In.e1 (E:d'.m (pp d.n f 2) ≠ pp (d.n + 1) g 0):lA d' (pp d.n f 0) (pp (d.n + 1) g 2) (d'.m (pp d.n f 2)) = d'.m (pp (d.n + 1) g 0) ∧ lA d' (pp d.n f 0) (pp (d.n + 1) g 2) (d'.m (pp (d.n + 1) g 0)) = d'.m (pp d.n f 2) ∧
 ∀ z,z ≠ pp d.n f 2 → z ≠ pp (d.n + 1) g 0 → z ≠ d'.m (pp d.n f 2) → z ≠ d'.m (pp (d.n + 1) g 0) → lA d' (pp d.n f 0) (pp (d.n + 1) g 2) z = d'.m z := by
 have q1:tn (pp d.n f 0) 2 = pp d.n f 2:=tn_pp _ _ _ _
 have q2:tn (pp (d.n + 1) g 2) 2 = pp (d.n + 1) g 0:=by rw [tn_pp,show 2 + 2 = 0 + 4 from rfl,pp_mod]
 have:=I.lens.lA_e (Valid.iff.1 I.v).1 (by rw [q1,q2]; exact E)
 rwa [q1,q2] at this
theorem In.k1 (E:d'.m (pp d.n f 2) = pp (d.n + 1) g 0):lA d' (pp d.n f 0) (pp (d.n + 1) g 2) = d'.m := by
 have _:=I
 have q1:tn (pp d.n f 0) 2 = pp d.n f 2:=tn_pp _ _ _ _
 have q2:tn (pp (d.n + 1) g 2) 2 = pp (d.n + 1) g 0:=by rw [tn_pp,show 2 + 2 = 0 + 4 from rfl,pp_mod]
 exact Lens.lA_c (by rw [q1,q2]; exact E)
theorem In.e2 (E:lA d' (pp d.n f 0) (pp (d.n + 1) g 2) (pp d.n f 3) ≠ pp (d.n + 1) g 3):lB d' (pp d.n f 0) (pp (d.n + 1) g 2) (lA d' (pp d.n f 0) (pp (d.n + 1) g 2) (pp d.n f 3)) = lA d' (pp d.n f 0) (pp (d.n + 1) g 2) (pp (d.n + 1) g 3) ∧
 lB d' (pp d.n f 0) (pp (d.n + 1) g 2) (lA d' (pp d.n f 0) (pp (d.n + 1) g 2) (pp (d.n + 1) g 3)) = lA d' (pp d.n f 0) (pp (d.n + 1) g 2) (pp d.n f 3) ∧
 ∀ z,z ≠ pp d.n f 3 → z ≠ pp (d.n + 1) g 3 → z ≠ lA d' (pp d.n f 0) (pp (d.n + 1) g 2) (pp d.n f 3) → z ≠ lA d' (pp d.n f 0) (pp (d.n + 1) g 2) (pp (d.n + 1) g 3) → lB d' (pp d.n f 0) (pp (d.n + 1) g 2) z = lA d' (pp d.n f 0) (pp (d.n + 1) g 2) z := by
 have q3:tn (pp d.n f 0) 3 = pp d.n f 3:=tn_pp _ _ _ _
 have q4:tn (pp (d.n + 1) g 2) 1 = pp (d.n + 1) g 3:=tn_pp _ _ _ _
 have:=I.lens.lB_e I.v (by rw [q3,q4]; exact E)
 rwa [q3,q4] at this
theorem In.k2 (E:lA d' (pp d.n f 0) (pp (d.n + 1) g 2) (pp d.n f 3) = pp (d.n + 1) g 3):lB d' (pp d.n f 0) (pp (d.n + 1) g 2) = lA d' (pp d.n f 0) (pp (d.n + 1) g 2) := by
 have _:=I
 have q3:tn (pp d.n f 0) 3 = pp d.n f 3:=tn_pp _ _ _ _
 have q4:tn (pp (d.n + 1) g 2) 1 = pp (d.n + 1) g 3:=tn_pp _ _ _ _
 exact Lens.lB_c (by rw [q3,q4]; exact E)
theorem In.po (t:Nat) {z:Nat} (hz:z < 4 * d.n):z ≠ pp d.n f t := by have _ := I; have := pp_bd d.n f t; omega
theorem In.qo (t:Nat) {z:Nat} (hz:z < 4 * d.n):z ≠ pp (d.n + 1) g t := by have _ := I; have := pp_bd (d.n + 1) g t; omega
theorem In.edges (hw:Wf d) {x y:Nat} (hx:x < 4 * d.n) (hy:y < 4 * d.n) (xy:x ≠ y) (xm:d.m x ≠ y) (v2:d'.m (pp d.n f 2) = d.m y) (v0:d'.m (pp (d.n + 1) g 0) = y) (v3:d'.m (pp d.n f 3) = x) (w3:d'.m (pp (d.n + 1) g 3) = d.m x)
 (old:∀ z,z < 4 * d.n → z ≠ x → z ≠ d.m x → z ≠ y → z ≠ d.m y → d'.m z = d.m z):Out d d' f g 0 0 := by
 have hmx:=hw.lt x hx
 have hmy:=hw.lt y hy
 have n1:d'.m (pp d.n f 2) ≠ pp (d.n + 1) g 0:=by rw [v2]; exact I.qo 0 hmy
 obtain ⟨a1,a2,a3⟩:=I.e1 n1
 rw [v2,v0] at a1 a2 a3
 have k1:=a3 (pp d.n f 3) (pp_ne (by omega)) pp_nq (Ne.symm (I.po 3 hmy)) (Ne.symm (I.po 3 hy))
 have k2:=a3 (pp (d.n + 1) g 3) (Ne.symm pp_nq) (pp_ne (by omega)) (Ne.symm (I.qo 3 hmy)) (Ne.symm (I.qo 3 hy))
 rw [v3] at k1
 rw [w3] at k2
 have n2:lA d' (pp d.n f 0) (pp (d.n + 1) g 2) (pp d.n f 3) ≠ pp (d.n + 1) g 3:=by rw [k1]; exact I.qo 3 hx
 obtain ⟨b1,b2,b3⟩:=I.e2 n2
 rw [k1,k2] at b1 b2 b3
 refine ⟨I.n,I.lens,fun z hz => ?_,by rw [if_neg n1],by rw [if_neg n2]⟩
 by_cases z1:z = x
 ·rw [z1,b1]
 ·by_cases z2:z = d.m x
  ·rw [z2,b2,hw.inv x hx]
  ·rw [b3 z (I.po 3 hz) (I.qo 3 hz) z1 z2]
   by_cases z3:z = y
   ·rw [z3,a2]
   ·by_cases z4:z = d.m y
    ·rw [z4,a1,hw.inv y hy]
    ·rw [a3 z (I.po 2 hz) (I.qo 0 hz) z4 z3,old z hz z1 z2 z3 z4]
theorem In.loops (v2:d'.m (pp d.n f 2) = pp (d.n + 1) g 0) (v3:d'.m (pp d.n f 3) = pp (d.n + 1) g 3) (old:∀ z,z < 4 * d.n → d'.m z = d.m z):Out d d' f g 1 1 := by
 have k:=I.k1 v2
 have n2:lA d' (pp d.n f 0) (pp (d.n + 1) g 2) (pp d.n f 3) = pp (d.n + 1) g 3:=by rw [k,v3]
 exact ⟨I.n,I.lens,fun z hz => by rw [I.k2 n2,k,old z hz],by rw [if_pos v2],by rw [if_pos n2]⟩
theorem In.xedge (hw:Wf d) {x:Nat} (hx:x < 4 * d.n) (v2:d'.m (pp d.n f 2) = pp (d.n + 1) g 0) (v3:d'.m (pp d.n f 3) = x) (w3:d'.m (pp (d.n + 1) g 3) = d.m x)
 (old:∀ z,z < 4 * d.n → z ≠ x → z ≠ d.m x → d'.m z = d.m z):Out d d' f g 1 0 := by
 have k:=I.k1 v2
 have n2:lA d' (pp d.n f 0) (pp (d.n + 1) g 2) (pp d.n f 3) ≠ pp (d.n + 1) g 3:=by rw [k,v3]; exact I.qo 3 hx
 obtain ⟨b1,b2,b3⟩:=I.e2 n2
 rw [k,v3,w3] at b1 b2 b3
 refine ⟨I.n,I.lens,fun z hz => ?_,by rw [if_pos v2],by rw [if_neg n2]⟩
 by_cases z1:z = x
 ·rw [z1,b1]
 ·by_cases z2:z = d.m x
  ·rw [z2,b2,hw.inv x hx]
  ·rw [b3 z (I.po 3 hz) (I.qo 3 hz) z1 z2,old z hz z1 z2]
theorem In.yedge (hw:Wf d) {y:Nat} (hy:y < 4 * d.n) (v2:d'.m (pp d.n f 2) = d.m y) (v0:d'.m (pp (d.n + 1) g 0) = y) (v3:d'.m (pp d.n f 3) = pp (d.n + 1) g 3)
 (old:∀ z,z < 4 * d.n → z ≠ y → z ≠ d.m y → d'.m z = d.m z):Out d d' f g 0 1 := by
 have hmy:=hw.lt y hy
 have n1:d'.m (pp d.n f 2) ≠ pp (d.n + 1) g 0:=by rw [v2]; exact I.qo 0 hmy
 obtain ⟨a1,a2,a3⟩:=I.e1 n1
 rw [v2,v0] at a1 a2 a3
 have n2:lA d' (pp d.n f 0) (pp (d.n + 1) g 2) (pp d.n f 3) = pp (d.n + 1) g 3:=by
  rw [a3 (pp d.n f 3) (pp_ne (by omega)) pp_nq (Ne.symm (I.po 3 hmy)) (Ne.symm (I.po 3 hy)),v3]
 refine ⟨I.n,I.lens,fun z hz => ?_,by rw [if_neg n1],by rw [if_pos n2]⟩
 rw [I.k2 n2]
 by_cases z3:z = y
 ·rw [z3,a2]
 ·by_cases z4:z = d.m y
  ·rw [z4,a1,hw.inv y hy]
  ·rw [a3 z (I.po 2 hz) (I.qo 0 hz) z4 z3,old z hz z3 z4]
theorem In.self0 (v2:d'.m (pp d.n f 2) = pp d.n f 3) (v0:d'.m (pp (d.n + 1) g 0) = pp (d.n + 1) g 3) (old:∀ z,z < 4 * d.n → d'.m z = d.m z):Out d d' f g 0 1 := by
 have n1:d'.m (pp d.n f 2) ≠ pp (d.n + 1) g 0:=by rw [v2]; exact pp_nq
 obtain ⟨a1,a2,a3⟩:=I.e1 n1
 rw [v2,v0] at a1 a2 a3
 refine ⟨I.n,I.lens,fun z hz => ?_,by rw [if_neg n1],by rw [if_pos a1]⟩
 rw [I.k2 a1,a3 z (I.po 2 hz) (I.qo 0 hz) (I.po 3 hz) (I.qo 3 hz),old z hz]
theorem In.self1 (hw:Wf d) {x:Nat} (hx:x < 4 * d.n) (v2:d'.m (pp d.n f 2) = d.m x) (v0:d'.m (pp (d.n + 1) g 0) = pp (d.n + 1) g 3) (v3:d'.m (pp d.n f 3) = x)
 (old:∀ z,z < 4 * d.n → z ≠ x → z ≠ d.m x → d'.m z = d.m z):Out d d' f g 0 0 := by
 have hmx:=hw.lt x hx
 have n1:d'.m (pp d.n f 2) ≠ pp (d.n + 1) g 0:=by rw [v2]; exact I.qo 0 hmx
 obtain ⟨a1,a2,a3⟩:=I.e1 n1
 rw [v2,v0] at a1 a2 a3
 have k1:=a3 (pp d.n f 3) (pp_ne (by omega)) pp_nq (Ne.symm (I.po 3 hmx)) pp_nq
 rw [v3] at k1
 have n2:lA d' (pp d.n f 0) (pp (d.n + 1) g 2) (pp d.n f 3) ≠ pp (d.n + 1) g 3:=by rw [k1]; exact I.qo 3 hx
 obtain ⟨b1,b2,b3⟩:=I.e2 n2
 rw [k1,a2] at b1 b2 b3
 refine ⟨I.n,I.lens,fun z hz => ?_,by rw [if_neg n1],by rw [if_neg n2]⟩
 by_cases z1:z = x
 ·rw [z1,b1]
 ·by_cases z2:z = d.m x
  ·rw [z2,b2,hw.inv x hx]
  ·rw [b3 z (I.po 3 hz) (I.qo 3 hz) z1 z2,a3 z (I.po 2 hz) (I.qo 0 hz) z2 (I.qo 3 hz),old z hz z1 z2]
theorem In.self2 (hw:Wf d) {x:Nat} (hx:x < 4 * d.n) (v2:d'.m (pp d.n f 2) = pp d.n f 3) (v0:d'.m (pp (d.n + 1) g 0) = x) (w3:d'.m (pp (d.n + 1) g 3) = d.m x)
 (old:∀ z,z < 4 * d.n → z ≠ x → z ≠ d.m x → d'.m z = d.m z):Out d d' f g 0 0 := by
 have hmx:=hw.lt x hx
 have n1:d'.m (pp d.n f 2) ≠ pp (d.n + 1) g 0:=by rw [v2]; exact pp_nq
 obtain ⟨a1,a2,a3⟩:=I.e1 n1
 rw [v2,v0] at a1 a2 a3
 have k2:=a3 (pp (d.n + 1) g 3) (Ne.symm pp_nq) (pp_ne (by omega)) (Ne.symm pp_nq) (Ne.symm (I.qo 3 hx))
 rw [w3] at k2
 have n2:lA d' (pp d.n f 0) (pp (d.n + 1) g 2) (pp d.n f 3) ≠ pp (d.n + 1) g 3:=by rw [a1]; exact I.qo 3 hx
 obtain ⟨b1,b2,b3⟩:=I.e2 n2
 rw [a1,k2] at b1 b2 b3
 refine ⟨I.n,I.lens,fun z hz => ?_,by rw [if_neg n1],by rw [if_neg n2]⟩
 by_cases z1:z = x
 ·rw [z1,b1]
 ·by_cases z2:z = d.m x
  ·rw [z2,b2,hw.inv x hx]
  ·rw [b3 z (I.po 3 hz) (I.qo 3 hz) z1 z2,a3 z (I.po 2 hz) (I.qo 0 hz) (I.po 3 hz) z1,old z hz z1 z2]
end
end
end Go.Proofs.YtghdiolnonejaaaGreatDoor.Pl
end
section
namespace Go.Proofs.YtghdiolnonejaaaGreatDoor.Pl
section
variable {d d':Dg} {f g:Nat} {fx fy:Bool}
theorem Pd.l0 (hd:Valid d) (K:Pd d d' f g fx fy):(pkL0 d f g).length = 4 * (d.n + 2) ∧ (pkL0 d f g).getD (pp d.n f 0) 0 = pp (d.n + 1) g 2 ∧ (pkL0 d f g).getD (pp d.n f 1) 0 = pp (d.n + 1) g 1 ∧ ∀ z,z < 4 * d.n → (pkL0 d f g).getD z 0 = d.m z := by
 have B:=K.base hd
 have hw:=(Valid.iff.1 hd).1
 refine ⟨B.ms.len,?_,?_,fun z hz => ?_⟩
 ·rw [B.ms.at_ _ (by unfold pp; omega) (by rw [B.b4]; unfold pp; omega),B.b4]
 ·rw [B.ms.at_ _ (by unfold pp; omega) (by rw [B.b1]; unfold pp; omega),B.b1]
 ·rw [B.ms.at_ z (by omega) (by rw [B.old z hz]; exact hw.ne z hz),B.old z hz]
theorem Pd.out_loops (hd:Valid d) (K:Pd d d' f g fx fy) (hv:Valid d') (hl:d'.mt = jl (jl (pkL0 d f g) (pp (d.n + 1) g 0) (pp d.n f 2)) (pp d.n f 3) (pp (d.n + 1) g 3)):Out d d' f g 1 1 := by
 have hw:=(Valid.iff.1 hd).1
 have hw':=(Valid.iff.1 hv).1
 obtain ⟨ln,l0,l1,lo⟩:=K.l0 hd
 have e:∀ z,z < 4 * (d.n + 2) → d'.m z = if z = (pp (d.n + 1) g 3) then (pp d.n f 3) else if z = (pp d.n f 3) then (pp (d.n + 1) g 3) else if z = (pp d.n f 2) then (pp (d.n + 1) g 0) else if z = (pp (d.n + 1) g 0) then (pp d.n f 2) else (pkL0 d f g).getD z 0:=fun z hz => by
  rw [← dg_m hw' (by rw [K.n]; exact hz),hl,jl_at (by simp only [jl_len,ln,pp]; omega) (by simp only [jl_len,ln,pp]; omega),jl_at (by simp only [jl_len,ln,pp]; omega) (by simp only [jl_len,ln,pp]; omega)]
 have m0:d'.m (pp d.n f 0) = (pp (d.n + 1) g 2):=by rw [e _ (by unfold pp; omega),if_neg (by unfold pp; omega),if_neg (by unfold pp; omega),if_neg (by unfold pp; omega),if_neg (by unfold pp; omega),l0]
 have m1:d'.m (pp d.n f 1) = (pp (d.n + 1) g 1):=by rw [e _ (by unfold pp; omega),if_neg (by unfold pp; omega),if_neg (by unfold pp; omega),if_neg (by unfold pp; omega),if_neg (by unfold pp; omega),l1]
 have v2:d'.m (pp d.n f 2) = (pp (d.n + 1) g 0):=by rw [e _ (by unfold pp; omega),if_neg (by unfold pp; omega),if_neg (by unfold pp; omega),if_pos rfl]
 have v0:d'.m (pp (d.n + 1) g 0) = (pp d.n f 2):=by rw [e _ (by unfold pp; omega),if_neg (by unfold pp; omega),if_neg (by unfold pp; omega),if_neg (by unfold pp; omega),if_pos rfl]
 have v3:d'.m (pp d.n f 3) = (pp (d.n + 1) g 3):=by rw [e _ (by unfold pp; omega),if_neg (by unfold pp; omega),if_pos rfl]
 have w3:d'.m (pp (d.n + 1) g 3) = (pp d.n f 3):=by rw [e _ (by unfold pp; omega),if_pos rfl]
 have old:∀ z,z < 4 * d.n → d'.m z = d.m z:=fun z hz => by rw [e z (by omega),if_neg (by unfold pp; omega),if_neg (by unfold pp; omega),if_neg (by unfold pp; omega),if_neg (by unfold pp; omega),lo z hz]
 exact (show In d d' f g from ⟨K.n,hv,m0,m1⟩).loops v2 v3 old
theorem Pd.out_xedge (hd:Valid d) (K:Pd d d' f g fx fy) (hv:Valid d') {x:Nat} (hx:x < 4 * d.n) (hl:d'.mt = jl (jl (jl (pkL0 d f g) (pp (d.n + 1) g 0) (pp d.n f 2)) x (pp d.n f 3)) (pp (d.n + 1) g 3) (d.m x)):Out d d' f g 1 0 := by
 have hw:=(Valid.iff.1 hd).1
 have hw':=(Valid.iff.1 hv).1
 obtain ⟨ln,l0,l1,lo⟩:=K.l0 hd
 have hmx:=hw.lt x hx
 have hnex:=hw.ne x hx
 have e:∀ z,z < 4 * (d.n + 2) → d'.m z = if z = (d.m x) then (pp (d.n + 1) g 3) else if z = (pp (d.n + 1) g 3) then (d.m x) else if z = (pp d.n f 3) then x else if z = x then (pp d.n f 3) else if z = (pp d.n f 2) then (pp (d.n + 1) g 0) else if z = (pp (d.n + 1) g 0) then (pp d.n f 2) else (pkL0 d f g).getD z 0:=fun z hz => by
  rw [← dg_m hw' (by rw [K.n]; exact hz),hl,jl_at (by simp only [jl_len,ln,pp]; omega) (by simp only [jl_len,ln,pp]; omega),jl_at (by simp only [jl_len,ln,pp]; omega) (by simp only [jl_len,ln,pp]; omega),jl_at (by simp only [jl_len,ln,pp]; omega) (by simp only [jl_len,ln,pp]; omega)]
 have m0:d'.m (pp d.n f 0) = (pp (d.n + 1) g 2):=by rw [e _ (by unfold pp; omega),if_neg (by unfold pp; omega),if_neg (by unfold pp; omega),if_neg (by unfold pp; omega),if_neg (by unfold pp; omega),if_neg (by unfold pp; omega),if_neg (by unfold pp; omega),l0]
 have m1:d'.m (pp d.n f 1) = (pp (d.n + 1) g 1):=by rw [e _ (by unfold pp; omega),if_neg (by unfold pp; omega),if_neg (by unfold pp; omega),if_neg (by unfold pp; omega),if_neg (by unfold pp; omega),if_neg (by unfold pp; omega),if_neg (by unfold pp; omega),l1]
 have v2:d'.m (pp d.n f 2) = (pp (d.n + 1) g 0):=by rw [e _ (by unfold pp; omega),if_neg (by unfold pp; omega),if_neg (by unfold pp; omega),if_neg (by unfold pp; omega),if_neg (by unfold pp; omega),if_pos rfl]
 have v0:d'.m (pp (d.n + 1) g 0) = (pp d.n f 2):=by rw [e _ (by unfold pp; omega),if_neg (by unfold pp; omega),if_neg (by unfold pp; omega),if_neg (by unfold pp; omega),if_neg (by unfold pp; omega),if_neg (by unfold pp; omega),if_pos rfl]
 have v3:d'.m (pp d.n f 3) = x:=by rw [e _ (by unfold pp; omega),if_neg (by unfold pp; omega),if_neg (by unfold pp; omega),if_pos rfl]
 have w3:d'.m (pp (d.n + 1) g 3) = (d.m x):=by rw [e _ (by unfold pp; omega),if_neg (by unfold pp; omega),if_pos rfl]
 have old:∀ z,z < 4 * d.n → z ≠ x → z ≠ d.m x → d'.m z = d.m z:=fun z hz z1 z2 => by rw [e z (by omega),if_neg z2,if_neg (by unfold pp; omega),if_neg (by unfold pp; omega),if_neg z1,if_neg (by unfold pp; omega),if_neg (by unfold pp; omega),lo z hz]
 exact (show In d d' f g from ⟨K.n,hv,m0,m1⟩).xedge hw hx v2 v3 w3 old
theorem Pd.out_yedge (hd:Valid d) (K:Pd d d' f g fx fy) (hv:Valid d') {y:Nat} (hy:y < 4 * d.n) (hl:d'.mt = jl (jl (jl (pkL0 d f g) y (pp (d.n + 1) g 0)) (pp d.n f 2) (d.m y)) (pp d.n f 3) (pp (d.n + 1) g 3)):Out d d' f g 0 1 := by
 have hw:=(Valid.iff.1 hd).1
 have hw':=(Valid.iff.1 hv).1
 obtain ⟨ln,l0,l1,lo⟩:=K.l0 hd
 have hmy:=hw.lt y hy
 have hney:=hw.ne y hy
 have e:∀ z,z < 4 * (d.n + 2) → d'.m z = if z = (pp (d.n + 1) g 3) then (pp d.n f 3) else if z = (pp d.n f 3) then (pp (d.n + 1) g 3) else if z = (d.m y) then (pp d.n f 2) else if z = (pp d.n f 2) then (d.m y) else if z = (pp (d.n + 1) g 0) then y else if z = y then (pp (d.n + 1) g 0) else (pkL0 d f g).getD z 0:=fun z hz => by
  rw [← dg_m hw' (by rw [K.n]; exact hz),hl,jl_at (by simp only [jl_len,ln,pp]; omega) (by simp only [jl_len,ln,pp]; omega),jl_at (by simp only [jl_len,ln,pp]; omega) (by simp only [jl_len,ln,pp]; omega),jl_at (by simp only [jl_len,ln,pp]; omega) (by simp only [jl_len,ln,pp]; omega)]
 have m0:d'.m (pp d.n f 0) = (pp (d.n + 1) g 2):=by rw [e _ (by unfold pp; omega),if_neg (by unfold pp; omega),if_neg (by unfold pp; omega),if_neg (by unfold pp; omega),if_neg (by unfold pp; omega),if_neg (by unfold pp; omega),if_neg (by unfold pp; omega),l0]
 have m1:d'.m (pp d.n f 1) = (pp (d.n + 1) g 1):=by rw [e _ (by unfold pp; omega),if_neg (by unfold pp; omega),if_neg (by unfold pp; omega),if_neg (by unfold pp; omega),if_neg (by unfold pp; omega),if_neg (by unfold pp; omega),if_neg (by unfold pp; omega),l1]
 have v2:d'.m (pp d.n f 2) = (d.m y):=by rw [e _ (by unfold pp; omega),if_neg (by unfold pp; omega),if_neg (by unfold pp; omega),if_neg (by unfold pp; omega),if_pos rfl]
 have v0:d'.m (pp (d.n + 1) g 0) = y:=by rw [e _ (by unfold pp; omega),if_neg (by unfold pp; omega),if_neg (by unfold pp; omega),if_neg (by unfold pp; omega),if_neg (by unfold pp; omega),if_pos rfl]
 have v3:d'.m (pp d.n f 3) = (pp (d.n + 1) g 3):=by rw [e _ (by unfold pp; omega),if_neg (by unfold pp; omega),if_pos rfl]
 have w3:d'.m (pp (d.n + 1) g 3) = (pp d.n f 3):=by rw [e _ (by unfold pp; omega),if_pos rfl]
 have old:∀ z,z < 4 * d.n → z ≠ y → z ≠ d.m y → d'.m z = d.m z:=fun z hz z1 z2 => by rw [e z (by omega),if_neg (by unfold pp; omega),if_neg (by unfold pp; omega),if_neg z2,if_neg (by unfold pp; omega),if_neg (by unfold pp; omega),if_neg z1,lo z hz]
 exact (show In d d' f g from ⟨K.n,hv,m0,m1⟩).yedge hw hy v2 v0 v3 old
theorem Pd.out_edges (hd:Valid d) (K:Pd d d' f g fx fy) (hv:Valid d') {x:Nat} (hx:x < 4 * d.n) {y:Nat} (hy:y < 4 * d.n) (xy:x ≠ y) (xm:d.m x ≠ y) (hl:d'.mt = jl (jl (jl (jl (pkL0 d f g) y (pp (d.n + 1) g 0)) (pp d.n f 2) (d.m y)) x (pp d.n f 3)) (pp (d.n + 1) g 3) (d.m x)):Out d d' f g 0 0 := by
 have hw:=(Valid.iff.1 hd).1
 have hw':=(Valid.iff.1 hv).1
 obtain ⟨ln,l0,l1,lo⟩:=K.l0 hd
 have hmx:=hw.lt x hx
 have hnex:=hw.ne x hx
 have hmy:=hw.lt y hy
 have hney:=hw.ne y hy
 have ym:d.m y ≠ x:=fun e => xm (by rw [← e,hw.inv y hy])
 have mm:d.m x ≠ d.m y:=fun e => xy (hw.bij.inj _ _ hx hy e)
 have e:∀ z,z < 4 * (d.n + 2) → d'.m z = if z = (d.m x) then (pp (d.n + 1) g 3) else if z = (pp (d.n + 1) g 3) then (d.m x) else if z = (pp d.n f 3) then x else if z = x then (pp d.n f 3) else if z = (d.m y) then (pp d.n f 2) else if z = (pp d.n f 2) then (d.m y) else if z = (pp (d.n + 1) g 0) then y else if z = y then (pp (d.n + 1) g 0) else (pkL0 d f g).getD z 0:=fun z hz => by
  rw [← dg_m hw' (by rw [K.n]; exact hz),hl,jl_at (by simp only [jl_len,ln,pp]; omega) (by simp only [jl_len,ln,pp]; omega),jl_at (by simp only [jl_len,ln,pp]; omega) (by simp only [jl_len,ln,pp]; omega),jl_at (by simp only [jl_len,ln,pp]; omega) (by simp only [jl_len,ln,pp]; omega),jl_at (by simp only [jl_len,ln,pp]; omega) (by simp only [jl_len,ln,pp]; omega)]
 have m0:d'.m (pp d.n f 0) = (pp (d.n + 1) g 2):=by rw [e _ (by unfold pp; omega),if_neg (by unfold pp; omega),if_neg (by unfold pp; omega),if_neg (by unfold pp; omega),if_neg (by unfold pp; omega),if_neg (by unfold pp; omega),if_neg (by unfold pp; omega),if_neg (by unfold pp; omega),if_neg (by unfold pp; omega),l0]
 have m1:d'.m (pp d.n f 1) = (pp (d.n + 1) g 1):=by rw [e _ (by unfold pp; omega),if_neg (by unfold pp; omega),if_neg (by unfold pp; omega),if_neg (by unfold pp; omega),if_neg (by unfold pp; omega),if_neg (by unfold pp; omega),if_neg (by unfold pp; omega),if_neg (by unfold pp; omega),if_neg (by unfold pp; omega),l1]
 have v2:d'.m (pp d.n f 2) = (d.m y):=by rw [e _ (by unfold pp; omega),if_neg (by unfold pp; omega),if_neg (by unfold pp; omega),if_neg (by unfold pp; omega),if_neg (by unfold pp; omega),if_neg (by unfold pp; omega),if_pos rfl]
 have v0:d'.m (pp (d.n + 1) g 0) = y:=by rw [e _ (by unfold pp; omega),if_neg (by unfold pp; omega),if_neg (by unfold pp; omega),if_neg (by unfold pp; omega),if_neg (by unfold pp; omega),if_neg (by unfold pp; omega),if_neg (by unfold pp; omega),if_pos rfl]
 have v3:d'.m (pp d.n f 3) = x:=by rw [e _ (by unfold pp; omega),if_neg (by unfold pp; omega),if_neg (by unfold pp; omega),if_pos rfl]
 have w3:d'.m (pp (d.n + 1) g 3) = (d.m x):=by rw [e _ (by unfold pp; omega),if_neg (by unfold pp; omega),if_pos rfl]
 have old:∀ z,z < 4 * d.n → z ≠ x → z ≠ d.m x → z ≠ y → z ≠ d.m y → d'.m z = d.m z:=fun z hz z1 z2 z3 z4 => by rw [e z (by omega),if_neg z2,if_neg (by unfold pp; omega),if_neg (by unfold pp; omega),if_neg z1,if_neg z4,if_neg (by unfold pp; omega),if_neg (by unfold pp; omega),if_neg z3,lo z hz]
 exact (show In d d' f g from ⟨K.n,hv,m0,m1⟩).edges hw hx hy xy xm v2 v0 v3 w3 old
theorem Pd.out_self0 (hd:Valid d) (K:Pd d d' f g fx fy) (hv:Valid d') (hl:d'.mt = jl (jl (pkL0 d f g) (pp (d.n + 1) g 3) (pp (d.n + 1) g 0)) (pp d.n f 2) (pp d.n f 3)):Out d d' f g 0 1 := by
 have hw:=(Valid.iff.1 hd).1
 have hw':=(Valid.iff.1 hv).1
 obtain ⟨ln,l0,l1,lo⟩:=K.l0 hd
 have e:∀ z,z < 4 * (d.n + 2) → d'.m z = if z = (pp d.n f 3) then (pp d.n f 2) else if z = (pp d.n f 2) then (pp d.n f 3) else if z = (pp (d.n + 1) g 0) then (pp (d.n + 1) g 3) else if z = (pp (d.n + 1) g 3) then (pp (d.n + 1) g 0) else (pkL0 d f g).getD z 0:=fun z hz => by
  rw [← dg_m hw' (by rw [K.n]; exact hz),hl,jl_at (by simp only [jl_len,ln,pp]; omega) (by simp only [jl_len,ln,pp]; omega),jl_at (by simp only [jl_len,ln,pp]; omega) (by simp only [jl_len,ln,pp]; omega)]
 have m0:d'.m (pp d.n f 0) = (pp (d.n + 1) g 2):=by rw [e _ (by unfold pp; omega),if_neg (by unfold pp; omega),if_neg (by unfold pp; omega),if_neg (by unfold pp; omega),if_neg (by unfold pp; omega),l0]
 have m1:d'.m (pp d.n f 1) = (pp (d.n + 1) g 1):=by rw [e _ (by unfold pp; omega),if_neg (by unfold pp; omega),if_neg (by unfold pp; omega),if_neg (by unfold pp; omega),if_neg (by unfold pp; omega),l1]
 have v2:d'.m (pp d.n f 2) = (pp d.n f 3):=by rw [e _ (by unfold pp; omega),if_neg (by unfold pp; omega),if_pos rfl]
 have v0:d'.m (pp (d.n + 1) g 0) = (pp (d.n + 1) g 3):=by rw [e _ (by unfold pp; omega),if_neg (by unfold pp; omega),if_neg (by unfold pp; omega),if_pos rfl]
 have v3:d'.m (pp d.n f 3) = (pp d.n f 2):=by rw [e _ (by unfold pp; omega),if_pos rfl]
 have w3:d'.m (pp (d.n + 1) g 3) = (pp (d.n + 1) g 0):=by rw [e _ (by unfold pp; omega),if_neg (by unfold pp; omega),if_neg (by unfold pp; omega),if_neg (by unfold pp; omega),if_pos rfl]
 have old:∀ z,z < 4 * d.n → d'.m z = d.m z:=fun z hz => by rw [e z (by omega),if_neg (by unfold pp; omega),if_neg (by unfold pp; omega),if_neg (by unfold pp; omega),if_neg (by unfold pp; omega),lo z hz]
 exact (show In d d' f g from ⟨K.n,hv,m0,m1⟩).self0 v2 v0 old
theorem Pd.out_self1 (hd:Valid d) (K:Pd d d' f g fx fy) (hv:Valid d') {x:Nat} (hx:x < 4 * d.n) (hl:d'.mt = jl (jl (jl (pkL0 d f g) x (pp d.n f 3)) (pp (d.n + 1) g 3) (pp (d.n + 1) g 0)) (pp d.n f 2) (d.m x)):Out d d' f g 0 0 := by
 have hw:=(Valid.iff.1 hd).1
 have hw':=(Valid.iff.1 hv).1
 obtain ⟨ln,l0,l1,lo⟩:=K.l0 hd
 have hmx:=hw.lt x hx
 have hnex:=hw.ne x hx
 have e:∀ z,z < 4 * (d.n + 2) → d'.m z = if z = (d.m x) then (pp d.n f 2) else if z = (pp d.n f 2) then (d.m x) else if z = (pp (d.n + 1) g 0) then (pp (d.n + 1) g 3) else if z = (pp (d.n + 1) g 3) then (pp (d.n + 1) g 0) else if z = (pp d.n f 3) then x else if z = x then (pp d.n f 3) else (pkL0 d f g).getD z 0:=fun z hz => by
  rw [← dg_m hw' (by rw [K.n]; exact hz),hl,jl_at (by simp only [jl_len,ln,pp]; omega) (by simp only [jl_len,ln,pp]; omega),jl_at (by simp only [jl_len,ln,pp]; omega) (by simp only [jl_len,ln,pp]; omega),jl_at (by simp only [jl_len,ln,pp]; omega) (by simp only [jl_len,ln,pp]; omega)]
 have m0:d'.m (pp d.n f 0) = (pp (d.n + 1) g 2):=by rw [e _ (by unfold pp; omega),if_neg (by unfold pp; omega),if_neg (by unfold pp; omega),if_neg (by unfold pp; omega),if_neg (by unfold pp; omega),if_neg (by unfold pp; omega),if_neg (by unfold pp; omega),l0]
 have m1:d'.m (pp d.n f 1) = (pp (d.n + 1) g 1):=by rw [e _ (by unfold pp; omega),if_neg (by unfold pp; omega),if_neg (by unfold pp; omega),if_neg (by unfold pp; omega),if_neg (by unfold pp; omega),if_neg (by unfold pp; omega),if_neg (by unfold pp; omega),l1]
 have v2:d'.m (pp d.n f 2) = (d.m x):=by rw [e _ (by unfold pp; omega),if_neg (by unfold pp; omega),if_pos rfl]
 have v0:d'.m (pp (d.n + 1) g 0) = (pp (d.n + 1) g 3):=by rw [e _ (by unfold pp; omega),if_neg (by unfold pp; omega),if_neg (by unfold pp; omega),if_pos rfl]
 have v3:d'.m (pp d.n f 3) = x:=by rw [e _ (by unfold pp; omega),if_neg (by unfold pp; omega),if_neg (by unfold pp; omega),if_neg (by unfold pp; omega),if_neg (by unfold pp; omega),if_pos rfl]
 have w3:d'.m (pp (d.n + 1) g 3) = (pp (d.n + 1) g 0):=by rw [e _ (by unfold pp; omega),if_neg (by unfold pp; omega),if_neg (by unfold pp; omega),if_neg (by unfold pp; omega),if_pos rfl]
 have old:∀ z,z < 4 * d.n → z ≠ x → z ≠ d.m x → d'.m z = d.m z:=fun z hz z1 z2 => by rw [e z (by omega),if_neg z2,if_neg (by unfold pp; omega),if_neg (by unfold pp; omega),if_neg (by unfold pp; omega),if_neg (by unfold pp; omega),if_neg z1,lo z hz]
 exact (show In d d' f g from ⟨K.n,hv,m0,m1⟩).self1 hw hx v2 v0 v3 old
theorem Pd.out_self2 (hd:Valid d) (K:Pd d d' f g fx fy) (hv:Valid d') {x:Nat} (hx:x < 4 * d.n) (hl:d'.mt = jl (jl (jl (pkL0 d f g) x (pp (d.n + 1) g 0)) (pp d.n f 2) (pp d.n f 3)) (pp (d.n + 1) g 3) (d.m x)):Out d d' f g 0 0 := by
 have hw:=(Valid.iff.1 hd).1
 have hw':=(Valid.iff.1 hv).1
 obtain ⟨ln,l0,l1,lo⟩:=K.l0 hd
 have hmx:=hw.lt x hx
 have hnex:=hw.ne x hx
 have e:∀ z,z < 4 * (d.n + 2) → d'.m z = if z = (d.m x) then (pp (d.n + 1) g 3) else if z = (pp (d.n + 1) g 3) then (d.m x) else if z = (pp d.n f 3) then (pp d.n f 2) else if z = (pp d.n f 2) then (pp d.n f 3) else if z = (pp (d.n + 1) g 0) then x else if z = x then (pp (d.n + 1) g 0) else (pkL0 d f g).getD z 0:=fun z hz => by
  rw [← dg_m hw' (by rw [K.n]; exact hz),hl,jl_at (by simp only [jl_len,ln,pp]; omega) (by simp only [jl_len,ln,pp]; omega),jl_at (by simp only [jl_len,ln,pp]; omega) (by simp only [jl_len,ln,pp]; omega),jl_at (by simp only [jl_len,ln,pp]; omega) (by simp only [jl_len,ln,pp]; omega)]
 have m0:d'.m (pp d.n f 0) = (pp (d.n + 1) g 2):=by rw [e _ (by unfold pp; omega),if_neg (by unfold pp; omega),if_neg (by unfold pp; omega),if_neg (by unfold pp; omega),if_neg (by unfold pp; omega),if_neg (by unfold pp; omega),if_neg (by unfold pp; omega),l0]
 have m1:d'.m (pp d.n f 1) = (pp (d.n + 1) g 1):=by rw [e _ (by unfold pp; omega),if_neg (by unfold pp; omega),if_neg (by unfold pp; omega),if_neg (by unfold pp; omega),if_neg (by unfold pp; omega),if_neg (by unfold pp; omega),if_neg (by unfold pp; omega),l1]
 have v2:d'.m (pp d.n f 2) = (pp d.n f 3):=by rw [e _ (by unfold pp; omega),if_neg (by unfold pp; omega),if_neg (by unfold pp; omega),if_neg (by unfold pp; omega),if_pos rfl]
 have v0:d'.m (pp (d.n + 1) g 0) = x:=by rw [e _ (by unfold pp; omega),if_neg (by unfold pp; omega),if_neg (by unfold pp; omega),if_neg (by unfold pp; omega),if_neg (by unfold pp; omega),if_pos rfl]
 have v3:d'.m (pp d.n f 3) = (pp d.n f 2):=by rw [e _ (by unfold pp; omega),if_neg (by unfold pp; omega),if_neg (by unfold pp; omega),if_pos rfl]
 have w3:d'.m (pp (d.n + 1) g 3) = (d.m x):=by rw [e _ (by unfold pp; omega),if_neg (by unfold pp; omega),if_pos rfl]
 have old:∀ z,z < 4 * d.n → z ≠ x → z ≠ d.m x → d'.m z = d.m z:=fun z hz z1 z2 => by rw [e z (by omega),if_neg z2,if_neg (by unfold pp; omega),if_neg (by unfold pp; omega),if_neg (by unfold pp; omega),if_neg (by unfold pp; omega),if_neg z1,lo z hz]
 exact (show In d d' f g from ⟨K.n,hv,m0,m1⟩).self2 hw hx v2 v0 w3 old
end
end Go.Proofs.YtghdiolnonejaaaGreatDoor.Pl
end
section
namespace Go.Proofs.YtghdiolnonejaaaGreatDoor
open Go Go.RowKit
theorem apC_zero {d:Pl.Dg} {m:Mv} (h:apC d m = 0):(1 ≤ m.kind ∧ m.kind ≤ 5) ∧ inR d.n m ∧
 (if m.kind = 1 then curlableC d m.x else if m.kind = 2 then uncC d m.x.toNat else if m.kind = 3 then pkQ d m.x m.y m.sign else if m.kind = 4 then unpC d m.x.toNat m.y.toNat else sldC d m.x.toNat) = 0 := by
 unfold apC at h
 by_cases hk:m.kind < 1 ∨ 5 < m.kind
 ·rw [if_pos hk] at h; exact absurd h (by decide)
 ·rw [if_neg hk] at h
  by_cases hv:Pl.vb (inR d.n m) = false
  ·rw [if_pos hv] at h; exact absurd h (by decide)
  ·rw [if_neg hv] at h
   exact ⟨by omega,Pl.vb_iff.1 (by simpa using hv),h⟩
theorem crl_ok {d:Pl.Dg} (hd:Pl.Valid d) {x s:Int} {ov:Bool} (hx:-1 ≤ x ∧ x < 4 * d.n) (hs:s = 1 ∨ s = -1) (h:curlableC d x = 0):Pl.Valid (crl d x s ov) ∧ Pl.Same d (crl d x s ov) := by
 unfold curlableC at h
 obtain ⟨a1,a2,a3,a4,n1,n2,n3,n4,n5,n6⟩:=(kq d.n s ov hs).bd
 have hl:=hd.wf.len
 by_cases hx0:x < 0
 ·rw [if_pos hx0] at h
  have hlp:¬ d.lp = 0:=fun e => by rw [if_pos e] at h; exact absurd h (by decide)
  rw [if_neg hlp] at h
  have hn:d.n + 1 ≤ 64:=Nat.le_of_not_lt fun e => by unfold fullC at h; rw [if_pos e] at h; exact absurd h (by decide)
  have hv:=crl_loop hd (x := x) (ov := ov) hs hn hx0
  have hm:=crl_mloop hd.wf (x := x) (ov := ov) hs hx0
  refine ⟨hv,Pl.Kd.same0 hd hv (crl_kd hd.wf hs hn ?_ ?_) (fun h hh => ?_) ?_ ?_⟩
  ·rw [hm,if_neg (Ne.symm n1),if_neg n5,if_neg n4,if_pos rfl]
  ·rw [hm,if_neg (Ne.symm n2),if_neg n6,if_pos rfl]
  ·rw [hm,if_neg (by omega),if_neg (by omega),if_neg (by omega),if_neg (by omega),app_m (by omega)]; rfl
  ·rw [hm,if_pos rfl]
  ·show d.lp = (if x < 0 then d.lp - 1 else d.lp) + 1
   rw [if_pos hx0]; omega
 ·rw [if_neg hx0] at h
  obtain ⟨k,rfl⟩:=Int.eq_ofNat_of_zero_le (Int.not_lt.1 hx0)
  have hk:k < 4 * d.n:=by omega
  rw [Int.toNat_natCast] at h
  by_cases ho:Pl.out d k = true
  ·rw [if_pos ho] at h
   have hn:d.n + 1 ≤ 64:=Nat.le_of_not_lt fun e => by unfold fullC at h; rw [if_pos e] at h; exact absurd h (by decide)
   have hv:=crl_edge hd (ov := ov) hs hn hk ho
   have hy:=hd.wf.lt k hk
   have hne:=hd.wf.ne k hk
   have e:(crl d (k:Int) s ov).mt = jn (jn (jn (d.mt ++ List.replicate 4 0) (kO0 d.n s ov) (kI1 d.n s ov)) (kO1 d.n s ov) (d.m k)) k (kI0 d.n s ov):=by
    unfold crl; simp only [if_neg (show ¬ ((k:Int) < 0) by omega),Int.toNat_natCast]
   have hm:∀ z,(crl d (k:Int) s ov).m z = if z = kI0 d.n s ov then k else if z = k then kI0 d.n s ov else if z = d.m k then kO1 d.n s ov else if z = kO1 d.n s ov then d.m k else if z = kI1 d.n s ov then kO0 d.n s ov else if z = kO0 d.n s ov then kI1 d.n s ov else (d.mt ++ List.replicate 4 0).getD z z:=fun z => by
    show (crl d (k:Int) s ov).mt.getD z z = _
    rw [e,jn_m _ _ _ _ _ (by rw [jn_len,jn_len]; simp; omega) (by rw [jn_len,jn_len]; simp; omega),jn_m _ _ _ _ _ (by rw [jn_len]; simp; omega) (by rw [jn_len]; simp; omega),jn_m _ _ _ _ _ (by simp; omega) (by simp; omega)]
   refine ⟨hv,Pl.Kd.same hd hv (crl_kd hd.wf hs hn ?_ ?_) hk (fun h hh h1 h2 => ?_) ?_ ?_ ?_ ?_ ?_⟩
   ·rw [hm,if_neg (Ne.symm n1),if_neg (by omega),if_neg (by omega),if_neg n5,if_neg n4,if_pos rfl]
   ·rw [hm,if_neg (Ne.symm n2),if_neg (by omega),if_neg (by omega),if_neg n6,if_pos rfl]
   ·rw [hm,if_neg (by omega),if_neg h1,if_neg h2,if_neg (by omega),if_neg (by omega),if_neg (by omega),app_m (by omega)]; rfl
   ·rw [hm,if_neg (Ne.symm n3),if_neg (by omega),if_neg (by omega),if_pos rfl]
   ·rw [hm,if_neg (by omega),if_neg hne,if_pos rfl]
   ·rw [hm,if_neg (by omega),if_pos rfl]
   ·rw [hm,if_pos rfl]
   ·show d.lp = if (k:Int) < 0 then d.lp - 1 else d.lp
    rw [if_neg (by omega)]
  ·rw [if_neg ho] at h; exact absurd h (by decide)
theorem kk_div (d:Pl.Dg) (c:Nat):kk d c / 4 = c := by unfold kk; split <;> (try split) <;> omega
theorem jn_jl (l:List Nat) (a b:Nat):jn l a b = Pl.jl l a b := rfl
theorem unD_ok {d:Pl.Dg} (hd:Pl.Valid d) {c:Nat} (hc:c < d.n) (h:uncC d c = 0):Pl.Valid (unD d c) ∧ Pl.Same d (unD d c) := by
 have hw:=hd.wf
 have ho:=kk_lt hc
 have hod:=kk_div d c
 unfold uncC at h
 by_cases hk:d.m (kk d c) / 4 = c
 ·rw [if_pos hk] at h
  have hk2:d.m (kk d c) / 4 = kk d c / 4:=by rw [hod,hk]
  unfold unD unM
  by_cases hn:d.m (kA d c) = kB d c
  ·rw [if_pos hn] at h
   have hl:d.lp + 1 ≤ 64:=Nat.le_of_not_lt fun e => by rw [if_pos e] at h; exact absurd h (by decide)
   rw [if_pos hn,if_pos hn]
   have v:=Pl.kink_valid0 hd ho hk2 hn hl
   have s:=Pl.kink_same0 hd ho hk2 hn hl rfl
   rw [hod] at v s
   exact ⟨v,s⟩
  ·rw [if_neg hn,if_neg hn]
   have hA:=kA_lt hc
   have hB:=kB_lt hw hc
   have nAB:d.m (kA d c) ≠ d.m (kB d c):=fun e => hw.ne _ ho (Pl.tn_inj (hw.bij.inj _ _ hA hB e).symm)
   have hmt:∀ z,z < 4 * d.n → (jn d.mt (d.m (kA d c)) (d.m (kB d c))).getD z 0 = if z = d.m (kA d c) then d.m (kB d c) else if z = d.m (kB d c) then d.m (kA d c) else d.m z:=fun z hz => by
    rw [jn_jl,Pl.jl_at (by rw [hw.len]; exact hw.lt _ hA) (by rw [hw.len]; exact hw.lt _ hB),Pl.dg_m hw hz]
    by_cases z1:z = d.m (kB d c)
    ·rw [if_pos z1,if_neg (fun e => nAB (e.symm.trans z1)),if_pos z1]
    ·rw [if_neg z1,if_neg z1]
   have v:=Pl.kink_valid hd ho hk2 hn hw.lp hmt
   have s:=Pl.kink_same hd ho hk2 hn hw.lp rfl hmt
   rw [hod] at v s
   exact ⟨v,s⟩
 ·rw [if_neg hk] at h; exact absurd h (by decide)
theorem lens_lens {d:Pl.Dg} (hd:Pl.Wf d) {x y i:Nat} (hxy:x < y) (hy:y < d.n) (h:lensI d x y = some i) :
 Pl.Lens d (lnH x y i) (d.m (lnH x y i)) ∧ ((x = lnH x y i / 4 ∧ y = d.m (lnH x y i) / 4) ∨ (x = d.m (lnH x y i) / 4 ∧ y = lnH x y i / 4)) ∧ Pl.nx d (lnH x y i) = Pl.tn (d.m (lnH x y i)) 3 ∧ d.m (Pl.tn (d.m (lnH x y i)) 3) = Pl.tn (lnH x y i) 1 := by
 obtain ⟨h1,h2,h3⟩:=lens_is h
 have hi:=lens_lt h
 have hl:lnH x y i < 4 * d.n:=by unfold lnH; split <;> omega
 have hu:=hd.lt _ hl
 have e1:d.m (Pl.tn (d.m (lnH x y i)) 3) = Pl.tn (lnH x y i) 1:=by
  unfold Pl.nx at h2
  unfold Pl.tn at h2 ⊢
  omega
 have e2:Pl.nx d (lnH x y i) / 4 = d.m (lnH x y i) / 4:=by unfold Pl.nx; rw [Pl.tn_div]
 have e3:lnH x y i / 4 = if i < 4 then x else y:=by unfold lnH; split <;> omega
 rw [e2] at h1
 unfold lnO at h1
 have hp:(x = lnH x y i / 4 ∧ y = d.m (lnH x y i) / 4) ∨ (x = d.m (lnH x y i) / 4 ∧ y = lnH x y i / 4):=by
  by_cases h4:i < 4
  ·rw [if_pos h4] at h1 e3; exact .inl ⟨e3.symm,h1.symm⟩
  ·rw [if_neg h4] at h1 e3; exact .inr ⟨h1.symm,e3.symm⟩
 refine ⟨⟨hl,rfl,by rw [← e1,hd.inv _ (Pl.tn_lt hu)],fun e => ?_⟩,hp,rfl,e1⟩
 rcases hp with ⟨a,b⟩ | ⟨a,b⟩ <;> omega
theorem unp_at {d:Pl.Dg} (hd:Pl.Valid d) {h u:Nat} (L:Pl.Lens d h u) (l:Ln) (e2:l.p2 = Pl.tn h 2) (e3:l.p3 = Pl.tn h 3) (f0:l.q0 = Pl.tn u 2) (f3:l.q3 = Pl.tn u 1) :
 unpL d l = d.lp + (if d.m (Pl.tn h 2) = Pl.tn u 2 then 1 else 0) + (if Pl.lA d h u (Pl.tn h 3) = Pl.tn u 1 then 1 else 0) ∧
 ∀ z,z < 4 * d.n → z / 4 ≠ h / 4 → z / 4 ≠ u / 4 → (unpB d l).getD z 0 = Pl.lB d h u z := by
 have hw:=hd.wf
 have hh:=L.hh
 have hu:=L.hu hw
 have A:=L.la hd
 have E:=L.ne
 have hA:Pl.tn h 2 < 4 * d.n:=Pl.tn_lt hh
 have hB:Pl.tn u 2 < 4 * d.n:=Pl.tn_lt hu
 have h3:Pl.tn h 3 < 4 * d.n:=Pl.tn_lt hh
 have u1:Pl.tn u 1 < 4 * d.n:=Pl.tn_lt hu
 have al:∀ z,z < 4 * d.n → z ≠ Pl.tn h 2 → z ≠ Pl.tn u 2 → (unpA d l).getD z 0 = Pl.lA d h u z:=fun z hz z1 z2 => by
  unfold unpA
  rw [e2,f0,Pl.dg_m hw hA,Pl.dg_m hw hB]
  by_cases c:d.m (Pl.tn h 2) = Pl.tn u 2
  ·rw [if_pos c,Pl.Lens.lA_c c,Pl.dg_m hw hz]
  ·rw [if_neg c,jn_jl,Pl.jl_at (by rw [hw.len]; exact hw.lt _ hA) (by rw [hw.len]; exact hw.lt _ hB),Pl.dg_m hw hz]
   obtain ⟨b1,b2,b3⟩:=L.lA_e hw c
   by_cases z4:z = d.m (Pl.tn u 2)
   ·rw [if_pos z4,z4,b2]
   ·rw [if_neg z4]
    by_cases z3:z = d.m (Pl.tn h 2)
    ·rw [if_pos z3,z3,b1]
    ·rw [if_neg z3,b3 z z1 z2 z3 z4]
 have alen:(unpA d l).length = 4 * d.n:=by unfold unpA; split <;> simp [jn_len,hw.len]
 have a3:=al (Pl.tn h 3) h3 (Pl.tn_ne (by omega)) (Pl.pm E)
 have a1:=al (Pl.tn u 1) u1 (Ne.symm (Pl.pm E)) (Pl.tn_ne (by omega))
 constructor
 ·unfold unpL
  rw [e2,f0,e3,f3,Pl.dg_m hw hA,a3]
 ·intro z hz n1 n2
  have z0:∀ k,z ≠ Pl.tn h k:=fun k e => n1 (by rw [e,Pl.tn_div])
  have z1:∀ k,z ≠ Pl.tn u k:=fun k e => n2 (by rw [e,Pl.tn_div])
  unfold unpB
  rw [e3,f3,a3,a1]
  by_cases c:Pl.lA d h u (Pl.tn h 3) = Pl.tn u 1
  ·rw [if_pos c,Pl.Lens.lB_c c,al z hz (z0 2) (z1 2)]
  ·rw [if_neg c,jn_jl,Pl.jl_at (by rw [alen]; exact A.hm.ab.maps _ h3) (by rw [alen]; exact A.hm.ab.maps _ u1),al z hz (z0 2) (z1 2)]
   obtain ⟨b1,b2,b3⟩:=L.lB_e hd c
   by_cases z4:z = Pl.lA d h u (Pl.tn u 1)
   ·rw [if_pos z4,z4,b2]
   ·rw [if_neg z4]
    by_cases z3:z = Pl.lA d h u (Pl.tn h 3)
    ·rw [if_pos z3,z3,b1]
    ·rw [if_neg z3,b3 z (z0 3) (z1 1) z3 z4]
theorem unpD_ok {d:Pl.Dg} (hd:Pl.Valid d) {x y:Nat} (hxy:x < y) (hy:y < d.n) (h:unpC d x y = 0):Pl.Valid (unpD d x y) ∧ Pl.Same d (unpD d x y) := by
 unfold unpC at h
 unfold unpD
 cases hL:lensI d x y with
 | none => rw [hL] at h; exact absurd (show (6:Int) = 0 from h) (by decide)
 | some i =>
   rw [hL] at h
   have h':(if 64 < unpL d (lensOf d (lnH x y i)) then (5:Int) else 0) = 0:=h
   have hl:unpL d (lensOf d (lnH x y i)) ≤ 64:=Nat.le_of_not_lt fun e => by rw [if_pos e] at h'; exact absurd h' (by decide)
   obtain ⟨L,hp,e1,e2⟩:=lens_lens hd.wf hxy hy hL
   obtain ⟨g1,g2⟩:=unp_at hd L (lensOf d (lnH x y i)) rfl (by show Pl.tn (d.m (Pl.nx d (lnH x y i))) 2 = _; rw [e1,e2]; exact Pl.tn12 _) rfl (by show Pl.tn (Pl.nx d (lnH x y i)) 2 = _; rw [e1]; exact Pl.tn32 _)
   have hmt:∀ z,Pl.stay d [x,y] z → (unpB d (lensOf d (lnH x y i))).getD z 0 = Pl.lB d (lnH x y i) (d.m (lnH x y i)) z:=fun z hz => by
    have hz2:¬ (z / 4 = x ∨ z / 4 = y):=by have := hz.2; simpa using this
    refine g2 z hz.1 ?_ ?_ <;> rcases hp with ⟨a,b⟩ | ⟨a,b⟩ <;> omega
   exact ⟨L.valid hd hxy hp hl hmt,L.same hd hxy hp hl g1 hmt⟩
theorem sldD_ok {d:Pl.Dg} (hd:Pl.Valid d) {h:Nat} (hh:h < 4 * d.n) (hi:is3 d h):Pl.Valid (sldD d h) ∧ Pl.Same d (sldD d h) :=
 have hw:=(Pl.Valid.iff.1 hd).1
 ⟨sld_valid hd hh hi,(tr_of hh hi).same hd rfl rfl (sF_len hw h 3) (sld_m hw hh hi)⟩
end Go.Proofs.YtghdiolnonejaaaGreatDoor
end
section
namespace Go.Proofs.YtghdiolnonejaaaGreatDoor
open Go Go.RowKit
theorem fwd_nat (d:Pl.Dg) (x:Nat):fwd d (x:Int) = Pl.out d x := by
 unfold fwd
 rw [if_neg (by omega),if_pos (by omega),Int.toNat_natCast]
theorem plc_pp (n s t:Nat) (h:s ≤ 4):plc n s t = Pl.pp n (4 - s) t := by unfold plc Pl.pp; omega
theorem unS_le (d:Pl.Dg) (x y:Int) (ov:Bool):un0 d x y ov ≤ 4 ∧ un1 d x y ov ≤ 4 := by
 unfold un0 un1 lnS th0 th1
 cases ov <;> cases fwd d x <;> cases fwd d y <;> decide
def pkF (d:Pl.Dg) (x y:Int) (ov:Bool):Nat := 4 - un0 d x y ov
def pkG (d:Pl.Dg) (x y:Int) (ov:Bool):Nat := 4 - un1 d x y ov
theorem pP_pp (d:Pl.Dg) (x y:Int) (ov:Bool) (t:Nat):pP d x y ov t = Pl.pp d.n (pkF d x y ov) t := plc_pp _ _ _ (unS_le d x y ov).1
theorem pQ_pp (d:Pl.Dg) (x y:Int) (ov:Bool) (t:Nat):pQ d x y ov t = Pl.pp (d.n + 1) (pkG d x y ov) t := plc_pp _ _ _ (unS_le d x y ov).2
theorem pk0_l0 (d:Pl.Dg) (x y:Int) (ov:Bool):pk0 d x y ov = Pl.pkL0 d (pkF d x y ov) (pkG d x y ov) := by
 unfold pk0 Pl.pkL0
 rw [pP_pp,pQ_pp,pQ_pp,pP_pp]
 rfl
theorem app_s0 (l:List Int) (a b:Int) (c:Nat) (h:c < l.length):(l ++ [a,b]).getD c 0 = l.getD c 0 := by
 rw [List.getD_eq_getElem?_getD,List.getD_eq_getElem?_getD,List.getElem?_append_left h]
theorem app_s1 (l:List Int) (a b:Int):(l ++ [a,b]).getD l.length 0 = a := by
 rw [List.getD_eq_getElem?_getD,List.getElem?_append_right (Nat.le_refl _)]; simp
theorem app_s2 (l:List Int) (a b:Int):(l ++ [a,b]).getD (l.length + 1) 0 = b := by
 rw [List.getD_eq_getElem?_getD,List.getElem?_append_right (by omega)]; simp
theorem out_pp (d:Pl.Dg) (n f t:Nat):Pl.out d (Pl.pp n f t) = ((t + f) % 4 == 2 || ((t + f) % 4 == 1 && d.s n == 1) || ((t + f) % 4 == 3 && d.s n == -1)) := by
 unfold Pl.out
 rw [show Pl.pp n f t % 4 = (t + f) % 4 by unfold Pl.pp; omega,show Pl.pp n f t / 4 = n by unfold Pl.pp; omega]
theorem pk_pd {d:Pl.Dg} (hd:Pl.Valid d) (x y sg:Int) (ov:Bool) (hn:d.n + 2 ≤ 64) (hl:(pkL d x y sg).toNat ≤ 64):Pl.Pd d (pkD d x y sg ov) (pkF d x y ov) (pkG d x y ov) (fwd d x) (fwd d y) := by
 have s0:(pkD d x y sg ov).s d.n = sgn2 (un0 d x y ov) (ov0 d x y ov):=app_s1 _ _ _
 have s1:(pkD d x y sg ov).s (d.n + 1) = sgn2 (un1 d x y ov) (ov1 d x y ov):=app_s2 _ _ _
 refine ⟨hn,by unfold Pl.Dg.n pkD; simp,hl,fun c hc => app_s0 _ _ _ _ hc,by rw [s0]; unfold sgn2; split <;> simp,by rw [s1]; unfold sgn2; split <;> simp,?_,?_,?_,?_,?_,?_,?_,?_⟩
 all_goals
  rw [out_pp]
  first
   | rw [s0]
   | rw [s1]
  try unfold pkF
  try unfold pkG
  try unfold sgn2
  try unfold un0
  try unfold un1
  try unfold ov0
  try unfold ov1
  try unfold lnS
  try unfold th0
  try unfold th1
  try unfold plc
  cases ov <;> cases fwd d x <;> cases fwd d y <;> decide
theorem pk_ok {d:Pl.Dg} (hd:Pl.Valid d) {x y sg:Int} {ov:Bool} (hin:inR d.n ⟨3,x,y,sg,ov⟩) (h:pkQ d x y sg = 0):Pl.Valid (pkD d x y sg ov) ∧ Pl.Same d (pkD d x y sg ov) ∧
 ∃ c1 c2,Pl.Out d (pkD d x y sg ov) (pkF d x y ov) (pkG d x y ov) c1 c2 ∧ d.lp = (pkD d x y sg ov).lp + c1 + c2 := by
 have hw:=hd.wf
 have hlp:=hw.lp
 unfold inR at hin
 simp only at hin
 rw [if_neg (by decide),if_neg (by decide),if_neg (by decide),if_neg (by decide)] at hin
 obtain ⟨x1,x2,y1,y2,hs⟩:=hin
 unfold pkQ at h
 have hneed:¬ d.lp < needP x y sg:=fun e => by rw [if_pos e] at h; exact absurd h (by decide)
 rw [if_neg hneed] at h
 have hnear:¬ Pl.vb (0 ≤ x ∧ 0 ≤ y ∧ x ≠ y ∧ ¬ nearP d x.toNat y.toNat) = true:=fun e => by rw [if_pos e] at h; exact absurd h (by decide)
 rw [if_neg hnear] at h
 have hn:d.n + 2 ≤ 64:=Nat.le_of_not_lt fun e => by rw [if_pos e] at h; exact absurd h (by decide)
 rw [Pl.vb_iff] at hnear
 unfold needP at hneed
 have mt:(pkD d x y sg ov).mt = pkM d x y sg ov:=rfl
 have lpe:(pkD d x y sg ov).lp = (pkL d x y sg).toNat:=rfl
 by_cases hs0:sg = 0
 ·subst hs0
  have eM:pkM d x y 0 ov = leadM d (leadM d (pk0 d x y ov) y (pQ d x y ov 0) (pP d x y ov 2)) x (pP d x y ov 3) (pQ d x y ov 3):=by
   unfold pkM; rw [if_neg (by simp),if_neg (by decide),if_neg (by decide)]
  rw [eM,pk0_l0,pQ_pp,pP_pp,pP_pp,pQ_pp] at mt
  by_cases hx:x < 0 <;> by_cases hy:y < 0
  ·rw [if_pos hx,if_pos ⟨hy,rfl⟩] at hneed
   have eL:(pkL d x y 0).toNat = d.lp - 2:=by unfold pkL; simp [hx,hy]; try omega
   have K:=pk_pd hd x y 0 ov hn (by rw [eL]; omega)
   have mt':=mt
   unfold leadM at mt'
   rw [if_pos hx,if_pos hy] at mt'
   have Y:=K.yloop hd
   have v:=Y.1.xloop hd K mt'
   have O:=K.out_loops hd v mt'
   exact ⟨v,O.same hd v (by rw [lpe,eL]; omega),1,1,O,by rw [lpe,eL]; omega⟩
  ·obtain ⟨k,rfl⟩:=Int.eq_ofNat_of_zero_le (Int.not_lt.1 hy)
   have hk:k < 4 * d.n:=by omega
   rw [if_pos hx,if_neg (fun e => hy e.1)] at hneed
   have eL:(pkL d x (k:Int) 0).toNat = d.lp - 1:=by unfold pkL; simp [hx,hy]; try omega
   have K:=pk_pd hd x (k:Int) 0 ov hn (by rw [eL]; omega)
   have mt':=mt
   unfold leadM at mt'
   rw [if_pos hx,if_neg hy,Int.toNat_natCast] at mt'
   obtain ⟨b,Y,_⟩:=K.yedge hd hk (fwd_nat d k).symm
   have v:=Y.xloop hd K mt'
   have O:=K.out_yedge hd v hk mt'
   exact ⟨v,O.same hd v (by rw [lpe,eL]; omega),0,1,O,by rw [lpe,eL]; omega⟩
  ·obtain ⟨k,rfl⟩:=Int.eq_ofNat_of_zero_le (Int.not_lt.1 hx)
   have hk:k < 4 * d.n:=by omega
   rw [if_neg hx,if_pos ⟨hy,rfl⟩] at hneed
   have eL:(pkL d (k:Int) y 0).toNat = d.lp - 1:=by unfold pkL; simp [hx,hy]; try omega
   have K:=pk_pd hd (k:Int) y 0 ov hn (by rw [eL]; omega)
   have mt':=mt
   unfold leadM at mt'
   rw [if_neg hx,if_pos hy,Int.toNat_natCast] at mt'
   have Y:=K.yloop hd
   have v:=Y.1.xedge0 hd K Y.2 hk (fwd_nat d k).symm mt'
   have O:=K.out_xedge hd v hk mt'
   exact ⟨v,O.same hd v (by rw [lpe,eL]; omega),1,0,O,by rw [lpe,eL]; omega⟩
  ·obtain ⟨k,rfl⟩:=Int.eq_ofNat_of_zero_le (Int.not_lt.1 hx)
   obtain ⟨j,rfl⟩:=Int.eq_ofNat_of_zero_le (Int.not_lt.1 hy)
   have hk:k < 4 * d.n:=by omega
   have hj:j < 4 * d.n:=by omega
   have hne:(k:Int) ≠ (j:Int):=fun e => by rw [if_neg (fun n => n e),if_neg hx] at hs; omega
   have hkj:k ≠ j:=fun e => hne (by rw [e])
   have near:nearP d k j:=Classical.byContradiction fun e => hnear ⟨by omega,by omega,hne,by rw [Int.toNat_natCast,Int.toNat_natCast]; exact e⟩
   have eL:(pkL d (k:Int) (j:Int) 0).toNat = d.lp:=by unfold pkL; simp [hx,hy]
   have K:=pk_pd hd (k:Int) (j:Int) 0 ov hn (by rw [eL]; omega)
   have mt':=mt
   unfold leadM at mt'
   rw [if_neg hx,if_neg hy,Int.toNat_natCast,Int.toNat_natCast] at mt'
   have v:=K.edges hd hk hj (fwd_nat d k).symm (fwd_nat d j).symm hkj near.2 near.1 mt'
   have O:=K.out_edges hd v hk hj hkj near.2 mt'
   exact ⟨v,O.same hd v (by rw [lpe,eL]; omega),0,0,O,by rw [lpe,eL]; omega⟩
 ·have hxy:x = y:=Classical.byContradiction fun e => hs0 (by rw [if_pos e] at hs; exact hs)
  subst hxy
  rw [if_neg (by simp)] at hs
  by_cases hx:x < 0
  ·rw [if_pos hx] at hs
   have eM:pkM d x x sg ov = jn (jn (pk0 d x x ov) (pQ d x x ov 3) (pQ d x x ov 0)) (pP d x x ov 2) (pP d x x ov 3):=by unfold pkM; rw [if_pos ⟨hs0,hx⟩]
   rw [eM,pk0_l0,pQ_pp,pQ_pp,pP_pp,pP_pp] at mt
   rw [if_pos hx,if_neg (fun e => hs0 e.2)] at hneed
   have eL:(pkL d x x sg).toNat = d.lp - 1:=by unfold pkL; rw [if_pos ⟨hs0,hx⟩]; omega
   have K:=pk_pd hd x x sg ov hn (by rw [eL]; omega)
   have v:=K.self0 hd mt
   have O:=K.out_self0 hd v mt
   exact ⟨v,O.same hd v (by rw [lpe,eL]; omega),0,1,O,by rw [lpe,eL]; omega⟩
  ·rw [if_neg hx] at hs
   obtain ⟨k,rfl⟩:=Int.eq_ofNat_of_zero_le (Int.not_lt.1 hx)
   have hk:k < 4 * d.n:=by omega
   have eL:(pkL d (k:Int) (k:Int) sg).toNat = d.lp:=by unfold pkL; rw [if_neg (fun e => hx e.2),if_neg hs0]; omega
   have K:=pk_pd hd (k:Int) (k:Int) sg ov hn (by rw [eL]; omega)
   rcases hs with rfl | rfl
   ·have eM : pkM d (k : Int) (k : Int) 1 ov = jn (jn (jn (pk0 d (k : Int) (k : Int) ov) k (pP d (k : Int) (k : Int) ov 3)) (pQ d (k : Int) (k : Int) ov 3) (pQ d (k : Int) (k : Int) ov 0)) (pP d (k : Int) (k : Int) ov 2) (d.m k) := by
     unfold pkM; rw [if_neg (fun e => hx e.2),if_pos rfl,Int.toNat_natCast]
    rw [eM,pk0_l0,pQ_pp,pQ_pp,pP_pp,pP_pp] at mt
    have v:=K.self1 hd hk (fwd_nat d k).symm mt
    have O:=K.out_self1 hd v hk mt
    exact ⟨v,O.same hd v (by rw [lpe,eL]; omega),0,0,O,by rw [lpe,eL]; omega⟩
   ·have eM : pkM d (k : Int) (k : Int) (-1) ov = jn (jn (jn (pk0 d (k : Int) (k : Int) ov) k (pQ d (k : Int) (k : Int) ov 0)) (pP d (k : Int) (k : Int) ov 2) (pP d (k : Int) (k : Int) ov 3)) (pQ d (k : Int) (k : Int) ov 3) (d.m k) := by
     unfold pkM; rw [if_neg (fun e => hx e.2),if_neg (by decide),if_pos rfl,Int.toNat_natCast]
    rw [eM,pk0_l0,pQ_pp,pQ_pp,pP_pp,pP_pp] at mt
    have v:=K.self2 hd hk (fwd_nat d k).symm mt
    have O:=K.out_self2 hd v hk mt
    exact ⟨v,O.same hd v (by rw [lpe,eL]; omega),0,0,O,by rw [lpe,eL]; omega⟩
theorem ap_ok {d:Pl.Dg} (hd:Pl.Valid d) {m:Mv} (h:apC d m = 0):Pl.Valid (apD d m) ∧ Pl.Same d (apD d m) := by
 obtain ⟨hk,hin,hc⟩:=apC_zero h
 obtain ⟨k,x,y,s,o⟩:=m
 simp only at hk hc
 have hk5:k = 1 ∨ k = 2 ∨ k = 3 ∨ k = 4 ∨ k = 5:=by omega
 rcases hk5 with rfl | rfl | rfl | rfl | rfl
 ·have hb:(-1 ≤ x ∧ x < 4 * d.n) ∧ (s = 1 ∨ s = -1):=by unfold inR at hin; simp at hin; exact ⟨⟨hin.1,hin.2.1⟩,hin.2.2.2⟩
  exact crl_ok hd hb.1 hb.2 hc
 ·obtain ⟨c,rfl⟩:=Int.eq_ofNat_of_zero_le (show 0 ≤ x by unfold inR at hin; simp at hin; omega)
  have hcn:c < d.n:=by unfold inR at hin; simp at hin; omega
  exact unD_ok hd hcn hc
 ·have:=pk_ok hd hin hc
  exact ⟨this.1,this.2.1⟩
 ·obtain ⟨a,rfl⟩:=Int.eq_ofNat_of_zero_le (show 0 ≤ x by unfold inR at hin; simp at hin; omega)
  obtain ⟨b,rfl⟩:=Int.eq_ofNat_of_zero_le (show 0 ≤ y by unfold inR at hin; simp at hin; omega)
  have hab:a < b ∧ b < d.n:=by unfold inR at hin; simp at hin; omega
  exact unpD_ok hd hab.1 hab.2 hc
 ·obtain ⟨c,rfl⟩:=Int.eq_ofNat_of_zero_le (show 0 ≤ x by unfold inR at hin; simp at hin; omega)
  have hcn:c < 4 * d.n:=by unfold inR at hin; simp at hin; omega
  have hc':sldC d c = 0:=hc
  have ht:isT d c:=Classical.byContradiction fun e => by unfold sldC at hc'; rw [if_neg e] at hc'; exact absurd hc' (by decide)
  exact sldD_ok hd hcn ht.1
end Go.Proofs.YtghdiolnonejaaaGreatDoor
end
