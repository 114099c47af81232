/-
 The texts Xr, Xt, Xk, Xl, Xu, Xv, Xx, Xw, Xy, Za, Zb, Dn, Dm, Pcs, Va, Num, Ya, Tb, Ua, Vb, Xq, Ld.
-/
import Derived.Test.YtghdiolnonejaaaDoorK08
import Derived.Laws.Slices
set_option linter.unusedVariables false
set_option linter.unusedSimpArgs false
section
namespace Go.Proofs.YtghdiolnonejaaaDoor
open Go Go.RowKit
attribute [local go_sem ↓] Go.wp_at_zero Go.wp_at_succ
structure MG (w:World) (T:TypeId) (gd gl:Nat) (dv:List Value) (v:Value) (ms:List Mv) (W:World):Prop where
 d:Row W gd T dv
 l:Row W gl 27 [v]
 o:W.ownsRow (gl + 1) 33 5 v ms.length (mvs ms)
 bel:Below w.heap.size w W
 lo:w.heap.size ≤ gd
 lt:gd < gl
section
variable {w W W' W2:World} {T:TypeId} {gd gl:Nat} {dv:List Value} {v v':Value} {ms:List Mv} {m:Mv}
theorem MG.below (h:MG w T gd gl dv v ms W) (hb:Below W.heap.size W W'):MG w T gd gl dv v ms W' :=
 ⟨h.d.below hb,h.l.below hb,own_below h.o hb,h.bel.trans (hb.mono h.bel.size),h.lo,h.lt⟩
theorem MG.alloc (h:MG w T gd gl dv v ms W) (o:Obj):MG w T gd gl dv v ms (W.alloc o) := h.below ((Below.refl _ _).alloc (Nat.le_refl _) o)
theorem MG.big (h:MG w T gd gl dv v ms W):gl < W.heap.size := h.l.lt
theorem MG.far (h:MG w T gd gl dv v ms W) {g:Nat} (hg:g ≤ gl):some g ≠ v.ownBlock := fun e => by have := (h.o.lt g e.symm).1; omega
theorem MG.push (h:MG w T gd gl dv v ms W) (own:W2.ownsRow (gl + 1) 33 5 v' (ms.length + 1) (mvs ms ++ m.cells)) (gr:W.grownBy W2 v.ownBlock):MG w T gd gl dv v' (ms ++ [m]) (W2.setCell ⟨gl,0,none⟩ v') := by
 have a:=h.lo
 have b:=h.lt
 refine ⟨(h.d.grown gr (h.far (by omega))).other (by show gd ≠ gl; omega) _,(h.l.grown gr (h.far (Nat.le_refl _))).set 0 v',?_,?_,h.lo,h.lt⟩
 ·rw [mvs_app,List.length_append]
  exact ownsRow_setCell_below own (by show gl < gl + 1; omega) _
 ·exact (h.bel.grown gr h.bel.size (fun k hk => by have := (h.o.lt k hk).1; omega)).setCell (by show _ ≤ gl; omega) _
end
def one (c:Int) (m:Mv):List Mv := if c = 0 then [m] else []
theorem one_yes {c:Int} {m:Mv} (h:c = 0):one c m = [m] := by unfold one; rw [if_pos h]
theorem one_no {c:Int} {m:Mv} (h:¬ c = 0):one c m = [] := by unfold one; rw [if_neg h]
theorem one_len (c:Int) (m:Mv):(one c m).length ≤ 1 := by unfold one; split <;> simp
def MovesIn (b:Nat) (w:World) (v:Value) (ms:List Mv):Prop := ∃ base,b ≤ base ∧ base ≤ w.heap.size ∧ w.ownsRow base 33 5 v ms.length (mvs ms)
theorem MovesIn.at {b:Nat} {w:World} {v:Value} {ms:List Mv} (h:MovesIn b w v ms):MovesAt w v ms := let ⟨base,_,_,h⟩:=h; ⟨base,h⟩
def unL (d:Pl.Dg):Nat → List Mv
 | 0 => []
 | k + 1 => unL d k ++ one (uncC d k) ⟨2,k,0,0,false⟩
theorem unL_len (d:Pl.Dg):∀ k,(unL d k).length ≤ k
 | 0 => Nat.le_refl _
 | k + 1 => by
   have a:=unL_len d k
   have b:=one_len (uncC d k) ⟨2,k,0,0,false⟩
   show (unL d k ++ one (uncC d k) ⟨2,k,0,0,false⟩).length ≤ _
   rw [List.length_append]
   omega
set_option maxRecDepth 100000 in
set_option maxHeartbeats 4000000 in
theorem unTry_any (d:Pl.Dg) (hd:Pl.Wf d) (A B:Option Addr) (cp cq m gd gl c:Nat) (v:Value) (ms:List Mv) (w0 w:World) (hm:m = 4 * d.n) (hg:DgAt w A B d) (hc:c < d.n) (hms:ms.length ≤ 1000000)
 (hp:MG w0 24 gd gl [.slice A d.n cp,.slice B m cq,.int .i64 (d.lp:Int)] v ms w) :
 Calls Tryd.prog 34 #[.agg #[.int .i64 2,.int .i64 (c:Int),.int .i64 0,.int .i64 0,.bool false],.pointer (some ⟨gd,0,none⟩),.pointer (some ⟨gl,0,none⟩)] w fun e w' => e = .returned (.tuple #[]) ∧ ∃ v',MG w0 24 gd gl [.slice A d.n cp,.slice B m cq,.int .i64 (d.lp:Int)] v' (ms ++ one (uncC d c) ⟨2,c,0,0,false⟩) w' := by
 have HM:=hide hm
 have HG:=hide hg
 have hn:=hd.few
 obtain ⟨cc,hcc⟩:∃ c',c' = uncC d c := ⟨_,rfl⟩
 have HC:=hide hcc
 have hb0:Below w.heap.size w (w.alloc (.cells #[.int .i64 2,.int .i64 (c:Int),.int .i64 0,.int .i64 0,.bool false] 33)):=(Below.refl _ _).alloc (Nat.le_refl _) _
 have HB0:=hide hb0
 have P1:=hide (hp.below hb0)
 have M1:=hide (row_at (W := w) (g := w.heap.size) (t := 33) (vs := [.int .i64 2,.int .i64 (c:Int),.int .i64 0,.int .i64 0,.bool false]) rfl)
 have hgl:gl < w.heap.size:=hp.big
 have hgd:gd < gl:=hp.lt
 clear hp hb0 hg hm hcc
 obtain ⟨d0,d1,d2,d3⟩:=box3 P1.out.d
 obtain ⟨e0,e1,e2,e3,e4,e5⟩:=box5 M1.out
 go_enter Tryd.func34,Tryd.ntmps34
 go_wp2_with fail
 refine (kink_any d hd A B cp cq m c _ HM.out (HG.out.keep HB0.out) hc).mono ?_
 rintro e w1 ⟨he,hb1⟩
 have P2:=hide (P1.out.below hb1)
 have M2:=hide (M1.out.below hb1)
 have HB1:=hide (HB0.out.trans (hb1.mono HB0.out.size))
 have hs2:w.heap.size < w1.heap.size:=M2.out.lt
 have hs3:gl < w1.heap.size:=by omega
 have HE:=hide he
 clear hb1 d0 d1 d2 d3 e0 e1 e2 e3 e4 e5 HB0 P1 M1 he
 obtain ⟨d0,d1,d2,d3⟩:=box3 P2.out.d
 obtain ⟨e0,e1,e2,e3,e4,e5⟩:=box5 M2.out
 by_cases hI:isK d c
 ·have HE2:=HE.out
  rw [Pl.vb_true hI] at HE2
  unfold kinkE at HE2
  obtain ⟨z1,hz1⟩:∃ z:Nat,z = Pl.tn (kk d c) 2 := ⟨_,rfl⟩
  obtain ⟨z2,hz2⟩:∃ z:Nat,z = Pl.tn (d.m (kk d c)) 2 := ⟨_,rfl⟩
  rw [← hz1,← hz2] at HE2
  simp only [if_true] at HE2
  subst HE2
  clear HE hI hz1 hz2
  go_wp2_with fail
  refine (uncurl_m d hd A B cp cq m c 2 0 0 false _ HM.out (HG.out.keep HB1.out) hc).mono ?_
  rintro e w3 ⟨r1,r2,hb3⟩
  have P3:=hide (P2.out.below hb3)
  have M3:=hide (M2.out.below hb3)
  have hs4:w.heap.size < w3.heap.size:=M3.out.lt
  have hs5:gl < w3.heap.size:=by omega
  rw [← HC.out] at r1 r2
  have R1:=hide r1
  have R2:=hide r2
  clear r1 r2 hb3 d0 d1 d2 d3 e0 e1 e2 e3 e4 e5 HB1 P2 M2
  obtain ⟨e0,e1,e2,e3,e4,e5⟩:=box5 M3.out
  have hs6:gl < w3.heap.size + 1:=by omega
  have hs7:gl < w3.heap.size + 1 + 1:=by omega
  have hs8:w.heap.size < w3.heap.size + 1:=by omega
  have hs9:w.heap.size < w3.heap.size + 1 + 1:=by omega
  by_cases h0:cc = 0
  ·obtain ⟨A9,B9,c8,c9,k9,x9,y9,s9,o9,hmv,rfl,hT⟩:=ResOk.split (R2.out h0)
   have E:=hide (show one cc ⟨2,c,0,0,false⟩ = [⟨2,c,0,0,false⟩] from one_yes h0)
   clear h0 R1 R2 hmv hT
   obtain ⟨N9,hN9⟩:∃ n,n = (unD d c).n := ⟨_,rfl⟩
   obtain ⟨N4,hN4⟩:∃ n,n = 4 * (unD d c).n := ⟨_,rfl⟩
   obtain ⟨L9,hL9⟩:∃ n,n = (unD d c).lp := ⟨_,rfl⟩
   rw [← hN4,← hN9,← hL9]
   clear hN9 hN4 hL9
   obtain ⟨q0,q1⟩:=box1 P3.out.l
   obtain ⟨n0,hn0,hz0,hz1,hz2⟩:=info_parts moveInfo
   have PA:=hide ((P3.out.alloc (.cells #[.slice A9 N9 c8,.slice B9 N4 c9,.int .i64 (L9:Int)] 24)).alloc (.cells #[.int .i64 k9,.int .i64 x9,.int .i64 y9,.int .i64 s9,.bool o9] 33))
   have A0:=hide (PA.out.alloc (.cells (Mv.cells ⟨2,c,0,0,false⟩).toArray 33)).o
   have A1:∀ u ∈ Mv.cells ⟨2,c,0,0,false⟩,u.oneCell' = true:=by simp [Mv.cells,Value.oneCell']
   have A2:ms.length + 1 ≤ maxLen:=by unfold maxLen; omega
   have A3:(ms.length + 1) * 40 ≤ 140737488355328:=by omega
   have A6:=hide (five_news ((w3.alloc (.cells #[.slice A9 N9 c8,.slice B9 N4 c9,.int .i64 (L9:Int)] 24)).alloc (.cells #[.int .i64 k9,.int .i64 x9,.int .i64 y9,.int .i64 s9,.bool o9] 33)) (w3.heap.size + 1 + 1) (by simp) ⟨2,c,0,0,false⟩)
   go_wp2_with (at_builtin; refine wpList_append_lies _ (by rfl) _ _ 27 (by rfl) (gl + 1) 33 n0 (.agg #[.int .i64 0,.int .i64 0,.int .i64 0,.int .i64 0,.bool false]) 5 40 Tryd.underlying27 hn0 hz0 hz1 hz2 rfl (by omega) v ms.length (mvs ms) (by rfl) A0.out ⟨w3.heap.size + 1 + 1,0,none⟩ 1 1 (Mv.cells ⟨2,c,0,0,false⟩) (by rfl) (by rfl) A6.out A1 (by omega) A2 A3 (by simp; omega) (w3.heap.size + 1 + 1 + 1) (by simp) ?_; intro g2 c2 w2 own2 grow2 at2 lt2; obtain ⟨q2,q3⟩:=box1 ((PA.out.alloc (.cells (Mv.cells ⟨2,c,0,0,false⟩).toArray 33)).l.grown grow2 ((PA.out.alloc (.cells (Mv.cells ⟨2,c,0,0,false⟩).toArray 33)).far (Nat.le_refl _))); have OWN2 := hide own2; have GR2 := hide grow2; clear own2 grow2 at2)
   refine bodyPost_end (results_none rfl _ _ _) rfl ⟨rfl,.slice (some ⟨g2,0,none⟩) (ms.length + 1) c2,?_⟩
   rw [← HC.out,E.out]
   exact (PA.out.alloc _).push OWN2.out GR2.out
  ·have E:=hide (show one cc ⟨2,c,0,0,false⟩ = [] from one_no h0)
   have hE:=ResErr.split (R1.out h0)
   subst hE
   have t1:(cc == 0) = false:=by rw [beq_eq_false_iff_ne]; exact h0
   clear h0 R1 R2
   go_wp2
   refine bodyPost_end (results_none rfl _ _ _) rfl ⟨rfl,v,?_⟩
   rw [← HC.out,E.out,List.append_nil]
   exact (P3.out.alloc _).alloc _
 ·have HE2:=HE.out
  rw [Pl.vb_false hI] at HE2
  have E:=hide (show one cc ⟨2,c,0,0,false⟩ = [] from one_no (by
   rw [HC.out]
   unfold uncC
   rw [if_neg (show ¬ d.m (kk d c) / 4 = c from hI)]
   decide))
  unfold kinkE at HE2
  simp only [Bool.false_eq_true,if_false] at HE2
  subst HE2
  clear HE hI
  go_wp2
  refine bodyPost_ret (results_none rfl _ _ _) rfl ⟨rfl,v,?_⟩
  rw [← HC.out,E.out,List.append_nil]
  exact P2.out
set_option maxRecDepth 100000 in
set_option maxHeartbeats 4000000 in
theorem uncurls_any (d:Pl.Dg) (hd:Pl.Wf d) (A B:Option Addr) (cp cq m:Nat) (w:World) (hm:m = 4 * d.n) (hg:DgAt w A B d) :
 Calls Tryd.prog 19 #[.agg #[.slice A d.n cp,.slice B m cq,.int .i64 d.lp]] w fun e w' => ∃ v,e = .returned v ∧ MovesIn w.heap.size w' v (unL d d.n) ∧ Below w.heap.size w w' := by
 have HM:=hide hm
 have HG:=hide hg
 have hn:=hd.few
 have P0:=hide (show MG w 24 w.heap.size (w.heap.size + 1) [.slice A d.n cp,.slice B m cq,.int .i64 (d.lp:Int)] (.slice none 0 0) [] ((w.alloc (.cells #[.slice A d.n cp,.slice B m cq,.int .i64 (d.lp:Int)] 24)).alloc (.cells #[.slice none 0 0] 27)) from
  ⟨(row_at (vs := [_,_,_]) rfl).alloc _,row_at (vs := [_]) (by simp),⟨rfl,.inl ⟨rfl,rfl⟩⟩,((Below.refl _ _).alloc (Nat.le_refl _) _).alloc (by simp) _,Nat.le_refl _,by omega⟩)
 clear hg hm
 go_enter Tryd.func19,Tryd.ntmps19
 go_wp2
 go_loopg [5,10] d.n (fun g s5 s10 wx => ∃ (k:Nat) (v:Value),k + g = d.n ∧ s10 = .int .i64 (k:Int) ∧ MG w 24 w.heap.size (w.heap.size + 1) [.slice A d.n cp,.slice B m cq,.int .i64 (d.lp:Int)] v (unL d k) wx)
 case atStart => exact ⟨0,_,by omega,rfl,P0.out⟩
 case round =>
  clear P0
  obtain ⟨k,v,hkg,rfl,hp⟩:=hrel
  have HKG:=hide hkg
  have PK:=hide hp
  have hlen:=unL_len d k
  clear hp
  by_cases hk:k < d.n
  ·have hki:(k:Int) < (d.n:Int):=by omega
   clear hkg
   go_wp2_with fail
   refine (unTry_any d hd A B cp cq m w.heap.size (w.heap.size + 1) k v (unL d k) w wr HM.out (HG.out.keep PK.out.bel) hk (by omega) PK.out).mono ?_
   rintro e w1 ⟨rfl,v',hp1⟩
   have P1:=hide hp1
   clear hp1
   go_wp2
   go_roundg (gk - 1)
   case measure => have := HKG.out; omega
   case rel => exact ⟨k + 1,v',by have := HKG.out; omega,by go_num,P1.out⟩
  ·have hki:¬ ((k:Int) < (d.n:Int)):=by omega
   have e:k = d.n:=by omega
   have EL:=hide (show unL d k = unL d d.n by rw [e])
   obtain ⟨q0,q1⟩:=box1 PK.out.l
   clear hkg e
   go_wp2
   go_ret
   exact ⟨v,rfl,⟨w.heap.size + 1 + 1,by omega,PK.out.big,by rw [← EL.out]; exact PK.out.o⟩,PK.out.bel⟩
end Go.Proofs.YtghdiolnonejaaaDoor
end
section
namespace Go.Proofs.YtghdiolnonejaaaDoor
open Go Go.RowKit
attribute [local go_sem ↓] Go.wp_at_zero Go.wp_at_succ
def upY (d:Pl.Dg) (x:Nat):Nat → List Mv
 | 0 => []
 | k + 1 => upY d x k ++ (if x < k then one (unpC d x k) ⟨4,x,k,0,false⟩ else [])
def upX (d:Pl.Dg):Nat → List Mv
 | 0 => []
 | k + 1 => upX d k ++ upY d k d.n
theorem upY_none (d:Pl.Dg) (x:Nat):∀ k,k ≤ x + 1 → upY d x k = []
 | 0,_ => rfl
 | k + 1, h => by
   show upY d x k ++ (if x < k then one (unpC d x k) ⟨4,x,k,0,false⟩ else []) = []
   rw [upY_none d x k (by omega),if_neg (by omega)]
   rfl
theorem upY_len (d:Pl.Dg) (x:Nat):∀ k,(upY d x k).length ≤ k
 | 0 => Nat.le_refl _
 | k + 1 => by
   have a:=upY_len d x k
   have b:=one_len (unpC d x k) ⟨4,x,k,0,false⟩
   show (upY d x k ++ (if x < k then one (unpC d x k) ⟨4,x,k,0,false⟩ else [])).length ≤ _
   rw [List.length_append]
   split
   ·omega
   ·simp; omega
theorem upX_len {d:Pl.Dg} (hn:d.n ≤ 64):∀ k,(upX d k).length ≤ 64 * k
 | 0 => Nat.le_refl _
 | k + 1 => by
   have a:=upX_len hn k
   have b:=upY_len d k d.n
   show (upX d k ++ upY d k d.n).length ≤ _
   rw [List.length_append]
   omega
set_option maxRecDepth 100000 in
set_option maxHeartbeats 4000000 in
theorem upTry_any (d:Pl.Dg) (hd:Pl.Wf d) (A B:Option Addr) (cp cq m gd gl x y:Nat) (v:Value) (ms:List Mv) (w0 w:World) (hm:m = 4 * d.n) (hg:DgAt w A B d) (hxy:x < y) (hy:y < d.n) (hms:ms.length ≤ 1000000)
 (hp:MG w0 24 gd gl [.slice A d.n cp,.slice B m cq,.int .i64 (d.lp:Int)] v ms w) :
 Calls Tryd.prog 36 #[.agg #[.int .i64 4,.int .i64 (x:Int),.int .i64 (y:Int),.int .i64 0,.bool false],.pointer (some ⟨gd,0,none⟩),.pointer (some ⟨gl,0,none⟩)] w fun e w' => e = .returned (.tuple #[]) ∧ ∃ v',MG w0 24 gd gl [.slice A d.n cp,.slice B m cq,.int .i64 (d.lp:Int)] v' (ms ++ one (unpC d x y) ⟨4,x,y,0,false⟩) w' := by
 have HM:=hide hm
 have HG:=hide hg
 have hn:=hd.few
 obtain ⟨cc,hcc⟩:∃ c',c' = unpC d x y := ⟨_,rfl⟩
 have HC:=hide hcc
 have hb0:Below w.heap.size w (w.alloc (.cells #[.int .i64 4,.int .i64 (x:Int),.int .i64 (y:Int),.int .i64 0,.bool false] 33)):=(Below.refl _ _).alloc (Nat.le_refl _) _
 have HB0:=hide hb0
 have P1:=hide (hp.below hb0)
 have M1:=hide (row_at (W := w) (g := w.heap.size) (t := 33) (vs := [.int .i64 4,.int .i64 (x:Int),.int .i64 (y:Int),.int .i64 0,.bool false]) rfl)
 have hgl:gl < w.heap.size:=hp.big
 have hgd:gd < gl:=hp.lt
 clear hp hb0 hg hm hcc
 obtain ⟨d0,d1,d2,d3⟩:=box3 P1.out.d
 obtain ⟨e0,e1,e2,e3,e4,e5⟩:=box5 M1.out
 go_enter Tryd.func36,Tryd.ntmps36
 go_wp2_with fail
 refine (find_any d hd A B cp cq m x y _ HM.out (HG.out.keep HB0.out) (by omega) hy).mono ?_
 rintro e w1 ⟨he,hb1⟩
 have P2:=hide (P1.out.below hb1)
 have M2:=hide (M1.out.below hb1)
 have HB1:=hide (HB0.out.trans (hb1.mono HB0.out.size))
 have hs2:w.heap.size < w1.heap.size:=M2.out.lt
 have hs3:gl < w1.heap.size:=by omega
 have hs2':w.heap.size < w1.heap.size + 1:=by omega
 have hs1d:gd < w1.heap.size:=by omega
 have hs3':gl < w1.heap.size + 1:=by omega
 have HE:=hide he
 clear hb1 d0 d1 d2 d3 e0 e1 e2 e3 e4 e5 HB0 P1 M1 he
 obtain ⟨d0,d1,d2,d3⟩:=box3 P2.out.d
 obtain ⟨e0,e1,e2,e3,e4,e5⟩:=box5 M2.out
 obtain ⟨L,hL⟩:∃ L,L = lensI d x y := ⟨_,rfl⟩
 have HL:=hide hL
 have HE2:=HE.out
 rw [← hL] at HE2
 clear hL HE
 cases L with
 | some i =>
   unfold findE lensV at HE2
   dsimp only at HE2
   obtain ⟨l0,hl0⟩:∃ z:Nat,z = lnH x y i := ⟨_,rfl⟩
   rw [← hl0] at HE2
   obtain ⟨l1,hl1⟩:∃ z:Nat,z = d.m (Pl.nx d l0) := ⟨_,rfl⟩
   rw [← hl1] at HE2
   obtain ⟨l2,hl2⟩:∃ z:Nat,z = Pl.tn l0 2 := ⟨_,rfl⟩
   rw [← hl2] at HE2
   obtain ⟨l3,hl3⟩:∃ z:Nat,z = Pl.tn l1 2 := ⟨_,rfl⟩
   rw [← hl3] at HE2
   obtain ⟨l4,hl4⟩:∃ z:Nat,z = Pl.tn (d.m l0) 2 := ⟨_,rfl⟩
   rw [← hl4] at HE2
   obtain ⟨l5,hl5⟩:∃ z:Nat,z = Pl.nx d l0 := ⟨_,rfl⟩
   rw [← hl5] at HE2
   obtain ⟨l6,hl6⟩:∃ z:Nat,z = d.m l0 := ⟨_,rfl⟩
   rw [← hl6] at HE2
   obtain ⟨l7,hl7⟩:∃ z:Nat,z = Pl.tn l5 2 := ⟨_,rfl⟩
   rw [← hl7] at HE2
   clear hl0 hl1 hl2 hl3 hl4 hl5 hl6 hl7
   subst HE2
   have PL:=hide (P2.out.alloc (.cells #[.int .i64 (l0:Int),.int .i64 (l1:Int),.int .i64 (l2:Int),.int .i64 (l3:Int),.int .i64 (l4:Int),.int .i64 (l5:Int),.int .i64 (l6:Int),.int .i64 (l7:Int)] 65))
   have ML0:=hide (M2.out.alloc (.cells #[.int .i64 (l0:Int),.int .i64 (l1:Int),.int .i64 (l2:Int),.int .i64 (l3:Int),.int .i64 (l4:Int),.int .i64 (l5:Int),.int .i64 (l6:Int),.int .i64 (l7:Int)] 65))
   have HBL:=hide (HB1.out.alloc HB1.out.size (.cells #[.int .i64 (l0:Int),.int .i64 (l1:Int),.int .i64 (l2:Int),.int .i64 (l3:Int),.int .i64 (l4:Int),.int .i64 (l5:Int),.int .i64 (l6:Int),.int .i64 (l7:Int)] 65))
   go_wp2_with fail
   refine (unpoke_m d hd A B cp cq m x y 4 0 false _ HM.out (HG.out.keep HBL.out) hxy hy).mono ?_
   rintro e w3 ⟨r1,r2,hb3⟩
   have P3:=hide (PL.out.below hb3)
   have M3:=hide (ML0.out.below hb3)
   have hs4:w.heap.size < w3.heap.size:=M3.out.lt
   have hs5:gl < w3.heap.size:=by omega
   rw [← HC.out] at r1 r2
   have R1:=hide r1
   have R2:=hide r2
   clear r1 r2 hb3 d0 d1 d2 d3 e0 e1 e2 e3 e4 e5 HB1 P2 M2 PL ML0 HBL
   obtain ⟨e0,e1,e2,e3,e4,e5⟩:=box5 M3.out
   have hs6:gl < w3.heap.size + 1:=by omega
   have hs7:gl < w3.heap.size + 1 + 1:=by omega
   have hs8:w.heap.size < w3.heap.size + 1:=by omega
   have hs9:w.heap.size < w3.heap.size + 1 + 1:=by omega
   by_cases h0:cc = 0
   ·obtain ⟨A9,B9,c8,c9,k9,x9,y9,s9,o9,hmv,rfl,hT⟩:=ResOk.split (R2.out h0)
    have E:=hide (show one cc ⟨4,x,y,0,false⟩ = [⟨4,x,y,0,false⟩] from one_yes h0)
    clear h0 R1 R2 hmv hT
    obtain ⟨N9,hN9⟩:∃ n,n = (unpD d x y).n := ⟨_,rfl⟩
    obtain ⟨N4,hN4⟩:∃ n,n = 4 * (unpD d x y).n := ⟨_,rfl⟩
    obtain ⟨L9,hL9⟩:∃ n,n = (unpD d x y).lp := ⟨_,rfl⟩
    rw [← hN4,← hN9,← hL9]
    clear hN9 hN4 hL9
    obtain ⟨q0,q1⟩:=box1 P3.out.l
    obtain ⟨n0,hn0,hz0,hz1,hz2⟩:=info_parts moveInfo
    have PA:=hide ((P3.out.alloc (.cells #[.slice A9 N9 c8,.slice B9 N4 c9,.int .i64 (L9:Int)] 24)).alloc (.cells #[.int .i64 k9,.int .i64 x9,.int .i64 y9,.int .i64 s9,.bool o9] 33))
    have A0:=hide (PA.out.alloc (.cells (Mv.cells ⟨4,x,y,0,false⟩).toArray 33)).o
    have A1:∀ u ∈ Mv.cells ⟨4,x,y,0,false⟩,u.oneCell' = true:=by simp [Mv.cells,Value.oneCell']
    have A2:ms.length + 1 ≤ maxLen:=by unfold maxLen; omega
    have A3:(ms.length + 1) * 40 ≤ 140737488355328:=by omega
    have A6:=hide (five_news ((w3.alloc (.cells #[.slice A9 N9 c8,.slice B9 N4 c9,.int .i64 (L9:Int)] 24)).alloc (.cells #[.int .i64 k9,.int .i64 x9,.int .i64 y9,.int .i64 s9,.bool o9] 33)) (w3.heap.size + 1 + 1) (by simp) ⟨4,x,y,0,false⟩)
    go_wp2_with (at_builtin; refine wpList_append_lies _ (by rfl) _ _ 27 (by rfl) (gl + 1) 33 n0 (.agg #[.int .i64 0,.int .i64 0,.int .i64 0,.int .i64 0,.bool false]) 5 40 Tryd.underlying27 hn0 hz0 hz1 hz2 rfl (by omega) v ms.length (mvs ms) (by rfl) A0.out ⟨w3.heap.size + 1 + 1,0,none⟩ 1 1 (Mv.cells ⟨4,x,y,0,false⟩) (by rfl) (by rfl) A6.out A1 (by omega) A2 A3 (by simp; omega) (w3.heap.size + 1 + 1 + 1) (by simp) ?_; intro g2 c2 w2 own2 grow2 at2 lt2; obtain ⟨q2,q3⟩:=box1 ((PA.out.alloc (.cells (Mv.cells ⟨4,x,y,0,false⟩).toArray 33)).l.grown grow2 ((PA.out.alloc (.cells (Mv.cells ⟨4,x,y,0,false⟩).toArray 33)).far (Nat.le_refl _))); have OWN2 := hide own2; have GR2 := hide grow2; clear own2 grow2 at2)
    refine bodyPost_end (results_none rfl _ _ _) rfl ⟨rfl,.slice (some ⟨g2,0,none⟩) (ms.length + 1) c2,?_⟩
    rw [← HC.out,E.out]
    exact (PA.out.alloc _).push OWN2.out GR2.out
   ·have E:=hide (show one cc ⟨4,x,y,0,false⟩ = [] from one_no h0)
    have hE:=ResErr.split (R1.out h0)
    subst hE
    have t1:(cc == 0) = false:=by rw [beq_eq_false_iff_ne]; exact h0
    clear h0 R1 R2
    go_wp2
    refine bodyPost_end (results_none rfl _ _ _) rfl ⟨rfl,v,?_⟩
    rw [← HC.out,E.out,List.append_nil]
    exact (P3.out.alloc _).alloc _
 | none =>
   unfold findE noLens at HE2
   dsimp only at HE2
   have E:=hide (show one cc ⟨4,x,y,0,false⟩ = [] from one_no (by
    rw [HC.out]
    unfold unpC
    rw [← HL.out]
    intro h
    cases h))
   subst HE2
   go_wp2
   refine bodyPost_ret (results_none rfl _ _ _) rfl ⟨rfl,v,?_⟩
   rw [← HC.out,E.out,List.append_nil]
   exact P2.out.alloc _
set_option maxRecDepth 100000 in
set_option maxHeartbeats 4000000 in
theorem unpokes_any (d:Pl.Dg) (hd:Pl.Wf d) (A B:Option Addr) (cp cq m:Nat) (w:World) (hm:m = 4 * d.n) (hg:DgAt w A B d) :
 Calls Tryd.prog 20 #[.agg #[.slice A d.n cp,.slice B m cq,.int .i64 d.lp]] w fun e w' => ∃ v,e = .returned v ∧ MovesIn w.heap.size w' v (upX d d.n) ∧ Below w.heap.size w w' := by
 have HM:=hide hm
 have HG:=hide hg
 have hn:=hd.few
 have P0:=hide (show MG w 24 w.heap.size (w.heap.size + 1) [.slice A d.n cp,.slice B m cq,.int .i64 (d.lp:Int)] (.slice none 0 0) [] ((w.alloc (.cells #[.slice A d.n cp,.slice B m cq,.int .i64 (d.lp:Int)] 24)).alloc (.cells #[.slice none 0 0] 27)) from
  ⟨(row_at (vs := [_,_,_]) rfl).alloc _,row_at (vs := [_]) (by simp),⟨rfl,.inl ⟨rfl,rfl⟩⟩,((Below.refl _ _).alloc (Nat.le_refl _) _).alloc (by simp) _,Nat.le_refl _,by omega⟩)
 clear hg hm
 go_enter Tryd.func20,Tryd.ntmps20
 go_wp2
 go_loopg [5,6,11] d.n (fun g s5 s6 s11 wx => ∃ (k:Nat) (v:Value),k + g = d.n ∧ s11 = .int .i64 (k:Int) ∧ MG w 24 w.heap.size (w.heap.size + 1) [.slice A d.n cp,.slice B m cq,.int .i64 (d.lp:Int)] v (upX d k) wx)
 case atStart => exact ⟨0,_,by omega,rfl,P0.out⟩
 case round =>
  clear P0
  obtain ⟨k,v,hkg,rfl,hp⟩:=hrel
  obtain ⟨go,rfl⟩:∃ go,go = gk := ⟨_,rfl⟩
  have HKG:=hide hkg
  have PK:=hide hp
  have hlen:=upX_len hn k
  clear hp
  by_cases hk:k < d.n
  ·have hki:(k:Int) < (d.n:Int):=by omega
   clear hkg
   go_wp2
   go_loopg [6] (d.n - (k + 1)) (fun g s6 wx => ∃ (j:Nat) (u:Value),j + g = d.n ∧ k + 1 ≤ j ∧ s6 = .int .i64 (j:Int) ∧ MG w 24 w.heap.size (w.heap.size + 1) [.slice A d.n cp,.slice B m cq,.int .i64 (d.lp:Int)] u (upX d k ++ upY d k j) wx)
   case atStart => exact ⟨k + 1,v,by omega,by omega,by go_num,by rw [upY_none d k (k + 1) (Nat.le_refl _),List.append_nil]; exact PK.out⟩
   case round =>
    clear PK
    obtain ⟨j,u,hjg,hkj,rfl,hq⟩:=hrel
    have HJG:=hide hjg
    have QJ:=hide hq
    have hlen2:=upY_len d k j
    obtain ⟨d0,d1,d2,d3⟩:=box3 hq.d
    clear hq hjg
    by_cases hj:j < d.n
    ·have hji:(j:Int) < (d.n:Int):=by omega
     go_wp2_with fail
     refine (upTry_any d hd A B cp cq m _ _ k j u _ w _ HM.out (HG.out.keep QJ.out.bel) (by omega) hj (by simp only [List.length_append]; omega) QJ.out).mono ?_
     rintro e w1 ⟨rfl,u1,hp1⟩
     have Q1:=hide hp1
     clear hp1
     go_wp2
     go_roundg (gk - 1)
     case measure => have := HJG.out; omega
     case rel =>
      have e2:upY d k (j + 1) = upY d k j ++ one (unpC d k j) ⟨4,k,j,0,false⟩:=by
       show upY d k j ++ (if k < j then one (unpC d k j) ⟨4,k,j,0,false⟩ else []) = _
       rw [if_pos (by omega)]
      exact ⟨j + 1,u1,by have := HJG.out; omega,by omega,by go_num,by rw [e2]; simpa using Q1.out⟩
    ·have hji:¬ ((j:Int) < (d.n:Int)):=by omega
     have E2:=hide (show upX d (k + 1) = upX d k ++ upY d k j by
      have:j = d.n:=by have := HJG.out; omega
      rw [this]; rfl)
     go_wp2
     go_roundg (go - 1)
     case measure => have := HKG.out; omega
     case rel => exact ⟨k + 1,u,by have := HKG.out; omega,by go_num,by rw [E2.out]; exact QJ.out⟩
  ·have hki:¬ ((k:Int) < (d.n:Int)):=by omega
   have e:k = d.n:=by omega
   have EL:=hide (show upX d k = upX d d.n by rw [e])
   obtain ⟨q0,q1⟩:=box1 PK.out.l
   clear hkg e
   go_wp2
   go_ret
   exact ⟨v,rfl,⟨w.heap.size + 1 + 1,by omega,PK.out.big,by rw [← EL.out]; exact PK.out.o⟩,PK.out.bel⟩
end Go.Proofs.YtghdiolnonejaaaDoor
end
section
namespace Go.Proofs.YtghdiolnonejaaaDoor
open Go Go.RowKit
attribute [local go_sem ↓] Go.wp_at_zero Go.wp_at_succ
set_option maxRecDepth 100000 in
set_option maxHeartbeats 4000000 in
theorem apply_5 (d:Pl.Dg) (hd:Pl.Valid d) (A B:Option Addr) (cp cq m:Nat) (x:Nat) (y s:Int) (o:Bool) (w:World) (hm:m = 4 * d.n) (hg:DgAt w A B d) (hin:inR d.n ⟨5,(x:Int),y,s,o⟩) :
 Calls Tryd.prog 11 #[.agg #[.slice A d.n cp,.slice B m cq,.int .i64 d.lp],(Mv.mk 5 (x:Int) y s o).v] w (ResC (sldC d x) (sldD d x) (sldI d x) w) := by
 have hn:=hd.wf.few
 have hlp:=hd.wf.lp
 have HM:=hide hm
 have HG:=hide hg
 have hm2:m ≤ 256:=by omega
 clear hm hg
 have PB0:=hide (boxes4 w (.slice A d.n cp) (.slice B m cq) (.int .i64 (d.lp:Int)) (.int .i64 5) (.int .i64 (x:Int)) (.int .i64 y) (.int .i64 s) (.bool o))
 unfold W4 at PB0
 obtain ⟨x0,x1,x2,x3,b0,s0⟩:=PB0.out
 have X0:=hide x0
 have X1:=hide x1
 have X2:=hide x2
 have X3:=hide x3
 have B0:=hide b0
 have S0:=hide s0
 clear x0 x1 x2 x3 b0 s0 PB0
 unfold Mv.v
 go_enter Tryd.func11,Tryd.ntmps11
 go_wp2_with fail
 refine (valid_yes d hd A B cp cq m _ HM.out (HG.out.keep B0.out)).mono ?_
 rintro e w1 ⟨rfl,hb1⟩
 have Y0:=hide (X0.out.below hb1)
 have Y1:=hide (X1.out.below hb1)
 have Y2:=hide (X2.out.below hb1)
 have Y3:=hide (X3.out.below hb1)
 have B1:=hide (B0.out.trans (hb1.mono B0.out.size))
 have hsz1:w.heap.size + 4 ≤ w1.heap.size:=by have := hb1.size; have := S0.out; omega
 clear X0 X1 X2 X3 B0 S0 hb1
 obtain ⟨d0,d1,d2,d3⟩:=box3 Y0.out
 obtain ⟨m0,m1,m2,m3,m4,m5⟩:=box5 Y1.out
 go_wp2_with fail
 refine (inRange_5 d.n (x:Int) y s o w1 (by omega)).mono ?_
 rintro e w2 ⟨rfl,hb2⟩
 rw [Pl.vb_true hin]
 have hsz:w.heap.size + 4 ≤ w2.heap.size:=by have := hb2.size; omega
 have AB2:=hide (show AB w w2.heap.size (w2.heap.size + 1) [.slice A d.n cp,.slice B m cq,.int .i64 (d.lp:Int)] [.int .i64 5,.int .i64 (x:Int),.int .i64 y,.int .i64 s,.bool o] ((w2.alloc (.cells #[.slice none 0 0,.slice none 0 0,.int .i64 0] 24)).alloc (.cells #[.int .i64 0,.int .i64 0,.int .i64 0,.int .i64 0,.bool false] 33)) from
  ⟨((Y0.out.below hb2).alloc _).alloc _,((Y1.out.below hb2).alloc _).alloc _,⟨_,((Y2.out.below hb2).alloc _).alloc _,rfl⟩,⟨_,((Y3.out.below hb2).alloc _).alloc _,rfl⟩,⟨_,(row_at (vs := [_,_,_]) rfl).alloc _,rfl⟩,⟨_,row_at (vs := [_,_,_,_,_]) (by simp),rfl⟩,((B1.out.trans (hb2.mono B1.out.size)).alloc (B1.out.trans (hb2.mono B1.out.size)).size _).alloc ((B1.out.trans (hb2.mono B1.out.size)).alloc (B1.out.trans (hb2.mono B1.out.size)).size _).size _,by omega,by omega,by omega⟩)
 obtain ⟨d0',d1',d2',d3'⟩:=box3 (Y0.out.below hb2)
 obtain ⟨m0',m1',m2',m3',m4',m5'⟩:=box5 (Y1.out.below hb2)
 clear d0 d1 d2 d3 m0 m1 m2 m3 m4 m5 Y0 Y1 Y2 Y3 B1 hb2 hsz1
 have z1:w.heap.size < w2.heap.size:=by omega
 have z2:w.heap.size + 1 < w2.heap.size:=by omega
 have hx:x < 4 * d.n:=by have := hin; unfold inR at this; simp at this; omega
 have HG2:=hide (HG.out.keep AB2.out.bel)
 go_wp2_with fail
 obtain ⟨gr,hgr⟩:∃ g,g = w2.heap.size := ⟨_,rfl⟩
 obtain ⟨gi,hgi⟩:∃ g,g = w2.heap.size + 1 := ⟨_,rfl⟩
 rw [← hgi,← hgr] at AB2
 rw [← hgi,← hgr]
 clear hgr hgi
 refine (slide_any d hd.wf A B cp cq m x 5 y s o _ HM.out HG2.out hx).mono ?_
 intro e w3 hres
 have AB3:=hide (AB2.out.below hres.2.2)
 obtain ⟨cc,hcc⟩:∃ c,c = sldC d x := ⟨_,rfl⟩
 obtain ⟨rr,hrr⟩:∃ r,r = sldD d x := ⟨_,rfl⟩
 obtain ⟨mm,hmm⟩:∃ r,r = sldI d x := ⟨_,rfl⟩
 unfold SldPost at hres
 rw [← hcc,← hrr,← hmm] at hres
 have HCC:=hide hcc
 have HRR:=hide hrr
 have HMM:=hide hmm
 clear hcc hrr hmm d0' d1' d2' d3' m0' m1' m2' m3' m4' m5' AB2 HG2
 by_cases hc:cc = 0
 ·obtain ⟨A9,B9,c8,c9,k9,x9,y9,s9,o9,hmv,rfl,hT⟩:=ResOk.split (hres.2.1 hc)
  have HMV:=hide hmv
  have HC:=hide hc
  clear hmv hc
  have AD3:=hide (show AD w gr gi _ _ A9 B9 rr w3 from ⟨AB3.out,hT⟩)
  clear hT
  obtain ⟨N9,hN9⟩:∃ n,n = rr.n := ⟨_,rfl⟩
  obtain ⟨L9,hL9⟩:∃ n,n = rr.lp := ⟨_,rfl⟩
  rw [← hN9,← hL9]
  have HN9:=hide hN9
  have HL9:=hide hL9
  clear hN9 hL9
  obtain ⟨_,r3,l3⟩:=AB3.out.r
  obtain ⟨_,r4,l4⟩:=AB3.out.i
  obtain ⟨_,r5,l5⟩:=AB3.out.rd
  obtain ⟨_,r6,l6⟩:=AB3.out.rm
  obtain ⟨e0,e1,e2,e3⟩:=cells3 r3 l3
  obtain ⟨f0,f1,f2,f3,f4,f5⟩:=cells5 r4 l4
  obtain ⟨g0,g1,g2,g3⟩:=cells3 r5 l5
  obtain ⟨h0,h1,h2,h3,h4,h5⟩:=cells5 r6 l6
  have y1:gr ≠ w.heap.size + 1 + 1:=by have := AB3.out.lr; omega
  have y2:gr ≠ w.heap.size + 1 + 1 + 1:=by have := AB3.out.lr; omega
  have y3:gi ≠ w.heap.size + 1 + 1:=by have := AB3.out.li; omega
  have y4:gi ≠ w.heap.size + 1 + 1 + 1:=by have := AB3.out.li; omega
  have y5:gr ≠ gi:=AB3.out.ne
  have y6:w.heap.size + 1 + 1 ≠ w.heap.size + 1 + 1 + 1:=by omega
  clear r3 l3 r4 l4 r5 l5 r6 l6
  go_upto_region 22 with fail
  go_region
  go_wp2_with fail
  clear e0 e1 e2 e3 f0 f1 f2 f3 f4 f5 g0 g1 g2 g3 h0 h1 h2 h3 h4 h5
  have AD4:=hide ((((((((AD3.out.setR 0 (.slice A9 N9 c8)).setR 1 (.slice B9 (4 * N9) c9)).setR 2 (.int .i64 (L9:Int))).setI 0 (.int .i64 k9)).setI 1 (.int .i64 x9)).setI 2 (.int .i64 y9)).setI 3 (.int .i64 s9)).setI 4 (.bool o9))
  obtain ⟨_,r5,l5⟩:=AD4.out.b.rd
  obtain ⟨_,r6,l6⟩:=AD4.out.b.rm
  refine bodyPost_ret (v := .tuple #[.agg #[.slice A9 N9 c8,.slice B9 (4 * N9) c9,.int .i64 (L9:Int)],.agg #[.int .i64 k9,.int .i64 x9,.int .i64 y9,.int .i64 s9,.bool o9],.int .i64 0]) ?_ rfl ?_
  ·obtain ⟨e0,e1,e2,e3,e4,e5,e6,e7⟩:=fin8 r5 r6 l5 l6 (by omega) (.slice A9 N9 c8) (.slice B9 (4 * N9) c9) (.int .i64 (L9:Int)) (.int .i64 k9) (.int .i64 x9) (.int .i64 y9) (.int .i64 s9) (.bool o9)
   simp [results,Tryd.results11,go_sem,e0,e1,e2,e3,e4,e5,e6,e7]
  ·have AD5:=(((((((AD4.out.setD 0 (.slice A9 N9 c8)).setD 1 (.slice B9 (4 * N9) c9)).setD 2 (.int .i64 (L9:Int))).setM 0 (.int .i64 k9)).setM 1 (.int .i64 x9)).setM 2 (.int .i64 y9)).setM 3 (.int .i64 s9)).setM 4 (.bool o9)
   rw [← HCC.out,← HRR.out,← HMM.out]
   refine ⟨fun h => absurd HC.out h,fun _ => ⟨A9,B9,c8,c9,by rw [HMV.out,← HN9.out,← HL9.out]; rfl,AD5.drew.t⟩,AD5.drew.b.bel⟩
 ·have HC:=hide hc
  have hE:=ResErr.split (hres.1 hc)
  subst hE
  have t1:(cc != 0) = true:=by rw [bne_iff_ne]; exact hc
  clear hc
  obtain ⟨_,r3,l3⟩:=AB3.out.r
  obtain ⟨_,r4,l4⟩:=AB3.out.i
  obtain ⟨_,r5,l5⟩:=AB3.out.rd
  obtain ⟨_,r6,l6⟩:=AB3.out.rm
  obtain ⟨e0,e1,e2,e3⟩:=cells3 r3 l3
  obtain ⟨f0,f1,f2,f3,f4,f5⟩:=cells5 r4 l4
  obtain ⟨g0,g1,g2,g3⟩:=cells3 r5 l5
  obtain ⟨h0,h1,h2,h3,h4,h5⟩:=cells5 r6 l6
  have y1:gr ≠ w.heap.size + 1 + 1:=by have := AB3.out.lr; omega
  have y2:gr ≠ w.heap.size + 1 + 1 + 1:=by have := AB3.out.lr; omega
  have y3:gi ≠ w.heap.size + 1 + 1:=by have := AB3.out.li; omega
  have y4:gi ≠ w.heap.size + 1 + 1 + 1:=by have := AB3.out.li; omega
  have y5:gr ≠ gi:=AB3.out.ne
  have y6:w.heap.size + 1 + 1 ≠ w.heap.size + 1 + 1 + 1:=by omega
  clear r3 l3 r4 l4 r5 l5 r6 l6
  go_wp2
  clear e0 e1 e2 e3 f0 f1 f2 f3 f4 f5 g0 g1 g2 g3 h0 h1 h2 h3 h4 h5
  have AB4:=(((((((AB3.out.setR 0 (.slice none 0 0)).setR 1 (.slice none 0 0)).setR 2 (.int .i64 0)).setI 0 (.int .i64 0)).setI 1 (.int .i64 0)).setI 2 (.int .i64 0)).setI 3 (.int .i64 0)).setI 4 (.bool false)
  obtain ⟨_,r5,l5⟩:=AB4.rd
  obtain ⟨_,r6,l6⟩:=AB4.rm
  refine bodyPost_ret (v := .tuple #[nilD,nilM,.int .i64 cc]) ?_ rfl ?_
  ·obtain ⟨e0,e1,e2,e3,e4,e5,e6,e7⟩:=fin8 r5 r6 l5 l6 (by omega) (.slice none 0 0) (.slice none 0 0) (.int .i64 0) (.int .i64 0) (.int .i64 0) (.int .i64 0) (.int .i64 0) (.bool false)
   unfold nilD nilM
   simp [results,Tryd.results11,go_sem,e0,e1,e2,e3,e4,e5,e6,e7]
  ·rw [← HCC.out,← HRR.out,← HMM.out]
   exact ⟨fun _ => (show ResErr _ _ from rfl),fun h => absurd h HC.out,below8 AB4.bel _ _ _ _ _ _ _ _⟩
noncomputable def apC (d:Pl.Dg) (m:Mv):Int :=
 if m.kind < 1 ∨ 5 < m.kind then 11 else if Pl.vb (inR d.n m) = false then 2 else if m.kind = 1 then curlableC d m.x else if m.kind = 2 then uncC d m.x.toNat else if m.kind = 3 then pkQ d m.x m.y m.sign else if m.kind = 4 then unpC d m.x.toNat m.y.toNat else sldC d m.x.toNat
def apD (d:Pl.Dg) (m:Mv):Pl.Dg :=
 if m.kind = 1 then crl d m.x m.sign m.over else if m.kind = 2 then unD d m.x.toNat else if m.kind = 3 then pkD d m.x m.y m.sign m.over else if m.kind = 4 then unpD d m.x.toNat m.y.toNat else sldD d m.x.toNat
def apI (d:Pl.Dg) (m:Mv):Mv :=
 if m.kind = 1 then ⟨2,d.n,0,0,false⟩ else if m.kind = 2 then unI d m.x.toNat else if m.kind = 3 then ⟨4,d.n,d.n + 1,0,false⟩ else if m.kind = 4 then unpI d m.x.toNat m.y.toNat else sldI d m.x.toNat
end Go.Proofs.YtghdiolnonejaaaDoor
end
section
namespace Go.Proofs.YtghdiolnonejaaaDoor
open Go Go.RowKit
def byK (m:Mv) (s:Int):Int := if m.kind = 1 then m.sign else if m.kind = 2 then -s else 0
def moreK (m:Mv):Int := if m.kind = 1 then 1 else if m.kind = 2 then -1 else if m.kind = 3 then 2 else if m.kind = 4 then -2 else 0
def Sml (l:List Int):Prop := ∀ z,z ∈ l → -1 ≤ z ∧ z ≤ 1
theorem wf_sml {d:Pl.Dg} (hd:Pl.Wf d):Sml d.sg := fun z hz => by
 obtain ⟨k,hk,rfl⟩:=List.getElem_of_mem hz
 have:=hd.sign k hk
 unfold Pl.Dg.s at this
 rw [List.getD_eq_getElem?_getD,List.getElem?_eq_getElem hk] at this
 simp at this
 omega
theorem sml_app {l r:List Int} (h:Sml l) (h':Sml r):Sml (l ++ r) := fun z hz => by
 rcases List.mem_append.1 hz with h1 | h1
 ·exact h z h1
 ·exact h' z h1
theorem shr_sml {l:List Int} (h:Sml l) (gs:List Nat):Sml (Pl.shrS gs l) := fun z hz => by
 unfold Pl.shrS at hz
 obtain ⟨c,_,rfl⟩:=List.mem_map.1 hz
 rw [List.getD_eq_getElem?_getD]
 cases hc:l[c]? with
 | none => simp
 | some v => exact h v (List.mem_of_getElem? hc)
theorem sgn2_sml (a b:Nat):-1 ≤ sgn2 a b ∧ sgn2 a b ≤ 1 := by unfold sgn2; split <;> omega
theorem poke_signs (d:Pl.Dg) (x y:Int) (ov:Bool):sgn2 (un0 d x y ov) (ov0 d x y ov) + sgn2 (un1 d x y ov) (ov1 d x y ov) = 0 := by
 unfold sgn2 un0 ov0 un1 ov1 lnS th0 th1 plc
 cases ov <;> cases fwd d y <;> cases fwd d x <;> decide
theorem signs_law {d:Pl.Dg} (hd:Pl.Valid d) (m:Mv) (h:apC d m = 0) :
 (apD d m).sg.sum = d.sg.sum + byK m (apI d m).sign ∧ ((apD d m).sg.length:Int) = d.sg.length + moreK m ∧ Sml (apD d m).sg := by
 obtain ⟨k,x,y,s,o⟩:=m
 have hs:=wf_sml hd.wf
 by_cases hk:k < 1 ∨ 5 < k
 ·unfold apC at h; rw [if_pos hk] at h; exact absurd h (by decide)
 by_cases hin:inR d.n ⟨k,x,y,s,o⟩
 ·have hv:¬ (Pl.vb (inR d.n ⟨k,x,y,s,o⟩) = false):=by rw [Pl.vb_true hin]; decide
  have e0:apC d ⟨k,x,y,s,o⟩ = if k = 1 then curlableC d x else if k = 2 then uncC d x.toNat else if k = 3 then pkQ d x y s else if k = 4 then unpC d x.toNat y.toNat else sldC d x.toNat:=by unfold apC; rw [if_neg hk,if_neg hv]
  rw [e0] at h
  have hk5:k = 1 ∨ k = 2 ∨ k = 3 ∨ k = 4 ∨ k = 5:=by omega
  rcases hk5 with rfl | rfl | rfl | rfl | rfl
  ·have hsg:s = 1 ∨ s = -1:=by have := hin; unfold inR at this; simp at this; omega
   refine ⟨?_,?_,?_⟩
   ·show (d.sg ++ [s]).sum = d.sg.sum + s
    simp
   ·show ((d.sg ++ [s]).length:Int) = d.sg.length + 1
    simp
   ·show Sml (d.sg ++ [s])
    exact sml_app hs (fun z hz => by simp at hz; subst hz; omega)
  ·obtain ⟨c,rfl⟩:=Int.eq_ofNat_of_zero_le (show 0 ≤ x by have := hin; unfold inR at this; simp at this; omega)
   have hc:c < d.sg.length:=by have := hin; unfold inR at this; simp [Pl.Dg.n] at this; omega
   refine ⟨?_,?_,?_⟩
   ·show (Pl.shrS [c] d.sg).sum = d.sg.sum + -(d.s c)
    rw [Pl.shrS_one d.sg hc]
    show _ - d.sg.getD c 0 = _ + -(d.sg.getD c 0)
    omega
   ·show ((Pl.shrS [c] d.sg).length:Int) = d.sg.length + -1
    have:=Pl.left_one hc
    rw [Pl.shrS_len]
    omega
   ·show Sml (Pl.shrS [c] d.sg)
    exact shr_sml hs _
  ·refine ⟨?_,?_,?_⟩
   ·show (d.sg ++ [_,_]).sum = d.sg.sum + 0
    have:=poke_signs d x y o
    simp
    omega
   ·show ((d.sg ++ [_,_]).length:Int) = d.sg.length + 2
    simp
   ·show Sml (d.sg ++ [_,_])
    refine sml_app hs (fun z hz => ?_)
    simp at hz
    rcases hz with rfl | rfl <;> exact sgn2_sml _ _
  ·obtain ⟨a,rfl⟩:=Int.eq_ofNat_of_zero_le (show 0 ≤ x by have := hin; unfold inR at this; simp at this; omega)
   obtain ⟨b,rfl⟩:=Int.eq_ofNat_of_zero_le (show 0 ≤ y by have := hin; unfold inR at this; simp at this; omega)
   have hab:a < b ∧ b < d.n:=by have := hin; unfold inR at this; simp at this; omega
   have h':unpC d a b = 0:=h
   have eD:apD d ⟨4,(a:Int),(b:Int),s,o⟩ = unpD d a b:=rfl
   cases hL:lensI d a b with
   | none => unfold unpC at h'; rw [hL] at h'; exact absurd (show (6:Int) = 0 from h') (by decide)
   | some i =>
     have eS:(unpD d a b).sg = Pl.shrS [a,b] d.sg:=by unfold unpD; rw [hL]; rfl
     obtain ⟨h1,h2,h3⟩:=lens_is hL
     have hi:=lens_lt hL
     have hl:lnH a b i < 4 * d.n:=by unfold lnH; split <;> omega
     have sg:=Pl.lens_signs hd.wf hl h2 h3
     rw [h1] at sg
     have sab:d.s a + d.s b = 0:=by
      unfold lnH lnO at sg
      by_cases h4:i < 4
      ·rw [if_pos h4,if_pos h4,show (4 * a + i) / 4 = a by omega] at sg
       exact sg
      ·rw [if_neg h4,if_neg h4,show (4 * b + i - 4) / 4 = b by omega] at sg
       omega
     have hb:b < d.sg.length:=hab.2
     rw [eD,eS]
     refine ⟨?_,?_,?_⟩
     ·show (Pl.shrS [a,b] d.sg).sum = d.sg.sum + 0
      rw [Pl.shrS_two d.sg hab.1 hb]
      unfold Pl.Dg.s at sab
      omega
     ·show ((Pl.shrS [a,b] d.sg).length:Int) = d.sg.length + -2
      have:=Pl.left_two hab.1 hb
      rw [Pl.shrS_len]
      omega
     ·exact shr_sml hs _
  ·refine ⟨?_,?_,?_⟩
   ·show d.sg.sum = d.sg.sum + 0
    omega
   ·show (d.sg.length:Int) = d.sg.length + 0
    omega
   ·exact hs
 ·unfold apC at h
  rw [if_neg hk,if_pos (Pl.vb_false hin)] at h
  exact absurd h (by decide)
end Go.Proofs.YtghdiolnonejaaaDoor
end
section
namespace Go.Proofs.YtghdiolnonejaaaDoor
open Go Go.RowKit
attribute [local go_sem ↓] Go.wp_at_zero Go.wp_at_succ
section
variable {P:Program} (w:World)
def SrcAt (w:World) (A:Option Addr) (m:Nat) (xs:List Value):Prop := xs.length = m * 5 ∧ (0 < m → ∃ b o,A = some ⟨b,o,none⟩ ∧ ∀ (j:Nat) u,xs[j]? = some u → w.cell? ⟨b,o + j,none⟩ = some u) ∧ ∀ u ∈ xs,u.oneCell' = true
theorem mvs_one (ms:List Mv):∀ u ∈ mvs ms,u.oneCell' = true := by
 intro u hu
 unfold mvs at hu
 obtain ⟨m,_,hm⟩:=List.mem_flatMap.1 hu
 simp only [Mv.cells,List.mem_cons,List.not_mem_nil,or_false] at hm
 rcases hm with rfl | rfl | rfl | rfl | rfl <;> rfl
theorem MovesAt.src {w:World} {v:Value} {ms:List Mv} (h:MovesAt w v ms):∃ (A:Option Addr) (c:Nat),v = .slice A ms.length c ∧ SrcAt w A ms.length (mvs ms) := by
 obtain ⟨base,h⟩:=h
 obtain ⟨A,c,rfl⟩:=owns_slice h
 refine ⟨A,c,rfl,h.1,fun hp => ?_,mvs_one ms⟩
 obtain ⟨g,cap,e,_,hg⟩:=World.ownsRow.form h hp
 injection e with e1 _ _
 subst e1
 refine ⟨g,0,rfl,fun j u hu => ?_⟩
 have hj:j < ms.length * 5:=by
  have:=(List.getElem?_eq_some_iff.1 hu).1
  rw [mvs_len] at this
  exact this
 rw [Nat.zero_add,World.ownsRow.cellAt h j hj]
 exact hu
theorem run_append_src (base:Nat) (t ty e:TypeId) (i:TypeInfo) (z:Value) (bytes:Nat) (ht:P.underlying t = some (.slice e)) (hi:P.info? e = some i) (hz:i.zero = some z)
 (hsize:i.size = 5) (hby:i.bytes = bytes) (hzs:z.cells.size = 5)
 (v:Value) (n:Nat) (xs:List Value) (hown:w.ownsRow base e 5 v n xs)
 (A:Option Addr) (m c:Nat) (ys:List Value) (hin:SrcAt w A m ys)
 (h63:n + m ≤ maxLen) (hbytes:(n + m) * bytes ≤ 140737488355328) (hbase:base ≤ w.heap.size) :
 ∃ v' w',(Builtin.append_ #[t,t] ty #[v,.slice A m c]).run P w = .ok v' w' ∧ w'.ownsRow base e 5 v' (n + m) (xs ++ ys) ∧ w.grownBy w' v.ownBlock := by
 have hl:=hin.1
 rcases Nat.eq_zero_or_pos m with h0 | h0
 ·subst h0
  obtain rfl:ys = [] := List.eq_nil_of_length_eq_zero (by omega)
  have hr:(Builtin.append_ #[t,t] ty #[v,.slice A 0 c]).run P w = .ok v w:=by
   rcases hown.2 with ⟨rfl,rfl⟩ | ⟨g,cap,cur,rfl,_,_,hnc,_⟩
   ·cases A <;> simp [Builtin.append_,run_underlying ht,sizeOf,typeInfo,hi,Builtin.lenOf,Builtin.firstCells,loadCells,loadCellsFrom]
   ·cases A <;> simp [Builtin.append_,run_underlying ht,sizeOf,typeInfo,hi,Builtin.lenOf,Builtin.firstCells,hnc,storeCells,loadCells,loadCellsFrom]
  refine ⟨v,w,hr,by simpa using hown,⟨rfl,rfl,rfl,Nat.le_refl _,fun _ _ _ => rfl⟩⟩
 ·obtain ⟨b,o,rfl,hc⟩:=hin.2.1 h0
  obtain ⟨v',w',hr,h2,h3,_⟩:=run_append_own (P := P) w base t ty e i z 5 bytes ht hi hz hsize hby hzs (by omega) v n xs hown ⟨b,o,none⟩ m c ys hl (fun j u hu => by
   have:(⟨b,o,none⟩:Addr).add j = ⟨b,o + j,none⟩:=by unfold Addr.add; split <;> simp_all
   rw [this]; exact hc j u hu) hin.2.2 h63 hbytes hbase
  exact ⟨v',w',hr,h2,h3⟩
theorem wp_append_src {o:Oper} {a:Act} {K:Act → World → Prop} {Q:Exit → Act → World → Prop} (s x:Operand) (t:TypeId)
 (ho:o.op = .call { callee := .builtin .append,args := #[s,x],argTypes := #[t,t] })
 (base:Nat) (e:TypeId) (i:TypeInfo) (z:Value) (bytes:Nat) (ht:P.underlying t = some (.slice e)) (hi:P.info? e = some i) (hz:i.zero = some z)
 (hsize:i.size = 5) (hby:i.bytes = bytes) (hzs:z.cells.size = 5)
 (v:Value) (n:Nat) (xs:List Value) (hs:a.eval s = v) (hown:w.ownsRow base e 5 v n xs)
 (A:Option Addr) (m c:Nat) (ys:List Value) (hx:a.eval x = .slice A m c) (hin:SrcAt w A m ys)
 (h63:n + m ≤ maxLen) (hbytes:(n + m) * bytes ≤ 140737488355328) (hbase:base ≤ w.heap.size)
 (h:∀ v' w',w'.ownsRow base e 5 v' (n + m) (xs ++ ys) → w.grownBy w' v.ownBlock → K (a.put o.dst v') w'):o.wp P a w K Q := by
 obtain ⟨v',w',hr,h2,h3⟩:=run_append_src (P := P) w base t o.type e i z bytes ht hi hz hsize hby hzs v n xs hown A m c ys hin h63 hbytes hbase
 unfold Oper.wp execOp
 simp only [ho,resolve,invoke,builtin,Sem.run_bind,Sem.run_pure,Result.andThen_ok,List.map_toArray,List.map_cons,List.map_nil,hs,hx,hr]
 exact h v' w' h2 h3
theorem step_append_src {ops:Array Oper} {o:Oper} {a:Act} {K:Act → World → Prop} {Q:Exit → Act → World → Prop} {E:Prop} (hgd:o.guard = none) (s x:Operand) (t:TypeId)
 (ho:o.op = .call { callee := .builtin .append,args := #[s,x],argTypes := #[t,t] })
 (base:Nat) (e:TypeId) (i:TypeInfo) (z:Value) (bytes:Nat) (ht:P.underlying t = some (.slice e)) (hi:P.info? e = some i) (hz:i.zero = some z)
 (hsize:i.size = 5) (hby:i.bytes = bytes) (hzs:z.cells.size = 5)
 (v:Value) (n:Nat) (xs:List Value) (hs:a.eval s = v) (hown:w.ownsRow base e 5 v n xs)
 (A:Option Addr) (m c:Nat) (ys:List Value) (hx:a.eval x = .slice A m c) (hin:SrcAt w A m ys)
 (h63:n + m ≤ maxLen) (hbytes:(n + m) * bytes ≤ 140737488355328) (hbase:base ≤ w.heap.size)
 (h:∀ v' w',w'.ownsRow base e 5 v' (n + m) (xs ++ ys) → w.grownBy w' v.ownBlock → K (a.put o.dst v') w') :
 if Region.wanted o (yielded ops a.tmps) = true then Oper.wp P o a w K Q else E := by
 have hw:Region.wanted o (yielded ops a.tmps) = true:=by simp [Region.wanted,hgd]
 rw [if_pos hw]
 exact wp_append_src w s x t ho base e i z bytes ht hi hz hsize hby hzs v n xs hs hown A m c ys hx hin h63 hbytes hbase h
end
def unC:Nat → List Mv
 | 0 => []
 | k + 1 => unC k ++ [⟨2,k,0,0,false⟩]
def upN (x:Nat):Nat → List Mv
 | 0 => []
 | k + 1 => upN x k ++ (if x < k then [⟨4,x,k,0,false⟩] else [])
def upNX (n:Nat):Nat → List Mv
 | 0 => []
 | k + 1 => upNX n k ++ upN k n
noncomputable def sel (d:Pl.Dg) (l:List Mv):List Mv := l.flatMap (fun m => one (apC d m) m)
theorem sel_nil (d:Pl.Dg):sel d [] = [] := rfl
theorem sel_app (d:Pl.Dg) (l r:List Mv):sel d (l ++ r) = sel d l ++ sel d r := by unfold sel; rw [List.flatMap_append]
theorem sel_cons (d:Pl.Dg) (m:Mv) (l:List Mv):sel d (m :: l) = one (apC d m) m ++ sel d l := by unfold sel; rw [List.flatMap_cons]
theorem mem_one {c:Int} {m z:Mv}:z ∈ one c m ↔ z = m ∧ c = 0 := by
 unfold one
 split
 ·rename_i h; simp [h]
 ·rename_i h; simp [h]
theorem mem_sel {d:Pl.Dg} {l:List Mv} {z:Mv}:z ∈ sel d l ↔ z ∈ l ∧ apC d z = 0 := by
 unfold sel
 rw [List.mem_flatMap]
 constructor
 ·rintro ⟨m,h1,h2⟩
  obtain ⟨rfl,h3⟩:=mem_one.1 h2
  exact ⟨h1,h3⟩
 ·rintro ⟨h1,h2⟩
  exact ⟨z,h1,mem_one.2 ⟨rfl,h2⟩⟩
theorem apC_in {d:Pl.Dg} {m:Mv} (hk:1 ≤ m.kind ∧ m.kind ≤ 5) (hin:inR d.n m):apC d m = if m.kind = 1 then curlableC d m.x else if m.kind = 2 then uncC d m.x.toNat else if m.kind = 3 then pkQ d m.x m.y m.sign else if m.kind = 4 then unpC d m.x.toNat m.y.toNat else sldC d m.x.toNat := by
 unfold apC
 rw [if_neg (by omega),if_neg (by rw [Pl.vb_true hin]; decide)]
theorem un_code {d:Pl.Dg} {c:Nat} (hc:c < d.n):apC d ⟨2,c,0,0,false⟩ = uncC d c := by
 rw [apC_in (by simp) (by unfold inR; simp; omega)]
 simp
theorem up_code {d:Pl.Dg} {x y:Nat} (hx:x < y) (hy:y < d.n):apC d ⟨4,x,y,0,false⟩ = unpC d x y := by
 rw [apC_in (by simp) (by unfold inR; simp; omega)]
 simp
theorem un_sel (d:Pl.Dg):∀ k,k ≤ d.n → unL d k = sel d (unC k)
 | 0,_ => rfl
 | k + 1, h => by
   show unL d k ++ one (uncC d k) ⟨2,k,0,0,false⟩ = sel d (unC k ++ [⟨2,k,0,0,false⟩])
   rw [sel_app,un_sel d k (by omega),sel_cons,sel_nil,un_code (by omega),List.append_nil]
theorem upY_sel (d:Pl.Dg) (x:Nat):∀ k,k ≤ d.n → upY d x k = sel d (upN x k)
 | 0,_ => rfl
 | k + 1, h => by
   show upY d x k ++ (if x < k then one (unpC d x k) ⟨4,x,k,0,false⟩ else []) = sel d (upN x k ++ (if x < k then [⟨4,x,k,0,false⟩] else []))
   rw [sel_app,upY_sel d x k (by omega)]
   congr 1
   split
   ·rename_i hx; rw [sel_cons,sel_nil,up_code hx (by omega),List.append_nil]
   ·rfl
theorem up_sel (d:Pl.Dg):∀ k,upX d k = sel d (upNX d.n k)
 | 0 => rfl
 | k + 1 => by
   show upX d k ++ upY d k d.n = sel d (upNX d.n k ++ upN k d.n)
   rw [sel_app,up_sel d k,upY_sel d k d.n (Nat.le_refl _)]
section
variable {d:Pl.Dg} {F P:List Nat}
end
noncomputable def remL (d:Pl.Dg):List Mv := sel d (unC d.n) ++ sel d (upNX d.n d.n)
end Go.Proofs.YtghdiolnonejaaaDoor
end
section
namespace Go.Proofs.YtghdiolnonejaaaDoor
open Go Go.RowKit
attribute [local go_sem ↓] Go.wp_at_zero Go.wp_at_succ
theorem mvs_apps (ms r:List Mv):mvs (ms ++ r) = mvs ms ++ mvs r := by unfold mvs; rw [List.flatMap_append]
structure AL (w:World) (dv:List Value) (b:Nat) (v:Value) (ms:List Mv) (W:World):Prop where
 d:Row W w.heap.size 24 dv
 o:W.ownsRow b 33 5 v ms.length (mvs ms)
 bel:Below w.heap.size w W
 lo:w.heap.size < b
 lo2:b ≤ W.heap.size
section
variable {w W W' W2:World} {dv:List Value} {b:Nat} {v v':Value} {ms r:List Mv}
theorem AL.below (h:AL w dv b v ms W) (hb:Below W.heap.size W W'):AL w dv b v ms W' :=
 ⟨h.d.below hb,own_below h.o hb,h.bel.trans (hb.mono h.bel.size),h.lo,Nat.le_trans h.lo2 hb.size⟩
theorem AL.far (h:AL w dv b v ms W):some w.heap.size ≠ v.ownBlock := fun e => by have := (h.o.lt _ e.symm).1; have := h.lo; omega
theorem AL.app (h:AL w dv b v ms W) (own:W2.ownsRow b 33 5 v' (ms.length + r.length) (mvs ms ++ mvs r)) (gr:W.grownBy W2 v.ownBlock):AL w dv b v' (ms ++ r) W2 := by
 refine ⟨h.d.grown gr h.far,?_,h.bel.grown gr h.bel.size (fun k hk => by have := (h.o.lt k hk).1; have := h.lo; omega),h.lo,Nat.le_trans h.lo2 gr.size⟩
 rw [mvs_apps,List.length_append]
 exact own
end
theorem un_le {d:Pl.Dg} (hn:d.n ≤ 64):(sel d (unC d.n)).length ≤ 64 := by
 have a:=unL_len d d.n
 rw [un_sel d _ (Nat.le_refl _)] at a
 omega
theorem up_le {d:Pl.Dg} (hn:d.n ≤ 64):(sel d (upNX d.n d.n)).length ≤ 4096 := by
 have a:=upX_len hn d.n
 rw [up_sel d _] at a
 omega
end Go.Proofs.YtghdiolnonejaaaDoor
end
section
namespace Go.Proofs.YtghdiolnonejaaaDoor
open Go Go.RowKit
attribute [local go_sem ↓] Go.wp_at_zero Go.wp_at_succ
theorem mv_get:∀ (ms:List Mv) (j:Nat) (z:Mv),ms[j]? = some z → ∀ (i:Nat) (u:Value),z.cells[i]? = some u → (mvs ms)[j * 5 + i]? = some u
 | [],j,z,h,_,_,_ => by cases h
 | m :: ms, 0, z, h, i, u, hu => by
   obtain rfl:m = z := by simpa using h
   have hi:i < m.cells.length:=(List.getElem?_eq_some_iff.1 hu).1
   show (m.cells ++ mvs ms)[0 * 5 + i]? = some u
   rw [Nat.zero_mul,Nat.zero_add,List.getElem?_append_left hi,hu]
 | m :: ms, j + 1, z, h, i, u, hu => by
   have ih:=mv_get ms j z (by simpa using h) i u hu
   show (m.cells ++ mvs ms)[(j + 1) * 5 + i]? = some u
   have e:m.cells.length = 5:=rfl
   rw [List.getElem?_append_right (by rw [e]; omega),e,← ih]
   congr 1
   omega
theorem mv_val {w:World} {v:Value} {ms:List Mv} (h:MovesAt w v ms):∃ (A:Option Addr) (c:Nat),v = .slice A ms.length c ∧ (0 < ms.length → ∃ g,A = some ⟨g,0,none⟩ ∧ g < w.heap.size ∧ ∀ (j:Nat) (z:Mv),ms[j]? = some z → ∀ (i:Nat) (u:Value),z.cells[i]? = some u → w.cell? ⟨g,j * 5 + i,none⟩ = some u) := by
 obtain ⟨base,h⟩:=h
 obtain ⟨A,c,rfl⟩:=owns_slice h
 refine ⟨A,c,rfl,fun hp => ?_⟩
 obtain ⟨g,cap,e,_,hg⟩:=World.ownsRow.form h hp
 injection e with e1 _ _
 subst e1
 refine ⟨g,rfl,hg,fun j z hz i u hu => ?_⟩
 have hj:j < ms.length:=(List.getElem?_eq_some_iff.1 hz).1
 have hi:i < 5:=(List.getElem?_eq_some_iff.1 hu).1
 rw [World.ownsRow.cellAt h (j * 5 + i) (by omega)]
 exact mv_get ms j z hz i u hu
def MovesV (w:World) (A:Option Addr) (n:Nat) (ms:List Mv):Prop := n = ms.length ∧ (0 < n → ∃ g,A = some ⟨g,0,none⟩ ∧ g < w.heap.size ∧ ∀ (j:Nat) (z:Mv),ms[j]? = some z → ∀ (i:Nat) (u:Value),z.cells[i]? = some u → w.cell? ⟨g,j * 5 + i,none⟩ = some u)
theorem MovesV.keep {w w':World} {A:Option Addr} {n:Nat} {ms:List Mv} (h:MovesV w A n ms) (hb:Below w.heap.size w w'):MovesV w' A n ms :=
 ⟨h.1,fun hp => let ⟨g,e,hl,hc⟩:=h.2 hp; ⟨g,e,Nat.lt_of_lt_of_le hl hb.size,fun j z hz i u hu => cell_below (hc j z hz i u hu) hb⟩⟩
theorem MovesAt.mv {w:World} {v:Value} {ms:List Mv} (h:MovesAt w v ms):∃ (A:Option Addr) (c:Nat),v = .slice A ms.length c ∧ MovesV w A ms.length ms := by
 obtain ⟨A,c,e,h2⟩:=mv_val h
 exact ⟨A,c,e,rfl,h2⟩
theorem MovesV.at_ {w:World} {A:Option Addr} {n j:Nat} {ms:List Mv} (h:MovesV w A n ms) (hj:j < n):∃ g k x y s o,A = some ⟨g,0,none⟩ ∧ g < w.heap.size ∧ ms[j]? = some ⟨k,x,y,s,o⟩ ∧ w.cell? ⟨g,j * 5,none⟩ = some (.int .i64 k) ∧ w.cell? ⟨g,j * 5 + 1,none⟩ = some (.int .i64 x) ∧ w.cell? ⟨g,j * 5 + 2,none⟩ = some (.int .i64 y) ∧ w.cell? ⟨g,j * 5 + 3,none⟩ = some (.int .i64 s) ∧ w.cell? ⟨g,j * 5 + 4,none⟩ = some (.bool o) := by
 obtain ⟨g,e,hl,hc⟩:=h.2 (by omega)
 obtain ⟨z,hz⟩:∃ z,ms[j]? = some z := ⟨_,List.getElem?_eq_getElem (by rw [← h.1]; exact hj)⟩
 obtain ⟨k,x,y,s,o⟩:=z
 exact ⟨g,k,x,y,s,o,e,hl,hz,hc j _ hz 0 _ rfl,hc j _ hz 1 _ rfl,hc j _ hz 2 _ rfl,hc j _ hz 3 _ rfl,hc j _ hz 4 _ rfl⟩
def eqM (a b:Mv):Bool := a.kind == b.kind && a.x == b.x && a.y == b.y && a.sign == b.sign && a.over == b.over
set_option maxRecDepth 100000 in
set_option maxHeartbeats 4000000 in
theorem Removing_any (d:Pl.Dg) (hd:Pl.Valid d) (A B:Option Addr) (cp cq m:Nat) (w:World) (hm:m = 4 * d.n) (hg:DgAt w A B d) :
 Calls Tryd.prog 10 #[.agg #[.slice A d.n cp,.slice B m cq,.int .i64 d.lp]] w fun e w' => ∃ v,e = .returned v ∧ MovesIn w.heap.size w' v (remL d) ∧ Below w.heap.size w w' := by
 have HM:=hide hm
 have HG:=hide hg
 have HW:=hide (Pl.Valid.iff.1 hd).1
 have hn:=hd.wf.few
 clear hg hm
 have R0:=hide (row_at (W := w) (g := w.heap.size) (t := 24) (vs := [.slice A d.n cp,.slice B m cq,.int .i64 (d.lp:Int)]) rfl)
 have B0:=hide (show Below w.heap.size w (w.alloc (.cells #[.slice A d.n cp,.slice B m cq,.int .i64 (d.lp:Int)] 24)) from (Below.refl _ _).alloc (Nat.le_refl _) _)
 go_enter Tryd.func10,Tryd.ntmps10
 go_wp2_with fail
 refine (valid_yes d hd A B cp cq m _ HM.out (HG.out.keep B0.out)).mono ?_
 rintro e w1 ⟨rfl,hb1⟩
 have R1:=hide (R0.out.below hb1)
 have B1:=hide (B0.out.trans (hb1.mono B0.out.size))
 clear hb1
 obtain ⟨d0,d1,d2,d3⟩:=box3 R1.out
 go_wp2_with fail
 have lun:=un_le (d := d) hn
 have lup:=up_le (d := d) hn
 have B3:(sel d (unC d.n)).length + (sel d (upNX d.n d.n)).length ≤ maxLen:=by unfold maxLen; omega
 have C3:((sel d (unC d.n)).length + (sel d (upNX d.n d.n)).length) * 40 ≤ 140737488355328:=by omega
 obtain ⟨n0,hn0,hz0,hz1,hz2⟩:=info_parts moveInfo
 have hw1:w.heap.size < w1.heap.size:=R1.out.lt
 have HG1:=hide (show DgAt w1.drew A B d from ⟨(HG.out.keep B1.out).s,(HG.out.keep B1.out).m⟩)
 go_region_law
  (first
    | (refine step_append_src _ ?_ (.tmp 7) (.tmp 9) 27 ?_ b 33 n0 (.agg #[.int .i64 0, .int .i64 0, .int .i64 0, .int .i64 0, .bool false]) 40 Tryd.underlying27 hn0 hz0 hz1 hz2 rfl v3 _ _ ?_ Q4.out.o A4 _ c4 _ ?_ S4.out B3 C3 Q4.out.lo2 ?_
       ·rfl
       ·rfl
       ·rfl
       ·rfl
       intro v5 w5 own5 grow5
       have Q5:=hide (Q4.out.app own5 grow5)
       clear own5 grow5)
    | (go_simp
       go_wp2_with (first
        | ((go_at_call 19); refine Calls.mono (uncurls_any d HW.out A B cp cq m _ HM.out HG1.out) ?_; rintro e w3 ⟨v3,rfl,⟨b,hlb,hlb2,own3⟩,hb3⟩; rw [un_sel d _ (Nat.le_refl _)] at own3; have Q3 := hide (show AL w [.slice A d.n cp,.slice B m cq,.int .i64 (d.lp:Int)] b v3 (sel d (unC d.n)) w3 from ⟨R1.out.drew.below hb3,own3,B1.out.drew.trans (hb3.mono B1.out.size),Nat.lt_of_lt_of_le hw1 hlb,hlb2⟩); obtain ⟨e0,e1,e2,e3⟩:=box3 Q3.out.d; clear own3 hb3)
        | ((go_at_call 20); refine Calls.mono (unpokes_any d HW.out A B cp cq m _ HM.out (HG.out.keep Q3.out.bel)) ?_; rintro e w4 ⟨v4,rfl,hv4,hb4⟩; rw [up_sel] at hv4; obtain ⟨A4,c4,rfl,src4⟩:=hv4.at.src; have Q4 := hide (Q3.out.below hb4); have S4 := hide src4; clear hb4 hv4 src4))))
 all_goals
  go_wp2
  go_ret
  exact ⟨v5,rfl,⟨b,by have := Q5.out.lo; omega,Q5.out.lo2,Q5.out.o⟩,Q5.out.bel⟩
end Go.Proofs.YtghdiolnonejaaaDoor
end
section
namespace Go.Proofs.YtghdiolnonejaaaDoor
open Go Go.RowKit
theorem mem_unC {n:Nat} {z:Mv}:∀ k,k ≤ n → (z ∈ unC k ↔ z.kind = 2 ∧ inR n z ∧ z.x < (k:Int))
 | 0, _ => by
   constructor
   ·intro h; cases h
   ·rintro ⟨h1,h2,h3⟩
    unfold inR at h2
    rw [if_neg (by omega),if_pos h1] at h2
    omega
 | k + 1, h => by
   show z ∈ unC k ++ [⟨2,k,0,0,false⟩] ↔ _
   rw [List.mem_append,mem_unC (n := n) k (by omega)]
   obtain ⟨zk,zx,zy,zs,zo⟩:=z
   constructor
   ·rintro (⟨h1,h2,h3⟩ | h1)
    ·exact ⟨h1,h2,by simp only at h3 ⊢; omega⟩
    ·simp only [List.mem_cons,List.not_mem_nil,or_false,Mv.mk.injEq] at h1
     obtain ⟨rfl,rfl,rfl,rfl,rfl⟩:=h1
     refine ⟨rfl,?_,by simp only; omega⟩
     unfold inR
     simp
     omega
   ·rintro ⟨h1,h2,h3⟩
    by_cases hx:zx < (k:Int)
    ·exact .inl ⟨h1,h2,hx⟩
    ·right
     unfold inR at h2
     rw [if_neg (by omega),if_pos h1] at h2
     simp only at h1 h2 h3
     simp only [List.mem_cons,List.not_mem_nil,or_false,Mv.mk.injEq]
     exact ⟨h1,by omega,h2.2.2.1,h2.2.2.2.1,h2.2.2.2.2⟩
theorem mem_upN {n x:Nat} {z:Mv}:∀ k,k ≤ n → (z ∈ upN x k ↔ z.kind = 4 ∧ inR n z ∧ z.x = (x:Int) ∧ z.y < (k:Int))
 | 0, _ => by
   constructor
   ·intro h; cases h
   ·rintro ⟨h1,h2,h3,h4⟩
    unfold inR at h2
    rw [if_neg (by omega),if_neg (by omega),if_pos h1] at h2
    omega
 | k + 1, h => by
   show z ∈ upN x k ++ (if x < k then [⟨4,x,k,0,false⟩] else []) ↔ _
   rw [List.mem_append,mem_upN (n := n) k (by omega)]
   obtain ⟨zk,zx,zy,zs,zo⟩:=z
   constructor
   ·rintro (⟨h1,h2,h3,h4⟩ | h1)
    ·exact ⟨h1,h2,h3,by simp only at h4 ⊢; omega⟩
    ·split at h1
     ·simp only [List.mem_cons,List.not_mem_nil,or_false,Mv.mk.injEq] at h1
      obtain ⟨rfl,rfl,rfl,rfl,rfl⟩:=h1
      refine ⟨rfl,?_,rfl,by simp only; omega⟩
      unfold inR
      simp
      omega
     ·cases h1
   ·rintro ⟨h1,h2,h3,h4⟩
    by_cases hx:zy < (k:Int)
    ·exact .inl ⟨h1,h2,h3,hx⟩
    ·right
     unfold inR at h2
     rw [if_neg (by omega),if_neg (by omega),if_pos h1] at h2
     simp only at h1 h2 h3 h4
     rw [if_pos (by omega)]
     simp only [List.mem_cons,List.not_mem_nil,or_false,Mv.mk.injEq]
     exact ⟨h1,h3,by omega,h2.2.2.2.1,h2.2.2.2.2⟩
theorem mem_upNX {n:Nat} {z:Mv}:∀ k,k ≤ n → (z ∈ upNX n k ↔ z.kind = 4 ∧ inR n z ∧ z.x < (k:Int))
 | 0, _ => by
   constructor
   ·intro h; cases h
   ·rintro ⟨h1,h2,h3⟩
    unfold inR at h2
    rw [if_neg (by omega),if_neg (by omega),if_pos h1] at h2
    omega
 | k + 1, h => by
   show z ∈ upNX n k ++ upN k n ↔ _
   rw [List.mem_append,mem_upNX (n := n) k (by omega),mem_upN (n := n) n (Nat.le_refl _)]
   constructor
   ·rintro (⟨h1,h2,h3⟩ | ⟨h1,h2,h3,h4⟩)
    ·exact ⟨h1,h2,by omega⟩
    ·exact ⟨h1,h2,by omega⟩
   ·rintro ⟨h1,h2,h3⟩
    by_cases hx:z.x < (k:Int)
    ·exact .inl ⟨h1,h2,hx⟩
    ·right
     refine ⟨h1,h2,by omega,?_⟩
     unfold inR at h2
     rw [if_neg (by omega),if_neg (by omega),if_pos h1] at h2
     omega
theorem un_kind {d:Pl.Dg} {z:Mv} (h:z ∈ sel d (unC d.n)):z.kind = 2 := ((mem_unC _ (Nat.le_refl _)).1 (mem_sel.1 h).1).1
theorem up_kind {d:Pl.Dg} {z:Mv} (h:z ∈ sel d (upNX d.n d.n)):z.kind = 4 := ((mem_upNX _ (Nat.le_refl _)).1 (mem_sel.1 h).1).1
end Go.Proofs.YtghdiolnonejaaaDoor
end
section
namespace Go.Proofs.YtghdiolnonejaaaDoor
open Go Go.RowKit
attribute [local go_sem ↓] Go.wp_at_zero Go.wp_at_succ
section
variable {w W W' W2:World} {vR vS:Value} {rs ss:List Mv} {m:Mv} {g n c:Nat}
theorem apart {v u:Value} (ne:∀ g,v.ownBlock = some g → u.ownBlock = some g → False):u.ownBlock = none ∨ u.ownBlock ≠ v.ownBlock := by
 cases hu:u.ownBlock with
 | none => exact .inl rfl
 | some g => exact .inr (fun e => ne g e.symm hu)
end
theorem remL_le {d:Pl.Dg} (hn:d.n ≤ 64):(remL d).length ≤ 5000 := by
 have b:=un_le (d := d) hn
 have e:=up_le (d := d) hn
 unfold remL
 rw [List.length_append]
 omega
end Go.Proofs.YtghdiolnonejaaaDoor
end
section
namespace Go.Proofs.YtghdiolnonejaaaDoor
open Go Go.RowKit
theorem apC_zero {d:Pl.Dg} {m:Mv} (h:apC d m = 0):(1 ≤ m.kind ∧ m.kind ≤ 5) ∧ inR d.n m ∧
 (if m.kind = 1 then curlableC d m.x else if m.kind = 2 then uncC d m.x.toNat else if m.kind = 3 then pkQ d m.x m.y m.sign else if m.kind = 4 then unpC d m.x.toNat m.y.toNat else sldC d m.x.toNat) = 0 := by
 unfold apC at h
 by_cases hk:m.kind < 1 ∨ 5 < m.kind
 ·rw [if_pos hk] at h; exact absurd h (by decide)
 ·rw [if_neg hk] at h
  by_cases hv:Pl.vb (inR d.n m) = false
  ·rw [if_pos hv] at h; exact absurd h (by decide)
  ·rw [if_neg hv] at h
   exact ⟨by omega,Pl.vb_iff.1 (by simpa using hv),h⟩
theorem crl_ok {d:Pl.Dg} (hd:Pl.Valid d) {x s:Int} {ov:Bool} (hx:-1 ≤ x ∧ x < 4 * d.n) (hs:s = 1 ∨ s = -1) (h:curlableC d x = 0):Pl.Valid (crl d x s ov) ∧ Pl.Same d (crl d x s ov) := by
 unfold curlableC at h
 obtain ⟨a1,a2,a3,a4,n1,n2,n3,n4,n5,n6⟩:=(kq d.n s ov hs).bd
 have hl:=hd.wf.len
 by_cases hx0:x < 0
 ·rw [if_pos hx0] at h
  have hlp:¬ d.lp = 0:=fun e => by rw [if_pos e] at h; exact absurd h (by decide)
  rw [if_neg hlp] at h
  have hn:d.n + 1 ≤ 64:=Nat.le_of_not_lt fun e => by unfold fullC at h; rw [if_pos e] at h; exact absurd h (by decide)
  have hv:=crl_loop hd (x := x) (ov := ov) hs hn hx0
  have hm:=crl_mloop hd.wf (x := x) (ov := ov) hs hx0
  refine ⟨hv,Pl.Kd.same0 hd hv (crl_kd hd.wf hs hn ?_ ?_) (fun h hh => ?_) ?_ ?_⟩
  ·rw [hm,if_neg (Ne.symm n1),if_neg n5,if_neg n4,if_pos rfl]
  ·rw [hm,if_neg (Ne.symm n2),if_neg n6,if_pos rfl]
  ·rw [hm,if_neg (by omega),if_neg (by omega),if_neg (by omega),if_neg (by omega),app_m (by omega)]; rfl
  ·rw [hm,if_pos rfl]
  ·show d.lp = (if x < 0 then d.lp - 1 else d.lp) + 1
   rw [if_pos hx0]; omega
 ·rw [if_neg hx0] at h
  obtain ⟨k,rfl⟩:=Int.eq_ofNat_of_zero_le (Int.not_lt.1 hx0)
  have hk:k < 4 * d.n:=by omega
  rw [Int.toNat_natCast] at h
  by_cases ho:Pl.out d k = true
  ·rw [if_pos ho] at h
   have hn:d.n + 1 ≤ 64:=Nat.le_of_not_lt fun e => by unfold fullC at h; rw [if_pos e] at h; exact absurd h (by decide)
   have hv:=crl_edge hd (ov := ov) hs hn hk ho
   have hy:=hd.wf.lt k hk
   have hne:=hd.wf.ne k hk
   have e:(crl d (k:Int) s ov).mt = jn (jn (jn (d.mt ++ List.replicate 4 0) (kO0 d.n s ov) (kI1 d.n s ov)) (kO1 d.n s ov) (d.m k)) k (kI0 d.n s ov):=by
    unfold crl; simp only [if_neg (show ¬ ((k:Int) < 0) by omega),Int.toNat_natCast]
   have hm:∀ z,(crl d (k:Int) s ov).m z = if z = kI0 d.n s ov then k else if z = k then kI0 d.n s ov else if z = d.m k then kO1 d.n s ov else if z = kO1 d.n s ov then d.m k else if z = kI1 d.n s ov then kO0 d.n s ov else if z = kO0 d.n s ov then kI1 d.n s ov else (d.mt ++ List.replicate 4 0).getD z z:=fun z => by
    show (crl d (k:Int) s ov).mt.getD z z = _
    rw [e,jn_m _ _ _ _ _ (by rw [jn_len,jn_len]; simp; omega) (by rw [jn_len,jn_len]; simp; omega),jn_m _ _ _ _ _ (by rw [jn_len]; simp; omega) (by rw [jn_len]; simp; omega),jn_m _ _ _ _ _ (by simp; omega) (by simp; omega)]
   refine ⟨hv,Pl.Kd.same hd hv (crl_kd hd.wf hs hn ?_ ?_) hk (fun h hh h1 h2 => ?_) ?_ ?_ ?_ ?_ ?_⟩
   ·rw [hm,if_neg (Ne.symm n1),if_neg (by omega),if_neg (by omega),if_neg n5,if_neg n4,if_pos rfl]
   ·rw [hm,if_neg (Ne.symm n2),if_neg (by omega),if_neg (by omega),if_neg n6,if_pos rfl]
   ·rw [hm,if_neg (by omega),if_neg h1,if_neg h2,if_neg (by omega),if_neg (by omega),if_neg (by omega),app_m (by omega)]; rfl
   ·rw [hm,if_neg (Ne.symm n3),if_neg (by omega),if_neg (by omega),if_pos rfl]
   ·rw [hm,if_neg (by omega),if_neg hne,if_pos rfl]
   ·rw [hm,if_neg (by omega),if_pos rfl]
   ·rw [hm,if_pos rfl]
   ·show d.lp = if (k:Int) < 0 then d.lp - 1 else d.lp
    rw [if_neg (by omega)]
  ·rw [if_neg ho] at h; exact absurd h (by decide)
theorem kk_div (d:Pl.Dg) (c:Nat):kk d c / 4 = c := by unfold kk; split <;> (try split) <;> omega
theorem jn_jl (l:List Nat) (a b:Nat):jn l a b = Pl.jl l a b := rfl
theorem unD_ok {d:Pl.Dg} (hd:Pl.Valid d) {c:Nat} (hc:c < d.n) (h:uncC d c = 0):Pl.Valid (unD d c) ∧ Pl.Same d (unD d c) := by
 have hw:=hd.wf
 have ho:=kk_lt hc
 have hod:=kk_div d c
 unfold uncC at h
 by_cases hk:d.m (kk d c) / 4 = c
 ·rw [if_pos hk] at h
  have hk2:d.m (kk d c) / 4 = kk d c / 4:=by rw [hod,hk]
  unfold unD unM
  by_cases hn:d.m (kA d c) = kB d c
  ·rw [if_pos hn] at h
   have hl:d.lp + 1 ≤ 64:=Nat.le_of_not_lt fun e => by rw [if_pos e] at h; exact absurd h (by decide)
   rw [if_pos hn,if_pos hn]
   have v:=Pl.kink_valid0 hd ho hk2 hn hl
   have s:=Pl.kink_same0 hd ho hk2 hn hl rfl
   rw [hod] at v s
   exact ⟨v,s⟩
  ·rw [if_neg hn,if_neg hn]
   have hA:=kA_lt hc
   have hB:=kB_lt hw hc
   have nAB:d.m (kA d c) ≠ d.m (kB d c):=fun e => hw.ne _ ho (Pl.tn_inj (hw.bij.inj _ _ hA hB e).symm)
   have hmt:∀ z,z < 4 * d.n → (jn d.mt (d.m (kA d c)) (d.m (kB d c))).getD z 0 = if z = d.m (kA d c) then d.m (kB d c) else if z = d.m (kB d c) then d.m (kA d c) else d.m z:=fun z hz => by
    rw [jn_jl,Pl.jl_at (by rw [hw.len]; exact hw.lt _ hA) (by rw [hw.len]; exact hw.lt _ hB),Pl.dg_m hw hz]
    by_cases z1:z = d.m (kB d c)
    ·rw [if_pos z1,if_neg (fun e => nAB (e.symm.trans z1)),if_pos z1]
    ·rw [if_neg z1,if_neg z1]
   have v:=Pl.kink_valid hd ho hk2 hn hw.lp hmt
   have s:=Pl.kink_same hd ho hk2 hn hw.lp rfl hmt
   rw [hod] at v s
   exact ⟨v,s⟩
 ·rw [if_neg hk] at h; exact absurd h (by decide)
theorem lens_lens {d:Pl.Dg} (hd:Pl.Wf d) {x y i:Nat} (hxy:x < y) (hy:y < d.n) (h:lensI d x y = some i) :
 Pl.Lens d (lnH x y i) (d.m (lnH x y i)) ∧ ((x = lnH x y i / 4 ∧ y = d.m (lnH x y i) / 4) ∨ (x = d.m (lnH x y i) / 4 ∧ y = lnH x y i / 4)) ∧ Pl.nx d (lnH x y i) = Pl.tn (d.m (lnH x y i)) 3 ∧ d.m (Pl.tn (d.m (lnH x y i)) 3) = Pl.tn (lnH x y i) 1 := by
 obtain ⟨h1,h2,h3⟩:=lens_is h
 have hi:=lens_lt h
 have hl:lnH x y i < 4 * d.n:=by unfold lnH; split <;> omega
 have hu:=hd.lt _ hl
 have e1:d.m (Pl.tn (d.m (lnH x y i)) 3) = Pl.tn (lnH x y i) 1:=by
  unfold Pl.nx at h2
  unfold Pl.tn at h2 ⊢
  omega
 have e2:Pl.nx d (lnH x y i) / 4 = d.m (lnH x y i) / 4:=by unfold Pl.nx; rw [Pl.tn_div]
 have e3:lnH x y i / 4 = if i < 4 then x else y:=by unfold lnH; split <;> omega
 rw [e2] at h1
 unfold lnO at h1
 have hp:(x = lnH x y i / 4 ∧ y = d.m (lnH x y i) / 4) ∨ (x = d.m (lnH x y i) / 4 ∧ y = lnH x y i / 4):=by
  by_cases h4:i < 4
  ·rw [if_pos h4] at h1 e3; exact .inl ⟨e3.symm,h1.symm⟩
  ·rw [if_neg h4] at h1 e3; exact .inr ⟨h1.symm,e3.symm⟩
 refine ⟨⟨hl,rfl,by rw [← e1,hd.inv _ (Pl.tn_lt hu)],fun e => ?_⟩,hp,rfl,e1⟩
 rcases hp with ⟨a,b⟩ | ⟨a,b⟩ <;> omega
theorem unp_at {d:Pl.Dg} (hd:Pl.Valid d) {h u:Nat} (L:Pl.Lens d h u) (l:Ln) (e2:l.p2 = Pl.tn h 2) (e3:l.p3 = Pl.tn h 3) (f0:l.q0 = Pl.tn u 2) (f3:l.q3 = Pl.tn u 1) :
 unpL d l = d.lp + (if d.m (Pl.tn h 2) = Pl.tn u 2 then 1 else 0) + (if Pl.lA d h u (Pl.tn h 3) = Pl.tn u 1 then 1 else 0) ∧
 ∀ z,z < 4 * d.n → z / 4 ≠ h / 4 → z / 4 ≠ u / 4 → (unpB d l).getD z 0 = Pl.lB d h u z := by
 have hw:=hd.wf
 have hh:=L.hh
 have hu:=L.hu hw
 have A:=L.la hd
 have E:=L.ne
 have hA:Pl.tn h 2 < 4 * d.n:=Pl.tn_lt hh
 have hB:Pl.tn u 2 < 4 * d.n:=Pl.tn_lt hu
 have h3:Pl.tn h 3 < 4 * d.n:=Pl.tn_lt hh
 have u1:Pl.tn u 1 < 4 * d.n:=Pl.tn_lt hu
 have al:∀ z,z < 4 * d.n → z ≠ Pl.tn h 2 → z ≠ Pl.tn u 2 → (unpA d l).getD z 0 = Pl.lA d h u z:=fun z hz z1 z2 => by
  unfold unpA
  rw [e2,f0,Pl.dg_m hw hA,Pl.dg_m hw hB]
  by_cases c:d.m (Pl.tn h 2) = Pl.tn u 2
  ·rw [if_pos c,Pl.Lens.lA_c c,Pl.dg_m hw hz]
  ·rw [if_neg c,jn_jl,Pl.jl_at (by rw [hw.len]; exact hw.lt _ hA) (by rw [hw.len]; exact hw.lt _ hB),Pl.dg_m hw hz]
   obtain ⟨b1,b2,b3⟩:=L.lA_e hw c
   by_cases z4:z = d.m (Pl.tn u 2)
   ·rw [if_pos z4,z4,b2]
   ·rw [if_neg z4]
    by_cases z3:z = d.m (Pl.tn h 2)
    ·rw [if_pos z3,z3,b1]
    ·rw [if_neg z3,b3 z z1 z2 z3 z4]
 have alen:(unpA d l).length = 4 * d.n:=by unfold unpA; split <;> simp [jn_len,hw.len]
 have a3:=al (Pl.tn h 3) h3 (Pl.tn_ne (by omega)) (Pl.pm E)
 have a1:=al (Pl.tn u 1) u1 (Ne.symm (Pl.pm E)) (Pl.tn_ne (by omega))
 constructor
 ·unfold unpL
  rw [e2,f0,e3,f3,Pl.dg_m hw hA,a3]
 ·intro z hz n1 n2
  have z0:∀ k,z ≠ Pl.tn h k:=fun k e => n1 (by rw [e,Pl.tn_div])
  have z1:∀ k,z ≠ Pl.tn u k:=fun k e => n2 (by rw [e,Pl.tn_div])
  unfold unpB
  rw [e3,f3,a3,a1]
  by_cases c:Pl.lA d h u (Pl.tn h 3) = Pl.tn u 1
  ·rw [if_pos c,Pl.Lens.lB_c c,al z hz (z0 2) (z1 2)]
  ·rw [if_neg c,jn_jl,Pl.jl_at (by rw [alen]; exact A.hm.ab.maps _ h3) (by rw [alen]; exact A.hm.ab.maps _ u1),al z hz (z0 2) (z1 2)]
   obtain ⟨b1,b2,b3⟩:=L.lB_e hd c
   by_cases z4:z = Pl.lA d h u (Pl.tn u 1)
   ·rw [if_pos z4,z4,b2]
   ·rw [if_neg z4]
    by_cases z3:z = Pl.lA d h u (Pl.tn h 3)
    ·rw [if_pos z3,z3,b1]
    ·rw [if_neg z3,b3 z (z0 3) (z1 1) z3 z4]
theorem unpD_ok {d:Pl.Dg} (hd:Pl.Valid d) {x y:Nat} (hxy:x < y) (hy:y < d.n) (h:unpC d x y = 0):Pl.Valid (unpD d x y) ∧ Pl.Same d (unpD d x y) := by
 unfold unpC at h
 unfold unpD
 cases hL:lensI d x y with
 | none => rw [hL] at h; exact absurd (show (6:Int) = 0 from h) (by decide)
 | some i =>
   rw [hL] at h
   have h':(if 64 < unpL d (lensOf d (lnH x y i)) then (5:Int) else 0) = 0:=h
   have hl:unpL d (lensOf d (lnH x y i)) ≤ 64:=Nat.le_of_not_lt fun e => by rw [if_pos e] at h'; exact absurd h' (by decide)
   obtain ⟨L,hp,e1,e2⟩:=lens_lens hd.wf hxy hy hL
   obtain ⟨g1,g2⟩:=unp_at hd L (lensOf d (lnH x y i)) rfl (by show Pl.tn (d.m (Pl.nx d (lnH x y i))) 2 = _; rw [e1,e2]; exact Pl.tn12 _) rfl (by show Pl.tn (Pl.nx d (lnH x y i)) 2 = _; rw [e1]; exact Pl.tn32 _)
   have hmt:∀ z,Pl.stay d [x,y] z → (unpB d (lensOf d (lnH x y i))).getD z 0 = Pl.lB d (lnH x y i) (d.m (lnH x y i)) z:=fun z hz => by
    have hz2:¬ (z / 4 = x ∨ z / 4 = y):=by have := hz.2; simpa using this
    refine g2 z hz.1 ?_ ?_ <;> rcases hp with ⟨a,b⟩ | ⟨a,b⟩ <;> omega
   exact ⟨L.valid hd hxy hp hl hmt,L.same hd hxy hp hl g1 hmt⟩
theorem sldD_ok {d:Pl.Dg} (hd:Pl.Valid d) {h:Nat} (hh:h < 4 * d.n) (hi:is3 d h):Pl.Valid (sldD d h) ∧ Pl.Same d (sldD d h) :=
 have hw:=(Pl.Valid.iff.1 hd).1
 ⟨sld_valid hd hh hi,(tr_of hh hi).same hd rfl rfl (sF_len hw h 3) (sld_m hw hh hi)⟩
end Go.Proofs.YtghdiolnonejaaaDoor
end
section
namespace Go.Proofs.YtghdiolnonejaaaDoor
open Go Go.RowKit
theorem fwd_nat (d:Pl.Dg) (x:Nat):fwd d (x:Int) = Pl.out d x := by
 unfold fwd
 rw [if_neg (by omega),if_pos (by omega),Int.toNat_natCast]
theorem plc_pp (n s t:Nat) (h:s ≤ 4):plc n s t = Pl.pp n (4 - s) t := by unfold plc Pl.pp; omega
theorem unS_le (d:Pl.Dg) (x y:Int) (ov:Bool):un0 d x y ov ≤ 4 ∧ un1 d x y ov ≤ 4 := by
 unfold un0 un1 lnS th0 th1
 cases ov <;> cases fwd d x <;> cases fwd d y <;> decide
def pkF (d:Pl.Dg) (x y:Int) (ov:Bool):Nat := 4 - un0 d x y ov
def pkG (d:Pl.Dg) (x y:Int) (ov:Bool):Nat := 4 - un1 d x y ov
theorem pP_pp (d:Pl.Dg) (x y:Int) (ov:Bool) (t:Nat):pP d x y ov t = Pl.pp d.n (pkF d x y ov) t := plc_pp _ _ _ (unS_le d x y ov).1
theorem pQ_pp (d:Pl.Dg) (x y:Int) (ov:Bool) (t:Nat):pQ d x y ov t = Pl.pp (d.n + 1) (pkG d x y ov) t := plc_pp _ _ _ (unS_le d x y ov).2
theorem pk0_l0 (d:Pl.Dg) (x y:Int) (ov:Bool):pk0 d x y ov = Pl.pkL0 d (pkF d x y ov) (pkG d x y ov) := by
 unfold pk0 Pl.pkL0
 rw [pP_pp,pQ_pp,pQ_pp,pP_pp]
 rfl
theorem app_s0 (l:List Int) (a b:Int) (c:Nat) (h:c < l.length):(l ++ [a,b]).getD c 0 = l.getD c 0 := by
 rw [List.getD_eq_getElem?_getD,List.getD_eq_getElem?_getD,List.getElem?_append_left h]
theorem app_s1 (l:List Int) (a b:Int):(l ++ [a,b]).getD l.length 0 = a := by
 rw [List.getD_eq_getElem?_getD,List.getElem?_append_right (Nat.le_refl _)]; simp
theorem app_s2 (l:List Int) (a b:Int):(l ++ [a,b]).getD (l.length + 1) 0 = b := by
 rw [List.getD_eq_getElem?_getD,List.getElem?_append_right (by omega)]; simp
theorem out_pp (d:Pl.Dg) (n f t:Nat):Pl.out d (Pl.pp n f t) = ((t + f) % 4 == 2 || ((t + f) % 4 == 1 && d.s n == 1) || ((t + f) % 4 == 3 && d.s n == -1)) := by
 unfold Pl.out
 rw [show Pl.pp n f t % 4 = (t + f) % 4 by unfold Pl.pp; omega,show Pl.pp n f t / 4 = n by unfold Pl.pp; omega]
theorem pk_pd {d:Pl.Dg} (hd:Pl.Valid d) (x y sg:Int) (ov:Bool) (hn:d.n + 2 ≤ 64) (hl:(pkL d x y sg).toNat ≤ 64):Pl.Pd d (pkD d x y sg ov) (pkF d x y ov) (pkG d x y ov) (fwd d x) (fwd d y) := by
 have s0:(pkD d x y sg ov).s d.n = sgn2 (un0 d x y ov) (ov0 d x y ov):=app_s1 _ _ _
 have s1:(pkD d x y sg ov).s (d.n + 1) = sgn2 (un1 d x y ov) (ov1 d x y ov):=app_s2 _ _ _
 refine ⟨hn,by unfold Pl.Dg.n pkD; simp,hl,fun c hc => app_s0 _ _ _ _ hc,by rw [s0]; unfold sgn2; split <;> simp,by rw [s1]; unfold sgn2; split <;> simp,?_,?_,?_,?_,?_,?_,?_,?_⟩
 all_goals
  rw [out_pp]
  first
   | rw [s0]
   | rw [s1]
  try unfold pkF
  try unfold pkG
  try unfold sgn2
  try unfold un0
  try unfold un1
  try unfold ov0
  try unfold ov1
  try unfold lnS
  try unfold th0
  try unfold th1
  try unfold plc
  cases ov <;> cases fwd d x <;> cases fwd d y <;> decide
theorem pk_ok {d:Pl.Dg} (hd:Pl.Valid d) {x y sg:Int} {ov:Bool} (hin:inR d.n ⟨3,x,y,sg,ov⟩) (h:pkQ d x y sg = 0):Pl.Valid (pkD d x y sg ov) ∧ Pl.Same d (pkD d x y sg ov) ∧
 ∃ c1 c2,Pl.Out d (pkD d x y sg ov) (pkF d x y ov) (pkG d x y ov) c1 c2 ∧ d.lp = (pkD d x y sg ov).lp + c1 + c2 := by
 have hw:=hd.wf
 have hlp:=hw.lp
 unfold inR at hin
 simp only at hin
 rw [if_neg (by decide),if_neg (by decide),if_neg (by decide),if_neg (by decide)] at hin
 obtain ⟨x1,x2,y1,y2,hs⟩:=hin
 unfold pkQ at h
 have hneed:¬ d.lp < needP x y sg:=fun e => by rw [if_pos e] at h; exact absurd h (by decide)
 rw [if_neg hneed] at h
 have hnear:¬ Pl.vb (0 ≤ x ∧ 0 ≤ y ∧ x ≠ y ∧ ¬ nearP d x.toNat y.toNat) = true:=fun e => by rw [if_pos e] at h; exact absurd h (by decide)
 rw [if_neg hnear] at h
 have hn:d.n + 2 ≤ 64:=Nat.le_of_not_lt fun e => by rw [if_pos e] at h; exact absurd h (by decide)
 rw [Pl.vb_iff] at hnear
 unfold needP at hneed
 have mt:(pkD d x y sg ov).mt = pkM d x y sg ov:=rfl
 have lpe:(pkD d x y sg ov).lp = (pkL d x y sg).toNat:=rfl
 by_cases hs0:sg = 0
 ·subst hs0
  have eM:pkM d x y 0 ov = leadM d (leadM d (pk0 d x y ov) y (pQ d x y ov 0) (pP d x y ov 2)) x (pP d x y ov 3) (pQ d x y ov 3):=by
   unfold pkM; rw [if_neg (by simp),if_neg (by decide),if_neg (by decide)]
  rw [eM,pk0_l0,pQ_pp,pP_pp,pP_pp,pQ_pp] at mt
  by_cases hx:x < 0 <;> by_cases hy:y < 0
  ·rw [if_pos hx,if_pos ⟨hy,rfl⟩] at hneed
   have eL:(pkL d x y 0).toNat = d.lp - 2:=by unfold pkL; simp [hx,hy]; try omega
   have K:=pk_pd hd x y 0 ov hn (by rw [eL]; omega)
   have mt':=mt
   unfold leadM at mt'
   rw [if_pos hx,if_pos hy] at mt'
   have Y:=K.yloop hd
   have v:=Y.1.xloop hd K mt'
   have O:=K.out_loops hd v mt'
   exact ⟨v,O.same hd v (by rw [lpe,eL]; omega),1,1,O,by rw [lpe,eL]; omega⟩
  ·obtain ⟨k,rfl⟩:=Int.eq_ofNat_of_zero_le (Int.not_lt.1 hy)
   have hk:k < 4 * d.n:=by omega
   rw [if_pos hx,if_neg (fun e => hy e.1)] at hneed
   have eL:(pkL d x (k:Int) 0).toNat = d.lp - 1:=by unfold pkL; simp [hx,hy]; try omega
   have K:=pk_pd hd x (k:Int) 0 ov hn (by rw [eL]; omega)
   have mt':=mt
   unfold leadM at mt'
   rw [if_pos hx,if_neg hy,Int.toNat_natCast] at mt'
   obtain ⟨b,Y,_⟩:=K.yedge hd hk (fwd_nat d k).symm
   have v:=Y.xloop hd K mt'
   have O:=K.out_yedge hd v hk mt'
   exact ⟨v,O.same hd v (by rw [lpe,eL]; omega),0,1,O,by rw [lpe,eL]; omega⟩
  ·obtain ⟨k,rfl⟩:=Int.eq_ofNat_of_zero_le (Int.not_lt.1 hx)
   have hk:k < 4 * d.n:=by omega
   rw [if_neg hx,if_pos ⟨hy,rfl⟩] at hneed
   have eL:(pkL d (k:Int) y 0).toNat = d.lp - 1:=by unfold pkL; simp [hx,hy]; try omega
   have K:=pk_pd hd (k:Int) y 0 ov hn (by rw [eL]; omega)
   have mt':=mt
   unfold leadM at mt'
   rw [if_neg hx,if_pos hy,Int.toNat_natCast] at mt'
   have Y:=K.yloop hd
   have v:=Y.1.xedge0 hd K Y.2 hk (fwd_nat d k).symm mt'
   have O:=K.out_xedge hd v hk mt'
   exact ⟨v,O.same hd v (by rw [lpe,eL]; omega),1,0,O,by rw [lpe,eL]; omega⟩
  ·obtain ⟨k,rfl⟩:=Int.eq_ofNat_of_zero_le (Int.not_lt.1 hx)
   obtain ⟨j,rfl⟩:=Int.eq_ofNat_of_zero_le (Int.not_lt.1 hy)
   have hk:k < 4 * d.n:=by omega
   have hj:j < 4 * d.n:=by omega
   have hne:(k:Int) ≠ (j:Int):=fun e => by rw [if_neg (fun n => n e),if_neg hx] at hs; omega
   have hkj:k ≠ j:=fun e => hne (by rw [e])
   have near:nearP d k j:=Classical.byContradiction fun e => hnear ⟨by omega,by omega,hne,by rw [Int.toNat_natCast,Int.toNat_natCast]; exact e⟩
   have eL:(pkL d (k:Int) (j:Int) 0).toNat = d.lp:=by unfold pkL; simp [hx,hy]
   have K:=pk_pd hd (k:Int) (j:Int) 0 ov hn (by rw [eL]; omega)
   have mt':=mt
   unfold leadM at mt'
   rw [if_neg hx,if_neg hy,Int.toNat_natCast,Int.toNat_natCast] at mt'
   have v:=K.edges hd hk hj (fwd_nat d k).symm (fwd_nat d j).symm hkj near.2 near.1 mt'
   have O:=K.out_edges hd v hk hj hkj near.2 mt'
   exact ⟨v,O.same hd v (by rw [lpe,eL]; omega),0,0,O,by rw [lpe,eL]; omega⟩
 ·have hxy:x = y:=Classical.byContradiction fun e => hs0 (by rw [if_pos e] at hs; exact hs)
  subst hxy
  rw [if_neg (by simp)] at hs
  by_cases hx:x < 0
  ·rw [if_pos hx] at hs
   have eM:pkM d x x sg ov = jn (jn (pk0 d x x ov) (pQ d x x ov 3) (pQ d x x ov 0)) (pP d x x ov 2) (pP d x x ov 3):=by unfold pkM; rw [if_pos ⟨hs0,hx⟩]
   rw [eM,pk0_l0,pQ_pp,pQ_pp,pP_pp,pP_pp] at mt
   rw [if_pos hx,if_neg (fun e => hs0 e.2)] at hneed
   have eL:(pkL d x x sg).toNat = d.lp - 1:=by unfold pkL; rw [if_pos ⟨hs0,hx⟩]; omega
   have K:=pk_pd hd x x sg ov hn (by rw [eL]; omega)
   have v:=K.self0 hd mt
   have O:=K.out_self0 hd v mt
   exact ⟨v,O.same hd v (by rw [lpe,eL]; omega),0,1,O,by rw [lpe,eL]; omega⟩
  ·rw [if_neg hx] at hs
   obtain ⟨k,rfl⟩:=Int.eq_ofNat_of_zero_le (Int.not_lt.1 hx)
   have hk:k < 4 * d.n:=by omega
   have eL:(pkL d (k:Int) (k:Int) sg).toNat = d.lp:=by unfold pkL; rw [if_neg (fun e => hx e.2),if_neg hs0]; omega
   have K:=pk_pd hd (k:Int) (k:Int) sg ov hn (by rw [eL]; omega)
   rcases hs with rfl | rfl
   ·have eM : pkM d (k : Int) (k : Int) 1 ov = jn (jn (jn (pk0 d (k : Int) (k : Int) ov) k (pP d (k : Int) (k : Int) ov 3)) (pQ d (k : Int) (k : Int) ov 3) (pQ d (k : Int) (k : Int) ov 0)) (pP d (k : Int) (k : Int) ov 2) (d.m k) := by
     unfold pkM; rw [if_neg (fun e => hx e.2),if_pos rfl,Int.toNat_natCast]
    rw [eM,pk0_l0,pQ_pp,pQ_pp,pP_pp,pP_pp] at mt
    have v:=K.self1 hd hk (fwd_nat d k).symm mt
    have O:=K.out_self1 hd v hk mt
    exact ⟨v,O.same hd v (by rw [lpe,eL]; omega),0,0,O,by rw [lpe,eL]; omega⟩
   ·have eM : pkM d (k : Int) (k : Int) (-1) ov = jn (jn (jn (pk0 d (k : Int) (k : Int) ov) k (pQ d (k : Int) (k : Int) ov 0)) (pP d (k : Int) (k : Int) ov 2) (pP d (k : Int) (k : Int) ov 3)) (pQ d (k : Int) (k : Int) ov 3) (d.m k) := by
     unfold pkM; rw [if_neg (fun e => hx e.2),if_neg (by decide),if_pos rfl,Int.toNat_natCast]
    rw [eM,pk0_l0,pQ_pp,pQ_pp,pP_pp,pP_pp] at mt
    have v:=K.self2 hd hk (fwd_nat d k).symm mt
    have O:=K.out_self2 hd v hk mt
    exact ⟨v,O.same hd v (by rw [lpe,eL]; omega),0,0,O,by rw [lpe,eL]; omega⟩
theorem ap_ok {d:Pl.Dg} (hd:Pl.Valid d) {m:Mv} (h:apC d m = 0):Pl.Valid (apD d m) ∧ Pl.Same d (apD d m) := by
 obtain ⟨hk,hin,hc⟩:=apC_zero h
 obtain ⟨k,x,y,s,o⟩:=m
 simp only at hk hc
 have hk5:k = 1 ∨ k = 2 ∨ k = 3 ∨ k = 4 ∨ k = 5:=by omega
 rcases hk5 with rfl | rfl | rfl | rfl | rfl
 ·have hb:(-1 ≤ x ∧ x < 4 * d.n) ∧ (s = 1 ∨ s = -1):=by unfold inR at hin; simp at hin; exact ⟨⟨hin.1,hin.2.1⟩,hin.2.2.2⟩
  exact crl_ok hd hb.1 hb.2 hc
 ·obtain ⟨c,rfl⟩:=Int.eq_ofNat_of_zero_le (show 0 ≤ x by unfold inR at hin; simp at hin; omega)
  have hcn:c < d.n:=by unfold inR at hin; simp at hin; omega
  exact unD_ok hd hcn hc
 ·have:=pk_ok hd hin hc
  exact ⟨this.1,this.2.1⟩
 ·obtain ⟨a,rfl⟩:=Int.eq_ofNat_of_zero_le (show 0 ≤ x by unfold inR at hin; simp at hin; omega)
  obtain ⟨b,rfl⟩:=Int.eq_ofNat_of_zero_le (show 0 ≤ y by unfold inR at hin; simp at hin; omega)
  have hab:a < b ∧ b < d.n:=by unfold inR at hin; simp at hin; omega
  exact unpD_ok hd hab.1 hab.2 hc
 ·obtain ⟨c,rfl⟩:=Int.eq_ofNat_of_zero_le (show 0 ≤ x by unfold inR at hin; simp at hin; omega)
  have hcn:c < 4 * d.n:=by unfold inR at hin; simp at hin; omega
  have hc':sldC d c = 0:=hc
  have ht:isT d c:=Classical.byContradiction fun e => by unfold sldC at hc'; rw [if_neg e] at hc'; exact absurd hc' (by decide)
  exact sldD_ok hd hcn ht.1
end Go.Proofs.YtghdiolnonejaaaDoor
end
section
namespace Go.Proofs.YtghdiolnonejaaaDoor
open Go Go.RowKit
noncomputable def dn:Nat → Pl.Dg → Pl.Dg × List Mv
 | 0,d => (d,[])
 | k + 1, d => match remL d with
   | [] => (d,[])
   | z :: _ => ((dn k (apD d z)).1,z :: (dn k (apD d z)).2)
noncomputable def dnD (d:Pl.Dg):Pl.Dg := (dn d.n d).1
noncomputable def dnM (d:Pl.Dg):List Mv := (dn d.n d).2
theorem dn_none {d:Pl.Dg} (h:remL d = []):∀ k,dn k d = (d,[])
 | 0 => rfl
 | k + 1 => by unfold dn; rw [h]
theorem dn_some {d:Pl.Dg} {z:Mv} {l:List Mv} (h:remL d = z :: l) (k:Nat):dn (k + 1) d = ((dn k (apD d z)).1,z :: (dn k (apD d z)).2) := by
 rw [dn,h]
theorem rem_ok {d:Pl.Dg} {z:Mv} (h:z ∈ remL d):apC d z = 0 ∧ (z.kind = 2 ∨ z.kind = 4) := by
 unfold remL at h
 rcases List.mem_append.1 h with h | h
 ·exact ⟨(mem_sel.1 h).2,.inl (un_kind h)⟩
 ·exact ⟨(mem_sel.1 h).2,.inr (up_kind h)⟩
theorem rem_less {d:Pl.Dg} (hd:Pl.Valid d) {z:Mv} (h:z ∈ remL d):(apD d z).n + 1 ≤ d.n := by
 obtain ⟨h1,h2⟩:=rem_ok h
 have e:((apD d z).n:Int) = (d.n:Int) + moreK z:=(signs_law hd z h1).2.1
 obtain ⟨a,ha⟩:∃ a,a = (apD d z).n := ⟨_,rfl⟩
 obtain ⟨b,hb⟩:∃ b,b = d.n := ⟨_,rfl⟩
 rw [← ha,← hb] at e ⊢
 unfold moreK at e
 rcases h2 with h2 | h2 <;> simp [h2] at e <;> omega
theorem rem_flat {d:Pl.Dg} (hn:d.n = 0):remL d = [] := by
 unfold remL
 rw [hn]
 rfl
theorem dn_more {d:Pl.Dg} (hd:Pl.Valid d):∀ k,d.n ≤ k → dn k d = dn d.n d := by
 suffices h:∀ n,∀ d:Pl.Dg,Pl.Valid d → d.n ≤ n → ∀ k j,d.n ≤ k → d.n ≤ j → dn k d = dn j d from fun k hk => h d.n d hd (Nat.le_refl _) k d.n hk (Nat.le_refl _)
 intro n
 induction n with
 | zero =>
   intro d hd h0 k j _ _
   have e:=rem_flat (d := d) (by omega)
   rw [dn_none e,dn_none e]
 | succ n ih =>
   intro d hd hn k j hk hj
   cases hr:remL d with
   | nil => rw [dn_none hr,dn_none hr]
   | cons z l =>
     have hz:z ∈ remL d:=by rw [hr]; exact List.mem_cons_self
     have hl:=rem_less hd hz
     have hv:=(ap_ok hd (rem_ok hz).1).1
     obtain ⟨k',rfl⟩:∃ k',k = k' + 1 := ⟨k - 1,by omega⟩
     obtain ⟨j',rfl⟩:∃ j',j = j' + 1 := ⟨j - 1,by omega⟩
     rw [dn_some hr,dn_some hr,ih _ hv (by omega) k' j' (by omega) (by omega)]
theorem dn_next {d:Pl.Dg} (hd:Pl.Valid d) {z:Mv} {l:List Mv} (h:remL d = z :: l):dnD d = dnD (apD d z) ∧ dnM d = z :: dnM (apD d z) := by
 have hz:z ∈ remL d:=by rw [h]; exact List.mem_cons_self
 have hl:=rem_less hd hz
 have hv:=(ap_ok hd (rem_ok hz).1).1
 obtain ⟨k,hk⟩:∃ k,d.n = k + 1 := ⟨d.n - 1,by omega⟩
 unfold dnD dnM
 rw [hk,dn_some h,dn_more hv k (by omega)]
 exact ⟨rfl,rfl⟩
theorem dn_stop {d:Pl.Dg} (h:remL d = []):dnD d = d ∧ dnM d = [] := by
 unfold dnD dnM
 rw [dn_none h]
 exact ⟨rfl,rfl⟩
theorem dnM_nil {d:Pl.Dg} (hd:Pl.Valid d):dnM d = [] ↔ remL d = [] := by
 constructor
 ·intro h
  cases hr:remL d with
  | nil => rfl
  | cons z l => rw [(dn_next hd hr).2] at h; cases h
 ·exact fun h => (dn_stop h).2
def dgL (l:Nat):Pl.Dg := ⟨[],[],l⟩
def dgT:Pl.Dg := ⟨[1,-1],[6,5,4,7,2,1,0,3],0⟩
theorem dgL_valid (l:Nat) (hl:l ≤ 64):Pl.Valid (dgL l) := valid_empty hl
theorem dgT_is:apC (dgL 2) ⟨3,-2,-2,0,true⟩ = 0 ∧ apD (dgL 2) ⟨3,-2,-2,0,true⟩ = dgT := by
 constructor
 ·rw [apC_in (by decide) (by unfold inR; decide)]
  rw [if_neg (by decide),if_neg (by decide),if_pos rfl]
  unfold pkQ
  rw [if_neg (by decide),if_neg (by rw [Pl.vb_iff]; intro h; exact absurd h.1 (by decide)),if_neg (by decide)]
 ·decide
theorem dgT_valid:Pl.Valid dgT := by
 rw [← dgT_is.2]
 exact (ap_ok (dgL_valid 2 (by omega)) dgT_is.1).1
theorem dgT_rem:remL dgT = [⟨4,0,1,0,false⟩] := by
 unfold remL
 show sel dgT [⟨2,(0:Nat),0,0,false⟩,⟨2,(1:Nat),0,0,false⟩] ++ sel dgT [⟨4,(0:Nat),(1:Nat),0,false⟩] = _
 rw [sel_cons,sel_cons,sel_cons,sel_nil,un_code (d := dgT) (c := 0) (by decide),un_code (d := dgT) (c := 1) (by decide),up_code (d := dgT) (x := 0) (y := 1) (by decide) (by decide),one_no (show ¬ uncC dgT 0 = 0 by decide),one_no (show ¬ uncC dgT 1 = 0 by decide),one_yes (show unpC dgT 0 1 = 0 by decide)]
 rfl
theorem dgT_ap:apD dgT ⟨4,0,1,0,false⟩ = dgL 2 := by decide
theorem dgT_dn:dnD dgT = dgL 2 ∧ dnM dgT = [⟨4,0,1,0,false⟩] := by
 obtain ⟨h1,h2⟩:=dn_next dgT_valid dgT_rem
 obtain ⟨h3,h4⟩:=dn_stop (d := dgL 2) (rem_flat rfl)
 rw [h1,h2,dgT_ap,h3,h4]
 exact ⟨rfl,rfl⟩
theorem tref_rem:remL Pl.tref = [] := by
 unfold remL
 show sel Pl.tref [⟨2,(0:Nat),0,0,false⟩,⟨2,(1:Nat),0,0,false⟩,⟨2,(2:Nat),0,0,false⟩] ++ sel Pl.tref [⟨4,(0:Nat),(1:Nat),0,false⟩,⟨4,(0:Nat),(2:Nat),0,false⟩,⟨4,(1:Nat),(2:Nat),0,false⟩] = _
 rw [sel_cons,sel_cons,sel_cons,sel_cons,sel_cons,sel_cons,sel_nil,un_code (d := Pl.tref) (c := 0) (by decide),un_code (d := Pl.tref) (c := 1) (by decide),un_code (d := Pl.tref) (c := 2) (by decide),up_code (d := Pl.tref) (x := 0) (y := 1) (by decide) (by decide),up_code (d := Pl.tref) (x := 0) (y := 2) (by decide) (by decide),up_code (d := Pl.tref) (x := 1) (y := 2) (by decide) (by decide),one_no (show ¬ uncC Pl.tref 0 = 0 by decide),one_no (show ¬ uncC Pl.tref 1 = 0 by decide),one_no (show ¬ uncC Pl.tref 2 = 0 by decide),one_no (show ¬ unpC Pl.tref 0 1 = 0 by decide),one_no (show ¬ unpC Pl.tref 0 2 = 0 by decide),one_no (show ¬ unpC Pl.tref 1 2 = 0 by decide)]
 rfl
end Go.Proofs.YtghdiolnonejaaaDoor
end
section
namespace Go.Proofs.YtghdiolnonejaaaDoor
open Go Go.RowKit
open Classical in
noncomputable def fF (d:Pl.Dg) (a a' b b':Nat):Nat :=
 (if d.m a = a' then 1 else 0) + (if d.m b = b' then 1 else 0) + (if d.m a = b ∧ d.m a' = b' then 1 else 0) + (if d.m a = b' ∧ d.m a' = b then 1 else 0)
theorem mt_m {d:Pl.Dg} (hd:Pl.Wf d) {h:Nat} (hh:h < 4 * d.n):d.mt.getD h 0 = d.m h := by
 have hl:=hd.len
 unfold Pl.Dg.m
 rw [List.getD_eq_getElem?_getD,List.getD_eq_getElem?_getD,List.getElem?_eq_getElem (by omega)]
 rfl
theorem unpL_f {d:Pl.Dg} (hd:Pl.Wf d) {h:Nat} (hh:h < 4 * d.n) (hne:h / 4 ≠ d.m h / 4) (hc:d.m (Pl.nx d h) = Pl.tn h 1) :
 unpL d (lensOf d h) = d.lp + fF d (Pl.tn h 2) (Pl.tn (d.m h) 2) (Pl.tn h 3) (Pl.tn (d.m h) 1) := by
 have hk:=hd.lt h hh
 have e1:(lensOf d h).p2 = Pl.tn h 2:=rfl
 have e2:(lensOf d h).q0 = Pl.tn (d.m h) 2:=rfl
 have e3:(lensOf d h).p3 = Pl.tn h 3:=by show Pl.tn (d.m (Pl.nx d h)) 2 = _; rw [hc,Pl.tn_tn]
 have e4:(lensOf d h).q3 = Pl.tn (d.m h) 1:=by show Pl.tn (Pl.tn (d.m h) 3) 2 = _; rw [Pl.tn_tn,← Pl.tn_mod4]
 unfold unpL unpA
 rw [e1,e2,e3,e4]
 obtain ⟨a,ha⟩:∃ a,a = Pl.tn h 2 := ⟨_,rfl⟩
 obtain ⟨a',ha'⟩:∃ a,a = Pl.tn (d.m h) 2 := ⟨_,rfl⟩
 obtain ⟨b,hb⟩:∃ a,a = Pl.tn h 3 := ⟨_,rfl⟩
 obtain ⟨b',hb'⟩:∃ a,a = Pl.tn (d.m h) 1 := ⟨_,rfl⟩
 have la:a < 4 * d.n:=by rw [ha]; exact Pl.tn_lt hh
 have la':a' < 4 * d.n:=by rw [ha']; exact Pl.tn_lt hk
 have lb:b < 4 * d.n:=by rw [hb]; exact Pl.tn_lt hh
 have lb':b' < 4 * d.n:=by rw [hb']; exact Pl.tn_lt hk
 have n1:a ≠ b:=by rw [ha,hb]; unfold Pl.tn; omega
 have n2:a' ≠ b':=by rw [ha',hb']; unfold Pl.tn; omega
 have n3:a ≠ a':=by rw [ha,ha']; intro e; apply hne; rw [← Pl.tn_div h 2,e,Pl.tn_div]
 have n4:a ≠ b':=by rw [ha,hb']; intro e; apply hne; rw [← Pl.tn_div h 2,e,Pl.tn_div]
 have n5:b ≠ a':=by rw [hb,ha']; intro e; apply hne; rw [← Pl.tn_div h 3,e,Pl.tn_div]
 have n6:b ≠ b':=by rw [hb,hb']; intro e; apply hne; rw [← Pl.tn_div h 3,e,Pl.tn_div]
 rw [← ha,← ha',← hb,← hb',mt_m hd la,mt_m hd la']
 have iv:∀ {p q:Nat},p < 4 * d.n → d.m p = q → d.m q = p:=fun hp e => by rw [← e]; exact hd.inv _ hp
 have lma:=hd.lt a la
 have lma':=hd.lt a' la'
 unfold fF
 by_cases h1:d.m a = a'
 ·rw [if_pos h1,if_pos h1,mt_m hd lb,if_neg (show ¬ (d.m a = b ∧ d.m a' = b') from fun e => n5 (by rw [← e.1,h1])),if_neg (show ¬ (d.m a = b' ∧ d.m a' = b) from fun e => n2 (by rw [← e.1,h1]))]
  omega
 ·rw [if_neg h1,if_neg h1,jn_get (by rw [hd.len]; exact lma) (by rw [hd.len]; exact lma')]
  by_cases h2:b = d.m a'
  ·rw [if_pos h2]
   have h2':=iv la' h2.symm
   rw [if_neg (show ¬ d.m b = b' from fun e => n2 (by rw [← h2',e])),if_neg (show ¬ (d.m a = b ∧ d.m a' = b') from fun e => n6 (by rw [← e.2,h2]))]
   by_cases h3:d.m a = b'
   ·rw [if_pos h3,if_pos ⟨h3,h2.symm⟩]
   ·rw [if_neg h3,if_neg (fun e => h3 e.1)]
  ·rw [if_neg h2,if_neg (show ¬ (d.m a = b' ∧ d.m a' = b) from fun e => h2 e.2.symm)]
   by_cases h3:b = d.m a
   ·rw [if_pos h3]
    have h3':=iv la h3.symm
    rw [if_neg (show ¬ d.m b = b' from fun e => n4 (by rw [← h3',e]))]
    by_cases h4:d.m a' = b'
    ·rw [if_pos h4,if_pos ⟨h3.symm,h4⟩]
    ·rw [if_neg h4,if_neg (fun e => h4 e.2)]
   ·rw [if_neg h3,mt_m hd lb,if_neg (show ¬ (d.m a = b ∧ d.m a' = b') from fun e => h3 e.1.symm)]
    omega
def Ls (d:Pl.Dg) (x y h:Nat):Prop := h / 4 = x ∧ d.m h / 4 = y ∧ d.m (Pl.tn (d.m h) 3) = Pl.tn h 1 ∧ h % 2 = d.m h % 2
theorem ls_of {d:Pl.Dg} (hd:Pl.Wf d) {h y:Nat} (hh:h < 4 * d.n):(Pl.nx d h / 4 = y ∧ Pl.nx d (Pl.nx d h) = h ∧ h % 2 = d.m h % 2) ↔ Ls d (h / 4) y h := by
 unfold Ls Pl.nx
 rw [Pl.tn_div]
 constructor
 ·rintro ⟨h1,h2,h3⟩
  refine ⟨rfl,h1,?_,h3⟩
  have:Pl.tn (d.m (Pl.tn (d.m h) 3)) 3 = Pl.tn (Pl.tn h 1) 3:=by rw [h2,Pl.tn_tn,Pl.tn_four]
  exact Pl.tn_inj this
 ·rintro ⟨_,h1,h2,h3⟩
  exact ⟨h1,by rw [h2,Pl.tn_tn,Pl.tn_four],h3⟩
noncomputable def lpF (d:Pl.Dg) (h:Nat):Nat := fF d (Pl.tn h 2) (Pl.tn (d.m h) 2) (Pl.tn h 3) (Pl.tn (d.m h) 1)
theorem ls_turn {d:Pl.Dg} (hd:Pl.Wf d) {x y h:Nat} (hh:h < 4 * d.n) (L:Ls d x y h):Ls d y x (Pl.tn (d.m h) 3) ∧ lpF d (Pl.tn (d.m h) 3) = lpF d h := by
 obtain ⟨h1,h2,h3,h4⟩:=L
 have hk:=hd.lt h hh
 have iv:∀ {p q:Nat},p < 4 * d.n → d.m p = q → d.m q = p:=fun hp e => by rw [← e]; exact hd.inv _ hp
 obtain ⟨k,hk2⟩:∃ k,k = d.m h := ⟨_,rfl⟩
 have hik:=iv hh hk2.symm
 rw [← hk2] at h2 h3 h4 hk ⊢
 refine ⟨⟨by rw [Pl.tn_div]; exact h2,by rw [h3,Pl.tn_div]; exact h1,?_,by rw [h3]; unfold Pl.tn; omega⟩,?_⟩
 ·rw [h3,Pl.tn_tn,Pl.tn_four,Pl.tn_tn,Pl.tn_four,← hk2]
 ·have l1:∀ j,Pl.tn h j < 4 * d.n:=fun j => Pl.tn_lt hh
  have l2:∀ j,Pl.tn k j < 4 * d.n:=fun j => Pl.tn_lt hk
  have t5:Pl.tn k 5 = Pl.tn k 1:=by rw [← Pl.tn_mod4]
  have t6:Pl.tn k 6 = Pl.tn k 2:=by rw [← Pl.tn_mod4]
  unfold lpF
  rw [h3,← hk2,Pl.tn_tn,Pl.tn_tn,Pl.tn_tn,Pl.tn_tn,t5,t6]
  unfold fF
  have s1:(d.m (Pl.tn k 1) = Pl.tn h 3) = (d.m (Pl.tn h 3) = Pl.tn k 1):=propext ⟨iv (l2 1),iv (l1 3)⟩
  have s2:(d.m (Pl.tn k 2) = Pl.tn h 2) = (d.m (Pl.tn h 2) = Pl.tn k 2):=propext ⟨iv (l2 2),iv (l1 2)⟩
  have s3:(d.m (Pl.tn k 1) = Pl.tn k 2 ∧ d.m (Pl.tn h 3) = Pl.tn h 2) = (d.m (Pl.tn h 2) = Pl.tn h 3 ∧ d.m (Pl.tn k 2) = Pl.tn k 1):=propext ⟨fun e => ⟨iv (l1 3) e.2,iv (l2 1) e.1⟩,fun e => ⟨iv (l2 2) e.2,iv (l1 2) e.1⟩⟩
  have s4:(d.m (Pl.tn k 1) = Pl.tn h 2 ∧ d.m (Pl.tn h 3) = Pl.tn k 2) = (d.m (Pl.tn h 2) = Pl.tn k 1 ∧ d.m (Pl.tn k 2) = Pl.tn h 3):=propext ⟨fun e => ⟨iv (l2 1) e.1,iv (l1 3) e.2⟩,fun e => ⟨iv (l1 2) e.1,iv (l2 2) e.2⟩⟩
  simp only [s1,s2,s3,s4]
  omega
theorem ls_same {d:Pl.Dg} (hd:Pl.Wf d) {x y h g:Nat} (hxy:x ≠ y) (hh:h < 4 * d.n) (hg:g < 4 * d.n) (L:Ls d x y h) (M:Ls d x y g):lpF d g = lpF d h := by
 obtain ⟨h1,h2,h3,h4⟩:=L
 obtain ⟨g1,g2,g3,g4⟩:=M
 have hk:=hd.lt h hh
 have iv:∀ {p q:Nat},p < 4 * d.n → d.m p = q → d.m q = p:=fun hp e => by rw [← e]; exact hd.inv _ hp
 obtain ⟨k,hk2⟩:∃ k,k = d.m h := ⟨_,rfl⟩
 have hik:=iv hh hk2.symm
 rw [← hk2] at h2 h3 h4 hk
 have l1:∀ j,Pl.tn h j < 4 * d.n:=fun j => Pl.tn_lt hh
 have l2:∀ j,Pl.tn k j < 4 * d.n:=fun j => Pl.tn_lt hk
 have t5:∀ z,Pl.tn z 5 = Pl.tn z 1:=fun z => by rw [← Pl.tn_mod4]
 have t6:∀ z,Pl.tn z 6 = Pl.tn z 2:=fun z => by rw [← Pl.tn_mod4]
 have ne:∀ i j,Pl.tn h i ≠ Pl.tn k j:=fun i j e => hxy (by rw [← h1,← h2,← Pl.tn_div h i,e,Pl.tn_div])
 have ne2:∀ i j,Pl.tn k i ≠ Pl.tn h j:=fun i j e => ne j i e.symm
 have nk:∀ i j,i % 4 ≠ j % 4 → Pl.tn k i ≠ Pl.tn k j:=fun i j e => Pl.tn_ne e
 have cases4:g = Pl.tn h 0 ∨ g = Pl.tn h 1 ∨ g = Pl.tn h 2 ∨ g = Pl.tn h 3:=by unfold Pl.tn; omega
 have m1:d.m (Pl.tn h 1) = Pl.tn k 3:=iv (l2 3) h3
 rcases cases4 with e | e | e | e
 ·rw [e,Pl.tn_zero]
 ·-- the corner behind: strand 1 closes at once
  rw [e,m1] at g3
  rw [Pl.tn_tn,Pl.tn_tn,t6] at g3
  have m2:d.m (Pl.tn h 2) = Pl.tn k 2:=iv (l2 2) g3
  unfold lpF
  rw [e,m1,← hk2,Pl.tn_tn,Pl.tn_tn,Pl.tn_tn,Pl.tn_tn,t5,Pl.tn_four,Pl.tn_four]
  unfold fF
  have z1:¬ (d.m (Pl.tn h 3) = h ∧ d.m (Pl.tn k 1) = k):=fun f => by
   have:=iv (l1 3) f.1
   rw [← hk2] at this
   exact ne 3 0 (by rw [Pl.tn_zero]; exact this.symm)
  have z2:¬ (d.m (Pl.tn h 3) = k ∧ d.m (Pl.tn k 1) = h):=fun f => by
   have:=iv (l1 3) f.1
   rw [hik] at this
   exact (Pl.tn_ne (h := h) (j := 0) (k := 3) (by omega)) (by rw [Pl.tn_zero]; exact this)
  rw [if_neg z1,if_neg z2,if_pos hk2.symm,if_pos m2,if_neg (show ¬ (d.m (Pl.tn h 2) = Pl.tn h 3 ∧ d.m (Pl.tn k 2) = Pl.tn k 1) from fun f => ne2 2 3 (by rw [← m2]; exact f.1)),if_neg (show ¬ (d.m (Pl.tn h 2) = Pl.tn k 1 ∧ d.m (Pl.tn k 2) = Pl.tn h 3) from fun f => nk 2 1 (by omega) (by rw [← m2]; exact f.1))]
  simp only [Nat.reduceAdd]
  omega
 ·-- the opposite corner: both strands close
  obtain ⟨u,hu⟩:∃ u,u = d.m (Pl.tn h 2) := ⟨_,rfl⟩
  rw [e,← hu] at g2 g3
  rw [Pl.tn_tn] at g3
  have hu0:u = Pl.tn k 0 ∨ u = Pl.tn k 1 ∨ u = Pl.tn k 2 ∨ u = Pl.tn k 3:=by
   have:u / 4 = k / 4:=by rw [g2,h2]
   unfold Pl.tn; omega
  have lu:u < 4 * d.n:=by rw [hu]; exact hd.lt _ (l1 2)
  rcases hu0 with f | f | f | f
  ·exfalso
   have:=iv (l1 2) (hu.symm.trans f)
   rw [Pl.tn_zero,hik] at this
   exact (Pl.tn_ne (h := h) (j := 0) (k := 2) (by omega)) (by rw [Pl.tn_zero]; exact this)
  ·exfalso
   rw [f,Pl.tn_tn,Pl.tn_four,hik] at g3
   exact (Pl.tn_ne (h := h) (j := 0) (k := 3) (by omega)) (by rw [Pl.tn_zero]; exact g3)
  ·rw [f,Pl.tn_tn,t5] at g3
   have m2:d.m (Pl.tn h 2) = Pl.tn k 2:=by rw [← hu,f]
   have m3:d.m (Pl.tn h 3) = Pl.tn k 1:=iv (l2 1) g3
   unfold lpF
   rw [e,m2,← hk2,Pl.tn_tn,Pl.tn_tn,Pl.tn_tn,Pl.tn_tn,t5,Pl.tn_four,Pl.tn_four]
   unfold fF
   rw [if_pos hk2.symm,if_pos m1,if_pos m2,if_pos m3,if_neg (show ¬ (d.m h = Pl.tn h 1 ∧ d.m k = Pl.tn k 3) from fun q => ne2 0 1 (by rw [Pl.tn_zero,hk2]; exact q.1)),if_neg (show ¬ (d.m h = Pl.tn k 3 ∧ d.m k = Pl.tn h 1) from fun q => nk 0 3 (by omega) (by rw [Pl.tn_zero]; exact hk2.trans q.1)),if_neg (show ¬ (d.m (Pl.tn h 2) = Pl.tn h 3 ∧ d.m (Pl.tn k 2) = Pl.tn k 1) from fun q => ne2 2 3 (by rw [← m2]; exact q.1)),if_neg (show ¬ (d.m (Pl.tn h 2) = Pl.tn k 1 ∧ d.m (Pl.tn k 2) = Pl.tn h 3) from fun q => nk 2 1 (by omega) (by rw [← m2]; exact q.1))]
  ·exfalso
   have:=iv (l1 2) (hu.symm.trans f)
   rw [h3] at this
   exact (Pl.tn_ne (h := h) (j := 1) (k := 2) (by omega)) this
 ·-- the corner ahead: strand 2 closes at once
  obtain ⟨u,hu⟩:∃ u,u = d.m (Pl.tn h 3) := ⟨_,rfl⟩
  rw [e,← hu] at g3
  rw [Pl.tn_tn,Pl.tn_four] at g3
  have lu:u < 4 * d.n:=by rw [hu]; exact hd.lt _ (l1 3)
  have e2:=iv (Pl.tn_lt lu) g3
  rw [← hk2] at e2
  have f:u = Pl.tn k 1:=by rw [e2,Pl.tn_tn,Pl.tn_four]
  have m3:d.m (Pl.tn h 3) = Pl.tn k 1:=by rw [← hu,f]
  unfold lpF
  rw [e,m3,← hk2,Pl.tn_tn,Pl.tn_tn,Pl.tn_tn,Pl.tn_tn,t5,t6]
  unfold fF
  rw [if_pos m1,if_pos m3,if_neg (show ¬ (d.m (Pl.tn h 1) = Pl.tn h 2 ∧ d.m (Pl.tn k 3) = Pl.tn k 2) from fun q => ne2 3 2 (by rw [← m1]; exact q.1)),if_neg (show ¬ (d.m (Pl.tn h 1) = Pl.tn k 2 ∧ d.m (Pl.tn k 3) = Pl.tn h 2) from fun q => nk 3 2 (by omega) (by rw [← m1]; exact q.1)),if_neg (show ¬ (d.m (Pl.tn h 2) = Pl.tn h 3 ∧ d.m (Pl.tn k 2) = Pl.tn k 1) from fun q => ne2 1 2 (by rw [← m3]; exact iv (l1 2) q.1)),if_neg (show ¬ (d.m (Pl.tn h 2) = Pl.tn k 1 ∧ d.m (Pl.tn k 2) = Pl.tn h 3) from fun q => (Pl.tn_ne (h := h) (j := 2) (k := 3) (by omega)) ((iv (l1 2) q.1).symm.trans (iv (l1 3) m3)))]
  simp only [Nat.reduceAdd]
  omega
theorem ls_loops {d:Pl.Dg} (hd:Pl.Wf d) {x y h:Nat} (hxy:x ≠ y) (hh:h < 4 * d.n) (L:Ls d x y h):unpL d (lensOf d h) = d.lp + lpF d h :=
 unpL_f hd hh (by rw [L.1,L.2.1]; exact hxy) L.2.2.1
theorem isl_ls {d:Pl.Dg} (hd:Pl.Wf d) {x y i:Nat} (hxy:x ≠ y) (hx:x < d.n) (hy:y < d.n) (hi:i < 8) (h:isL d x y i):∃ g,g < 4 * d.n ∧ Ls d x y g ∧ unpL d (lensOf d (lnH x y i)) = d.lp + lpF d g := by
 unfold isL at h
 by_cases h4:i < 4
 ·have e1:lnH x y i = 4 * x + i:=if_pos h4
  have e2:lnO x y i = y:=if_pos h4
  rw [e1,e2] at h
  have hl:4 * x + i < 4 * d.n:=by omega
  have L:=(ls_of hd hl).1 h
  rw [show (4 * x + i) / 4 = x by omega] at L
  rw [e1]
  exact ⟨_,hl,L,ls_loops hd hxy hl L⟩
 ·have e1:lnH x y i = 4 * y + i - 4:=if_neg h4
  have e2:lnO x y i = x:=if_neg h4
  rw [e1,e2] at h
  have hl:4 * y + i - 4 < 4 * d.n:=by omega
  have L:=(ls_of hd hl).1 h
  rw [show (4 * y + i - 4) / 4 = y by omega] at L
  obtain ⟨T1,T2⟩:=ls_turn hd hl L
  rw [e1]
  exact ⟨_,Pl.tn_lt (hd.lt _ hl),T1,by rw [ls_loops hd (Ne.symm hxy) hl L,T2]⟩
theorem up_zero {d:Pl.Dg} (hd:Pl.Wf d) {x y:Nat} (hxy:x ≠ y) (hx:x < d.n) (hy:y < d.n):unpC d x y = 0 ↔ ∃ h,h < 4 * d.n ∧ Ls d x y h ∧ d.lp + lpF d h ≤ 64 := by
 unfold unpC
 cases hL:lensI d x y with
 | none =>
   constructor
   ·intro h; exact absurd h (show ¬ (6:Int) = 0 by decide)
   ·rintro ⟨h,hh,L,_⟩
    exfalso
    unfold lensI at hL
    have h1:=List.find?_eq_none.1 hL (h % 4) (List.mem_range.2 (by omega))
    apply h1
    rw [decide_eq_true_iff]
    unfold isL
    have e1:lnH x y (h % 4) = h:=by unfold lnH; rw [if_pos (by omega),← L.1]; omega
    have e2:lnO x y (h % 4) = y:=if_pos (by omega)
    rw [e1,e2]
    have L2:=L
    rw [← L.1] at L2
    exact (ls_of hd hh).2 L2
 | some i =>
   have hi:i < 8:=lens_lt hL
   have hI:isL d x y i:=by
    unfold lensI at hL
    have:=List.find?_some hL
    exact of_decide_eq_true this
   obtain ⟨g,g1,g2,g3⟩:=isl_ls hd hxy hx hy hi hI
   show (if 64 < unpL d (lensOf d (lnH x y i)) then (5:Int) else 0) = 0 ↔ _
   rw [g3]
   constructor
   ·intro h
    by_cases h6:64 < d.lp + lpF d g
    ·rw [if_pos h6] at h; exact absurd h (by decide)
    ·exact ⟨g,g1,g2,by omega⟩
   ·rintro ⟨h,hh,L,h6⟩
    rw [ls_same hd hxy g1 hh g2 L] at h6
    rw [if_neg (by omega)]
section
variable {a b:Pl.Dg} {σ:Nat → Nat}
theorem iso_hf (I:Pl.Iso a b σ) {g h:Nat} (hg:g < 4 * a.n) (hh:h < 4 * a.n):(Pl.hf σ g = Pl.hf σ h) = (g = h) := propext ⟨fun e => I.hinj hg hh e,fun e => by rw [e]⟩
theorem iso_m (I:Pl.Iso a b σ) (ha:Pl.Wf a) {g h:Nat} (hg:g < 4 * a.n) (hh:h < 4 * a.n):(b.m (Pl.hf σ g) = Pl.hf σ h) = (a.m g = h) := by
 rw [I.m g hg,iso_hf I (ha.lt g hg) hh]
theorem iso_c (I:Pl.Iso a b σ) {g c:Nat} (hg:g < 4 * a.n) (hc:c < a.n):(Pl.hf σ g / 4 = σ c) = (g / 4 = c) := by
 rw [Pl.hf_div]
 exact propext ⟨fun e => I.inj _ _ (by omega) hc e,fun e => by rw [e]⟩
theorem iso_ls (I:Pl.Iso a b σ) (ha:Pl.Wf a) {x y h:Nat} (hh:h < 4 * a.n) (hx:x < a.n) (hy:y < a.n):Ls b (σ x) (σ y) (Pl.hf σ h) ↔ Ls a x y h := by
 have hk:=ha.lt h hh
 unfold Ls
 rw [I.m h hh,← Pl.hf_tn,← Pl.hf_tn,iso_m I ha (Pl.tn_lt hk) (Pl.tn_lt hh),iso_c I hh hx,iso_c I hk hy]
 have e1:=Pl.hf_mod σ h
 have e2:=Pl.hf_mod σ (a.m h)
 constructor
 ·rintro ⟨h1,h2,h3,h4⟩; exact ⟨h1,h2,h3,by omega⟩
 ·rintro ⟨h1,h2,h3,h4⟩; exact ⟨h1,h2,h3,by omega⟩
theorem iso_lpF (I:Pl.Iso a b σ) (ha:Pl.Wf a) {h:Nat} (hh:h < 4 * a.n):lpF b (Pl.hf σ h) = lpF a h := by
 have hk:=ha.lt h hh
 unfold lpF fF
 rw [I.m h hh,← Pl.hf_tn,← Pl.hf_tn,← Pl.hf_tn,← Pl.hf_tn]
 simp only [iso_m I ha (Pl.tn_lt hh (k := 2)) (Pl.tn_lt hk (k := 2)),iso_m I ha (Pl.tn_lt hh (k := 3)) (Pl.tn_lt hk (k := 1)),iso_m I ha (Pl.tn_lt hh (k := 2)) (Pl.tn_lt hh (k := 3)),iso_m I ha (Pl.tn_lt hk (k := 2)) (Pl.tn_lt hk (k := 1)),iso_m I ha (Pl.tn_lt hh (k := 2)) (Pl.tn_lt hk (k := 1)),iso_m I ha (Pl.tn_lt hk (k := 2)) (Pl.tn_lt hh (k := 3))]
theorem iso_up (I:Pl.Iso a b σ) (ha:Pl.Wf a) (hb:Pl.Wf b) {x y:Nat} (hxy:x ≠ y) (hx:x < a.n) (hy:y < a.n) (h:unpC a x y = 0):unpC b (σ x) (σ y) = 0 := by
 obtain ⟨h,hh,L,h6⟩:=(up_zero ha hxy hx hy).1 h
 have hn:=I.n
 refine (up_zero hb (fun e => hxy (I.inj _ _ hx hy e)) (by rw [← hn]; exact I.lt x hx) (by rw [← hn]; exact I.lt y hy)).2 ⟨Pl.hf σ h,by rw [← hn]; exact I.hlt hh,(iso_ls I ha hh hx hy).2 L,?_⟩
 rw [iso_lpF I ha hh,← I.lp]
 exact h6
theorem up_comm {d:Pl.Dg} (hd:Pl.Wf d) {x y:Nat} (hxy:x ≠ y) (hx:x < d.n) (hy:y < d.n) (h:unpC d x y = 0):unpC d y x = 0 := by
 obtain ⟨h,hh,L,h6⟩:=(up_zero hd hxy hx hy).1 h
 obtain ⟨T1,T2⟩:=ls_turn hd hh L
 exact (up_zero hd (Ne.symm hxy) hy hx).2 ⟨_,Pl.tn_lt (hd.lt _ hh),T1,by rw [T2]; exact h6⟩
theorem iso_kk (I:Pl.Iso a b σ) (ha:Pl.Wf a) {c:Nat} (hc:c < a.n):kk b (σ c) = Pl.hf σ (kk a c) := by
 have h2:4 * c + 2 < 4 * a.n:=by omega
 have e2:=Pl.hf_at σ c (t := 2) (by omega)
 have e1:=Pl.hf_at σ c (t := 1) (by omega)
 have e3:=Pl.hf_at σ c (t := 3) (by omega)
 unfold kk
 rw [← e2,I.m _ h2,I.s c hc]
 simp only [iso_c I (ha.lt _ h2) hc]
 split
 ·rw [e2]
 ·split
  ·rw [e1]
  ·rw [e3]
theorem iso_un (I:Pl.Iso a b σ) (ha:Pl.Wf a) {c:Nat} (hc:c < a.n):uncC b (σ c) = uncC a c := by
 have hk:=kk_lt (d := a) hc
 have hm:=ha.lt _ hk
 have eA:kA b (σ c) = Pl.hf σ (kA a c):=by unfold kA; rw [iso_kk I ha hc,Pl.hf_tn]
 have eB:kB b (σ c) = Pl.hf σ (kB a c):=by unfold kB; rw [iso_kk I ha hc,I.m _ hk,Pl.hf_tn]
 unfold uncC
 rw [eA,eB,iso_kk I ha hc,I.m _ hk,← I.lp]
 simp only [iso_c I hm hc,iso_m I ha (kA_lt hc) (kB_lt ha hc)]
end
theorem rm_unC {z:Mv}:∀ {k:Nat},z ∈ unC k ↔ ∃ c,c < k ∧ z = ⟨2,(c:Nat),0,0,false⟩
 | 0 => by simp [unC]
 | k + 1 => by
   unfold unC
   rw [List.mem_append,rm_unC,List.mem_singleton]
   constructor
   ·rintro (⟨c,h1,h2⟩ | h)
    ·exact ⟨c,by omega,h2⟩
    ·exact ⟨k,by omega,h⟩
   ·rintro ⟨c,h1,h2⟩
    by_cases e:c = k
    ·right; rw [h2,e]
    ·left; exact ⟨c,by omega,h2⟩
theorem rm_upN {x:Nat} {z:Mv}:∀ {k:Nat},z ∈ upN x k ↔ ∃ y,x < y ∧ y < k ∧ z = ⟨4,(x:Nat),(y:Nat),0,false⟩
 | 0 => by simp [upN]
 | k + 1 => by
   unfold upN
   rw [List.mem_append,rm_upN]
   constructor
   ·rintro (⟨c,h1,h2,h3⟩ | h)
    ·exact ⟨c,h1,by omega,h3⟩
    ·by_cases e:x < k
     ·rw [if_pos e,List.mem_singleton] at h; exact ⟨k,e,by omega,h⟩
     ·rw [if_neg e] at h; cases h
   ·rintro ⟨c,h1,h2,h3⟩
    by_cases e:c = k
    ·right; subst e; rw [if_pos h1,List.mem_singleton]; exact h3
    ·left; exact ⟨c,h1,by omega,h3⟩
theorem rm_upNX {n:Nat} {z:Mv}:∀ {k:Nat},z ∈ upNX n k ↔ ∃ x y,x < k ∧ x < y ∧ y < n ∧ z = ⟨4,(x:Nat),(y:Nat),0,false⟩
 | 0 => by simp [upNX]
 | k + 1 => by
   unfold upNX
   rw [List.mem_append,rm_upNX,rm_upN]
   constructor
   ·rintro (⟨x,y,h1,h2⟩ | ⟨y,h1,h2,h3⟩)
    ·exact ⟨x,y,by omega,h2⟩
    ·exact ⟨k,y,by omega,h1,h2,h3⟩
   ·rintro ⟨x,y,h1,h2,h3,h4⟩
    by_cases e:x = k
    ·right; subst e; exact ⟨y,h2,h3,h4⟩
    ·left; exact ⟨x,y,by omega,h2,h3,h4⟩
theorem rem_ex (d:Pl.Dg):remL d ≠ [] ↔ (∃ c,c < d.n ∧ uncC d c = 0) ∨ ∃ x y,x < y ∧ y < d.n ∧ unpC d x y = 0 := by
 have key:remL d ≠ [] ↔ ∃ z,z ∈ remL d:=⟨fun h => List.exists_mem_of_ne_nil _ h,fun ⟨z,hz⟩ e => by rw [e] at hz; cases hz⟩
 rw [key]
 unfold remL
 constructor
 ·rintro ⟨z,hz⟩
  rcases List.mem_append.1 hz with h | h
  ·obtain ⟨h1,h2⟩:=mem_sel.1 h
   obtain ⟨c,hc,rfl⟩:=rm_unC.1 h1
   rw [un_code hc] at h2
   exact .inl ⟨c,hc,h2⟩
  ·obtain ⟨h1,h2⟩:=mem_sel.1 h
   obtain ⟨x,y,_,hxy,hy,rfl⟩:=rm_upNX.1 h1
   rw [up_code hxy hy] at h2
   exact .inr ⟨x,y,hxy,hy,h2⟩
 ·rintro (⟨c,hc,h⟩ | ⟨x,y,hxy,hy,h⟩)
  ·exact ⟨_,List.mem_append.2 (.inl (mem_sel.2 ⟨rm_unC.2 ⟨c,hc,rfl⟩,by rw [un_code hc]; exact h⟩))⟩
  ·exact ⟨_,List.mem_append.2 (.inr (mem_sel.2 ⟨rm_upNX.2 ⟨x,y,by omega,hxy,hy,rfl⟩,by rw [up_code hxy hy]; exact h⟩))⟩
theorem iso_rem {a b:Pl.Dg} {σ:Nat → Nat} (I:Pl.Iso a b σ) (ha:Pl.Wf a) (hb:Pl.Wf b) (h:remL a ≠ []):remL b ≠ [] := by
 have hn:=I.n
 rw [rem_ex] at h ⊢
 rcases h with ⟨c,hc,h⟩ | ⟨x,y,hxy,hy,h⟩
 ·exact .inl ⟨σ c,by rw [← hn]; exact I.lt c hc,by rw [iso_un I ha hc]; exact h⟩
 ·have hx:x < a.n:=by omega
  have h2:=iso_up I ha hb (by omega) hx hy h
  have lx:σ x < b.n:=by rw [← hn]; exact I.lt x hx
  have ly:σ y < b.n:=by rw [← hn]; exact I.lt y hy
  have ne:σ x ≠ σ y:=fun e => by have := I.inj _ _ hx hy e; omega
  by_cases e:σ x < σ y
  ·exact .inr ⟨σ x,σ y,e,ly,h2⟩
  ·exact .inr ⟨σ y,σ x,by omega,lx,up_comm hb ne lx ly h2⟩
theorem iso_minimal {a b:Pl.Dg} {σ:Nat → Nat} (I:Pl.Iso a b σ) (ha:Pl.Wf a) (hb:Pl.Wf b):remL a = [] ↔ remL b = [] := by
 obtain ⟨τ,J,_⟩:=I.symm ha
 constructor
 ·intro h
  exact Classical.byContradiction fun e => iso_rem J hb ha e h
 ·intro h
  exact Classical.byContradiction fun e => iso_rem I ha hb e h
end Go.Proofs.YtghdiolnonejaaaDoor
end
section
namespace Go.Proofs.YtghdiolnonejaaaDoor.Pl
def lx:List Int → List Int → Int
 | [],[] => 0
 | [],_ :: _ => -1
 | _ :: _,[] => 1
 | x :: l,y :: m => if x < y then -1 else if y < x then 1 else lx l m
theorem lx_self:∀ l,lx l l = 0
 | [] => rfl
 | x :: l => by unfold lx; rw [if_neg (by omega),if_neg (by omega),lx_self l]
theorem lx_eq:∀ {l m:List Int},lx l m = 0 → l = m
 | [],[],_ => rfl
 | [],_ :: _,h => by simp [lx] at h
 | _ :: _,[],h => by simp [lx] at h
 | x :: l, y :: m, h => by
   unfold lx at h
   by_cases h1:x < y
   ·rw [if_pos h1] at h; omega
   ·by_cases h2:y < x
    ·rw [if_neg h1,if_pos h2] at h; omega
    ·rw [if_neg h1,if_neg h2] at h
     rw [lx_eq h,show x = y by omega]
theorem lx_neg:∀ (l m:List Int),lx m l = - lx l m
 | [],[] => rfl
 | [],_ :: _ => rfl
 | _ :: _,[] => rfl
 | x :: l, y :: m => by
   unfold lx
   by_cases h1:x < y
   ·rw [if_pos h1,if_neg (by omega),if_pos h1]; rfl
   ·by_cases h2:y < x
    ·rw [if_pos h2,if_neg h1,if_pos h2]
    ·rw [if_neg h1,if_neg h2,if_neg h1,if_neg h2,lx_neg l m]
theorem lx_trans:∀ {l m k:List Int},lx l m ≤ 0 → lx m k ≤ 0 → lx l k ≤ 0
 | [],[],k,_,h => h
 | [],_ :: _,[],_,_ => by simp [lx]
 | [],_ :: _,_ :: _,_,_ => by simp [lx]
 | _ :: _,[],_,h,_ => by simp [lx] at h
 | _ :: _,_ :: _,[],_,h => by simp [lx] at h
 | x :: l, y :: m, z :: k, h1, h2 => by
   unfold lx at h1 h2 ⊢
   by_cases a1:x < y
   ·by_cases b1:y < z
    ·rw [if_pos (by omega)]; omega
    ·by_cases b2:z < y
     ·rw [if_neg b1,if_pos b2] at h2; omega
     ·rw [if_pos (by omega)]; omega
   ·by_cases a2:y < x
    ·rw [if_neg a1,if_pos a2] at h1; omega
    ·rw [if_neg a1,if_neg a2] at h1
     by_cases b1:y < z
     ·rw [if_pos (by omega)]; omega
     ·by_cases b2:z < y
      ·rw [if_neg b1,if_pos b2] at h2; omega
      ·rw [if_neg b1,if_neg b2] at h2
       rw [if_neg (by omega),if_neg (by omega)]; exact lx_trans h1 h2
theorem lx_anti {l m:List Int} (h1:lx l m ≤ 0) (h2:lx m l ≤ 0):l = m := lx_eq (by rw [lx_neg l m] at h2; omega)
theorem lx_app:∀ {l m:List Int},l.length = m.length → ∀ l' m',lx (l ++ l') (m ++ m') = if lx l m = 0 then lx l' m' else lx l m
 | [],[],_,l',m' => by simp [lx]
 | [],_ :: _,h,_,_ => by simp at h
 | _ :: _,[],h,_,_ => by simp at h
 | x :: l, y :: m, h, l', m' => by
   have ih:=lx_app (l := l) (m := m) (by simpa using h) l' m'
   have e:∀ (x y:Int) (l m:List Int),lx (x :: l) (y :: m) = if x < y then -1 else if y < x then 1 else lx l m:=fun _ _ _ _ => rfl
   rw [List.cons_append,List.cons_append,e,e]
   by_cases h1:x < y
   ·rw [if_pos h1,if_pos h1,if_neg (by omega)]
   ·by_cases h2:y < x
    ·rw [if_neg h1,if_pos h2,if_neg h1,if_pos h2,if_neg (by omega)]
    ·rw [if_neg h1,if_neg h2,if_neg h1,if_neg h2,ih]
def kle (c c':List Int):Prop := c.length < c'.length ∨ (c.length = c'.length ∧ lx c c' ≤ 0)
theorem kle_anti {c c':List Int} (h1:kle c c') (h2:kle c' c):c = c' := by
 rcases h1 with h1 | ⟨h1,h1'⟩ <;> rcases h2 with h2 | ⟨h2,h2'⟩
 ·omega
 ·omega
 ·omega
 ·exact lx_anti h1' h2'
theorem kle_trans {c c' c'':List Int} (h1:kle c c') (h2:kle c' c''):kle c c'' := by
 rcases h1 with h1 | ⟨h1,h1'⟩ <;> rcases h2 with h2 | ⟨h2,h2'⟩
 ·exact .inl (by omega)
 ·exact .inl (by omega)
 ·exact .inl (by omega)
 ·exact .inr ⟨by omega,lx_trans h1' h2'⟩
theorem kle_total (c c':List Int):kle c c' ∨ kle c' c := by
 rcases Nat.lt_trichotomy c.length c'.length with h | h | h
 ·exact .inl (.inl h)
 ·rcases Int.le_total (lx c c') 0 with h1 | h1
  ·exact .inl (.inr ⟨h,h1⟩)
  ·exact .inr (.inr ⟨h.symm,by rw [lx_neg c c']; omega⟩)
 ·exact .inr (.inl h)
structure Pc where
 code:List Int
 order:List Nat
 roots:Int
def PcOk (d:Dg) (p:Pc):Prop := ∃ r,r < d.n ∧ p.code = code d r ∧ p.order = ord d r ∧ ∀ q,Comp d r q → lx (code d r) (code d q) ≤ 0
structure Pcs (d:Dg) (ps:List Pc):Prop where
 ok:∀ p,p ∈ ps → PcOk d p
 nd:(ps.flatMap Pc.order).Nodup
 all:∀ c,c < d.n → ∃ p,p ∈ ps ∧ c ∈ p.order
def Srt (ps:List Pc):Prop := ps.Pairwise (fun p q => kle p.code q.code)
def pcode (lp:Nat) (ps:List Pc):List Int := (lp:Int) :: (ps.length:Int) :: ps.flatMap (fun p => (p.order.length:Int) :: p.code)
theorem Pcs.uniq {d:Dg} {ps:List Pc} (h:Pcs d ps) {i j c:Nat} {p q:Pc} (hi:ps[i]? = some p) (hj:ps[j]? = some q) (hp:c ∈ p.order) (hq:c ∈ q.order):i = j := by
 have h1:=(List.pairwise_flatMap.1 h.nd).2
 rw [List.pairwise_iff_getElem] at h1
 obtain ⟨li,ei⟩:=List.getElem?_eq_some_iff.1 hi
 obtain ⟨lj,ej⟩:=List.getElem?_eq_some_iff.1 hj
 rcases Nat.lt_trichotomy i j with e | e | e
 ·exact absurd rfl (h1 i j li lj e c (by rw [ei]; exact hp) c (by rw [ej]; exact hq))
 ·exact e
 ·exact absurd rfl (h1 j i lj li e c (by rw [ej]; exact hq) c (by rw [ei]; exact hp))
theorem Pcs.at_ {d:Dg} {ps:List Pc} (h:Pcs d ps) {c:Nat} (hc:c < d.n):∃ (i:Nat) (p:Pc),ps[i]? = some p ∧ c ∈ p.order := by
 obtain ⟨p,hp,hm⟩:=h.all c hc
 obtain ⟨i,hi,rfl⟩:=List.getElem_of_mem hp
 exact ⟨i,_,List.getElem?_eq_getElem hi,hm⟩
theorem PcOk.len {d:Dg} {p:Pc} (h:PcOk d p):p.code.length = 5 * p.order.length := by
 obtain ⟨r,_,e1,e2,_⟩:=h
 rw [e1,e2,code_len]
theorem perm_of_corr {α:Type}:∀ (K L:List α) (π:Nat → Nat),(∀ i,i < K.length → π i < L.length ∧ L[π i]? = K[i]?) → (∀ i j,i < K.length → j < K.length → π i = π j → i = j) → ∃ r,L.Perm (K ++ r)
 | [],L,_,_,_ => ⟨L,by simp⟩
 | k :: K, L, π, h, hinj => by
   obtain ⟨hl,he⟩:=h 0 (by simp)
   have he':L[π 0] = k:=by
    rw [List.getElem?_eq_getElem hl] at he
    simpa using he
   have hL:L.Perm (k :: L.eraseIdx (π 0)):=by
    have h1:L = L.take (π 0) ++ k :: L.drop (π 0 + 1):=by
     conv => lhs; rw [← List.take_append_drop (π 0) L]
     rw [List.drop_eq_getElem_cons hl,he']
    have h2:L.eraseIdx (π 0) = L.take (π 0) ++ L.drop (π 0 + 1):=List.eraseIdx_eq_take_drop_succ _ _
    rw [h2]
    conv => lhs; rw [h1]
    exact List.perm_middle
   have hlen:(L.eraseIdx (π 0)).length + 1 = L.length:=by rw [List.length_eraseIdx,if_pos hl]; omega
   have key:∀ i,i < K.length → π (i + 1) ≠ π 0:=fun i hi e => by
    have:=hinj (i + 1) 0 (by simp; omega) (by simp) e
    omega
   obtain ⟨r,hr⟩:=perm_of_corr K (L.eraseIdx (π 0)) (fun i => if π (i + 1) < π 0 then π (i + 1) else π (i + 1) - 1) (fun i hi => by
    obtain ⟨h1,h2⟩:=h (i + 1) (by simp; omega)
    have hne:=key i hi
    rw [List.getElem?_cons_succ] at h2
    by_cases e:π (i + 1) < π 0
    ·simp only [if_pos e]
     exact ⟨by omega,by rw [List.getElem?_eraseIdx_of_lt e,h2]⟩
    ·simp only [if_neg e]
     refine ⟨by omega,?_⟩
     rw [List.getElem?_eraseIdx_of_ge (by omega),show π (i + 1) - 1 + 1 = π (i + 1) by omega,h2]) (fun i j hi hj e => by
    have hne1:=key i hi
    have hne2:=key j hj
    have:π (i + 1) = π (j + 1):=by
     split at e <;> split at e <;> omega
    have:=hinj (i + 1) (j + 1) (by simp; omega) (by simp; omega) this
    omega)
   exact ⟨r,hL.trans (hr.cons k)⟩
section
variable {a b:Dg} {ps qs:List Pc} {σ:Nat → Nat}
theorem Pcs.corr (I:Iso a b σ) (ha:Wf a) (hb:Wf b) (hp:Pcs a ps) (hq:Pcs b qs):ps.length ≤ qs.length ∧ ∃ r,(qs.map Pc.code).Perm (ps.map Pc.code ++ r) := by
 obtain ⟨τ,J,t1,t2⟩:=I.symm ha
 have hw:∀ i,∃ j,i < ps.length → ∃ (p q:Pc),ps[i]? = some p ∧ qs[j]? = some q ∧ p.code = q.code ∧ ∃ r,r ∈ p.order ∧ σ r ∈ q.order ∧ r < a.n:=fun i => by
  by_cases hi:i < ps.length
  ·obtain ⟨r,hr,e1,e2,hl⟩:=hp.ok _ (List.getElem_mem hi)
   have hsr:σ r < b.n:=by rw [← I.n]; exact I.lt r hr
   obtain ⟨j,q,hj,hm⟩:=hq.at_ hsr
   refine ⟨j,fun _ => ⟨_,q,List.getElem?_eq_getElem hi,hj,?_,r,by rw [e2]; exact (ord_ok ha hr).root,hm,hr⟩⟩
   obtain ⟨r',hr',f1,f2,fl⟩:=hq.ok q (List.mem_of_getElem? hj)
   rw [f2,ord_mem hb hr'] at hm
   have k1:lx (code b r') (code b (σ r)) ≤ 0:=fl _ hm
   have ht:τ r' < a.n:=by rw [I.n]; exact J.lt r' hr'
   have k2:Comp a r (τ r'):=by
    have:Comp b (σ r) (σ (τ r')):=by rw [t2 r' (by rw [I.n]; exact hr')]; exact comp_symm hb hr' hm
    exact (I.comp ha hb hr ht).1 this
   have k3:=hl _ k2
   rw [I.code ha hr] at k1
   rw [J.code hb hr'] at k3
   rw [e1,f1]
   exact lx_anti k3 k1
  ·exact ⟨0,fun h => absurd h hi⟩
 let π := fun i => Classical.choose (hw i)
 have h1:∀ i,i < ps.length → ∃ (p q:Pc),ps[i]? = some p ∧ qs[π i]? = some q ∧ p.code = q.code ∧ ∃ r,r ∈ p.order ∧ σ r ∈ q.order ∧ r < a.n:=fun i hi => Classical.choose_spec (hw i) hi
 have hlt:∀ i,i < ps.length → π i < qs.length:=fun i hi => by
  obtain ⟨p,q,_,h,_⟩:=h1 i hi
  exact (List.getElem?_eq_some_iff.1 h).1
 have hinj:∀ i j,i < ps.length → j < ps.length → π i = π j → i = j:=fun i j hi hj e => by
  obtain ⟨p,q,e1,e2,_,r,m1,m2,hr⟩:=h1 i hi
  obtain ⟨p',q',f1,f2,_,r',n1,n2,hr'⟩:=h1 j hj
  rw [e] at e2
  rw [e2] at f2
  injection f2 with f2
  subst f2
  obtain ⟨x,hx,x1,x2,_⟩:=hq.ok q (List.mem_of_getElem? e2)
  rw [x2,ord_mem hb hx] at m2 n2
  have k1:Comp a r r':=(I.comp ha hb hr hr').1 ((comp_symm hb hx m2).trans n2)
  obtain ⟨y,hy,y1,y2,_⟩:=hp.ok p (List.mem_of_getElem? e1)
  refine hp.uniq (c := r') e1 f1 ?_ n1
  rw [y2,ord_mem ha hy] at m1 ⊢
  exact m1.trans k1
 refine ⟨pigeon _ _ π hlt hinj,perm_of_corr _ _ π (fun i hi => ?_) (fun i j hi hj e => hinj i j (by simpa using hi) (by simpa using hj) e)⟩
 rw [List.length_map] at hi
 obtain ⟨p,q,e1,e2,e3,_⟩:=h1 i hi
 refine ⟨by rw [List.length_map]; exact hlt i hi,?_⟩
 rw [List.getElem?_map,List.getElem?_map,e1,e2]
 simp [e3]
theorem codes_eq (I:Iso a b σ) (ha:Wf a) (hb:Wf b) (hp:Pcs a ps) (hq:Pcs b qs) (sp:Srt ps) (sq:Srt qs):ps.map Pc.code = qs.map Pc.code := by
 obtain ⟨τ,J,_,_⟩:=I.symm ha
 obtain ⟨l1,r,hr⟩:=hp.corr I ha hb hq
 obtain ⟨l2,_⟩:=hq.corr J hb ha hp
 have:r = []:=by
  have:=hr.length_eq
  rw [List.length_append,List.length_map,List.length_map] at this
  exact List.length_eq_zero_iff.1 (by omega)
 subst this
 rw [List.append_nil] at hr
 exact (List.Perm.eq_of_pairwise (le := kle) (fun x y _ _ h1 h2 => kle_anti h1 h2) (by rw [List.pairwise_map]; exact sq) (by rw [List.pairwise_map]; exact sp) hr).symm
theorem pcode_of {d:Dg} {ps:List Pc} (h:Pcs d ps) (lp:Nat):pcode lp ps = (lp:Int) :: ((ps.map Pc.code).length:Int) :: (ps.map Pc.code).flatMap (fun c => ((c.length / 5:Nat):Int) :: c) := by
 unfold pcode
 rw [List.length_map]
 congr 2
 have:∀ (l:List Pc),(∀ p,p ∈ l → PcOk d p) → l.flatMap (fun p => (p.order.length:Int) :: p.code) = (l.map Pc.code).flatMap (fun c => ((c.length / 5:Nat):Int) :: c):=by
  intro l
  induction l with
  | nil => intro _; rfl
  | cons p l ih =>
    intro hl
    rw [List.map_cons,List.flatMap_cons,List.flatMap_cons,ih (fun q hq => hl q (by simp [hq])),(hl p (by simp)).len,show 5 * p.order.length / 5 = p.order.length by omega]
 exact this ps h.ok
theorem Iso.pcode (I:Iso a b σ) (ha:Wf a) (hb:Wf b) (hp:Pcs a ps) (hq:Pcs b qs) (sp:Srt ps) (sq:Srt qs):Pl.pcode a.lp ps = Pl.pcode b.lp qs := by
 rw [pcode_of hp,pcode_of hq,codes_eq I ha hb hp hq sp sq,I.lp]
theorem codes_of {ps qs:List Pc} (h:∀ p,p ∈ ps → p.code.length = 5 * p.order.length) (h':∀ p,p ∈ qs → p.code.length = 5 * p.order.length):ps.flatMap (fun p => (p.order.length:Int) :: p.code) = qs.flatMap (fun p => (p.order.length:Int) :: p.code) → ps.length = qs.length → ps.map Pc.code = qs.map Pc.code := by
 induction ps generalizing qs with
 | nil =>
   intro _ hl
   rw [List.length_nil] at hl
   rw [List.length_eq_zero_iff.1 hl.symm]
 | cons p ps ih =>
   cases qs with
   | nil => intro _ hl; simp at hl
   | cons q qs =>
     intro he hl
     rw [List.flatMap_cons,List.flatMap_cons,List.cons_append,List.cons_append] at he
     injection he with h1 h2
     have hlen:p.code.length = q.code.length:=by rw [h p (by simp),h' q (by simp)]; omega
     obtain ⟨h3,h4⟩:=List.append_inj h2 hlen
     rw [List.map_cons,List.map_cons,h3,ih (fun x hx => h x (by simp [hx])) (fun x hx => h' x (by simp [hx])) h4 (by simpa using hl)]
theorem iso_of_code (ha:Wf a) (hb:Wf b) (hp:Pcs a ps) (hq:Pcs b qs) (h:Pl.pcode a.lp ps = Pl.pcode b.lp qs):∃ σ,Iso a b σ := by
 unfold Pl.pcode at h
 injection h with hlp h
 injection h with hlen h
 have hlen':ps.length = qs.length:=by omega
 have hc:=codes_of (fun p hp' => (hp.ok p hp').len) (fun p hq' => (hq.ok p hq').len) h hlen'
 have hci:∀ (i:Nat) (p q:Pc),ps[i]? = some p → qs[i]? = some q → p.code = q.code:=fun i p q h1 h2 => by
  have:=congrArg (fun l => l[i]?) hc
  simpa [List.getElem?_map,h1,h2] using this
 -- crossings that have the same place
 have ex:∀ c,∃ c',c < a.n → ∃ (i k:Nat) (p q:Pc),ps[i]? = some p ∧ qs[i]? = some q ∧ p.order[k]? = some c ∧ q.order[k]? = some c':=fun c => by
  by_cases hcn:c < a.n
  ·obtain ⟨i,p,hi,hm⟩:=hp.at_ hcn
   obtain ⟨k,hk,rfl⟩:=List.getElem_of_mem hm
   have hil:=(List.getElem?_eq_some_iff.1 hi).1
   have hq':qs[i]? = some (qs[i]'(by omega)):=List.getElem?_eq_getElem (by omega)
   have e:=hci i p _ hi hq'
   have l1:=(hp.ok p (List.mem_of_getElem? hi)).len
   have l2:=(hq.ok _ (List.mem_of_getElem? hq')).len
   rw [e] at l1
   exact ⟨(qs[i]'(by omega)).order[k]'(by omega),fun _ => ⟨i,k,p,_,hi,hq',List.getElem?_eq_getElem hk,List.getElem?_eq_getElem (by omega)⟩⟩
  ·exact ⟨0,fun h => absurd h hcn⟩
 let σ := fun c => Classical.choose (ex c)
 have hσ:∀ c,c < a.n → ∃ (i k:Nat) (p q:Pc),ps[i]? = some p ∧ qs[i]? = some q ∧ p.order[k]? = some c ∧ q.order[k]? = some (σ c):=fun c hc => Classical.choose_spec (ex c) hc
 have pnd:∀ (d:Dg) (_:Wf d) (p:Pc),PcOk d p → p.order.Nodup:=fun d hd p h => by
  obtain ⟨r,hr,_,e,_⟩:=h
  rw [e]; exact (ord_ok hd hr).nd
 have one:∀ (o:List Nat) (k k' c:Nat),o.Nodup → o[k]? = some c → o[k']? = some c → k = k':=fun o k k' c hn h1 h2 => by
  obtain ⟨l1,e1⟩:=List.getElem?_eq_some_iff.1 h1
  obtain ⟨l2,e2⟩:=List.getElem?_eq_some_iff.1 h2
  exact (List.getElem_inj hn).1 (e1.trans e2.symm)
 -- the place decides
 have fit:∀ c (i k:Nat) (p q:Pc) (c':Nat),c < a.n → ps[i]? = some p → qs[i]? = some q → p.order[k]? = some c → q.order[k]? = some c' → σ c = c':=fun c i k p q c' hc h1 h2 h3 h4 => by
  obtain ⟨i2,k2,p2,q2,g1,g2,g3,g4⟩:=hσ c hc
  obtain rfl := hp.uniq h1 g1 (List.mem_of_getElem? h3) (List.mem_of_getElem? g3)
  rw [h1] at g1; injection g1 with g1; subst g1
  rw [h2] at g2; injection g2 with g2; subst g2
  obtain rfl := one _ k k2 c (pnd a ha p (hp.ok p (List.mem_of_getElem? h1))) h3 g3
  rw [h4] at g4; injection g4 with g4; exact g4.symm
 have blt:∀ (q:Pc) (c:Nat),q ∈ qs → c ∈ q.order → c < b.n:=fun q c h1 h2 => by
  obtain ⟨r,hr,_,e,_⟩:=hq.ok q h1
  rw [e] at h2
  exact ((ord_ok hb hr).mem c h2).1
 have inj:∀ c c',c < a.n → c' < a.n → σ c = σ c' → c = c':=fun c c' hc hc' e => by
  obtain ⟨i,k,p,q,h1,h2,h3,h4⟩:=hσ c hc
  obtain ⟨i2,k2,p2,q2,g1,g2,g3,g4⟩:=hσ c' hc'
  rw [← e] at g4
  obtain rfl := hq.uniq h2 g2 (List.mem_of_getElem? h4) (List.mem_of_getElem? g4)
  rw [h1] at g1; injection g1 with g1; subst g1
  rw [h2] at g2; injection g2 with g2; subst g2
  obtain rfl := one _ k k2 _ (pnd b hb q (hq.ok q (List.mem_of_getElem? h2))) h4 g4
  rw [h3] at g3; injection g3
 have lt:∀ c,c < a.n → σ c < b.n:=fun c hc => by
  obtain ⟨i,k,p,q,h1,h2,h3,h4⟩:=hσ c hc
  exact blt q _ (List.mem_of_getElem? h2) (List.mem_of_getElem? h4)
 have hn:a.n = b.n:=by
  have l1:=pigeon a.n b.n σ lt inj
  have back:∀ c',∃ c,c' < b.n → c < a.n ∧ σ c = c':=fun c' => by
   by_cases hc':c' < b.n
   ·obtain ⟨i,q,hi,hm⟩:=hq.at_ hc'
    obtain ⟨k,hk,rfl⟩:=List.getElem_of_mem hm
    have hil:=(List.getElem?_eq_some_iff.1 hi).1
    have hp':ps[i]? = some (ps[i]'(by omega)):=List.getElem?_eq_getElem (by omega)
    have e:=hci i _ q hp' hi
    have l1:=(hp.ok _ (List.mem_of_getElem? hp')).len
    have l2:=(hq.ok q (List.mem_of_getElem? hi)).len
    rw [e] at l1
    have hk':k < (ps[i]'(by omega)).order.length:=by omega
    obtain ⟨r,hr,_,eo,_⟩:=hp.ok _ (List.mem_of_getElem? hp')
    have hlt:(ps[i]'(by omega)).order[k] < a.n:=by
     have:(ps[i]'(by omega)).order[k] ∈ ord a r:=by rw [← eo]; exact List.getElem_mem hk'
     exact ((ord_ok ha hr).mem _ this).1
    exact ⟨_,fun _ => ⟨hlt,fit _ i k _ q _ hlt hp' hi (List.getElem?_eq_getElem hk') (List.getElem?_eq_getElem hk)⟩⟩
   ·exact ⟨0,fun h => absurd h hc'⟩
  have l2:=pigeon b.n a.n (fun c' => Classical.choose (back c')) (fun c' hc' => (Classical.choose_spec (back c') hc').1) (fun x y hx hy e => by
   have e1:=(Classical.choose_spec (back x) hx).2
   have e2:=(Classical.choose_spec (back y) hy).2
   have e':Classical.choose (back x) = Classical.choose (back y):=e
   rw [← e1,← e2,e'])
  omega
 -- what is read at a crossing
 have rd:∀ c,c < a.n → ∃ (o o':List Nat),chk a o c = chk b o' (σ c) ∧ o.Nodup ∧ o'.Nodup ∧ (∀ t,t < 4 → nb a c t ∈ o ∧ nb b (σ c) t ∈ o') ∧ (∀ (j x x':Nat),o[j]? = some x → o'[j]? = some x' → σ x = x'):=fun c hc => by
  obtain ⟨i,k,p,q,h1,h2,h3,h4⟩:=hσ c hc
  obtain ⟨r,hr,c1,o1,_⟩:=hp.ok p (List.mem_of_getElem? h1)
  obtain ⟨r',hr',c2,o2,_⟩:=hq.ok q (List.mem_of_getElem? h2)
  have e:=hci i p q h1 h2
  rw [c1,c2] at e
  unfold code at e
  rw [o1] at h3
  rw [o2] at h4
  refine ⟨ord a r,ord b r',(flat5_eq e).2 k c _ h3 h4,(ord_ok ha hr).nd,(ord_ok hb hr').nd,fun t ht => ⟨?_,?_⟩,fun j x x' hx hx' => ?_⟩
  ·exact (ord_ok ha hr).done k c (List.getElem?_eq_some_iff.1 h3).1 h3 t ht
  ·exact (ord_ok hb hr').done k _ (List.getElem?_eq_some_iff.1 h4).1 h4 t ht
  ·exact fit x i j p q x' ((ord_ok ha hr).mem x (List.mem_of_getElem? hx)).1 h1 h2 (by rw [o1]; exact hx) (by rw [o2]; exact hx')
 refine ⟨σ,hn,by omega,fun c hc => by rw [hn]; exact lt c hc,inj,fun c hc => ?_,fun h hh => ?_⟩
 ·obtain ⟨o,o',e,_⟩:=rd c hc
  unfold chk at e
  injection e with e
  exact e.symm
 ·have hc:h / 4 < a.n:=by omega
  obtain ⟨o,o',e,nd,nd',mem,pl⟩:=rd (h / 4) hc
  have key:∀ t,t < 4 → 4 * o.idxOf (nb a (h / 4) t) + a.m (4 * (h / 4) + t) % 4 = 4 * o'.idxOf (nb b (σ (h / 4)) t) + b.m (4 * σ (h / 4) + t) % 4:=by
   unfold chk at e
   injection e with _ e
   injection e with e0 e
   injection e with e1 e
   injection e with e2 e
   injection e with e3 _
   intro t ht
   have:t = 0 ∨ t = 1 ∨ t = 2 ∨ t = 3:=by omega
   rcases this with rfl | rfl | rfl | rfl
   ·rw [Nat.add_zero,Nat.add_zero]; omega
   ·omega
   ·omega
   ·omega
  have k:=key (h % 4) (by omega)
  rw [show 4 * (h / 4) + h % 4 = h by omega] at k
  have hm:=mem (h % 4) (by omega)
  have hnb:nb a (h / 4) (h % 4) = a.m h / 4:=by unfold nb; rw [show 4 * (h / 4) + h % 4 = h by omega]
  have hnb':nb b (σ (h / 4)) (h % 4) = b.m (hf σ h) / 4:=rfl
  have k1:o.idxOf (nb a (h / 4) (h % 4)) = o'.idxOf (nb b (σ (h / 4)) (h % 4)):=by omega
  have k2:a.m h % 4 = b.m (hf σ h) % 4:=by show _ = b.m (4 * σ (h / 4) + h % 4) % 4; omega
  have g1:=List.idxOf_lt_length_of_mem hm.1
  have g2:=List.idxOf_lt_length_of_mem hm.2
  have k3:=pl (o.idxOf (nb a (h / 4) (h % 4))) _ _ (by rw [List.getElem?_eq_getElem g1,List.getElem_idxOf]) (by rw [k1,List.getElem?_eq_getElem g2,List.getElem_idxOf])
  rw [hnb,hnb'] at k3
  unfold hf at k2 k3 ⊢
  rw [k3]
  omega
end
end Go.Proofs.YtghdiolnonejaaaDoor.Pl
end
section
namespace Go.Proofs.YtghdiolnonejaaaDoor
open Go Go.RowKit
theorem drop_at {xs:List Int} {k:Nat} (h:k < xs.length):xs.drop k = xs.getD k 0 :: xs.drop (k + 1) := by
 rw [List.drop_eq_getElem_cons h,List.getD_eq_getElem?_getD,List.getElem?_eq_getElem h]; rfl
set_option maxRecDepth 100000 in
set_option maxHeartbeats 4000000 in
theorem compare_any (xs ys:List Int) (A B:Option Addr) (n m c c2:Nat) (w:World) (hA:IntsAt w A n xs) (hB:IntsAt w B m ys) (hn:n ≤ 1000000) (hm:m ≤ 1000000) :
 Calls Tryd.prog 81 #[.slice A n c,.slice B m c2] w fun e w' => e = .returned (.int .i64 (Pl.lx xs ys)) ∧ w' = w := by
 have HA:=hide hA
 have HB:=hide hB
 have LA:=hide hA.len
 have LB:=hide hB.len
 clear hA hB
 go_enter Tryd.func81,Tryd.ntmps81
 go_wp2
 go_loopg [5,6,7,8,11] n (fun g s5 s6 s7 s8 i wx => ∃ k:Nat,k + g = n ∧ i = .int .i64 k ∧ k ≤ m ∧ Pl.lx xs ys = Pl.lx (xs.drop k) (ys.drop k) ∧ wx = w)
 case atStart => exact ⟨0,by omega,rfl,by omega,rfl,rfl⟩
 case round =>
  obtain ⟨k,hkg,rfl,hkm,hlx,rfl⟩:=hrel
  have HKG:=hide hkg
  have HLX:=hide hlx
  clear hlx
  by_cases hk:k < n
  ·have hki:(k:Int) < (n:Int):=by omega
   have k0:(0:Int) ≤ (k:Int):=by omega
   obtain ⟨b,o,rfl,x1⟩:=HA.out.at_ hk
   have e1:=drop_at (xs := xs) (k := k) (by rw [LA.out]; exact hk)
   obtain ⟨u,hu⟩:∃ u,u = xs.getD k 0 := ⟨_,rfl⟩
   rw [← hu] at x1 e1
   have E1:=hide e1
   clear hu hkg e1
   by_cases hk2:k < m
   ·have hk2i:(k:Int) < (m:Int):=by omega
    have hk2j:¬ ((m:Int) ≤ (k:Int)):=by omega
    obtain ⟨b2,o2,rfl,y1⟩:=HB.out.at_ hk2
    have e2:=drop_at (xs := ys) (k := k) (by rw [LB.out]; exact hk2)
    obtain ⟨v,hv⟩:∃ v,v = ys.getD k 0 := ⟨_,rfl⟩
    rw [← hv] at y1 e2
    have E2:=hide e2
    clear hv e2
    go_wp2_with fail
    refine (Tryd.cmp_Compare_int u v _).mono ?_
    rintro e w1 ⟨rfl,rfl⟩
    unfold Lib.compareInt
    have HL:=hide HLX.out
    rcases Int.lt_trichotomy u v with h | h | h
    ·have hne:¬ v < u:=by omega
     have HR:=hide (show Pl.lx xs ys = -1 by rw [HLX.out,E1.out,E2.out,Pl.lx,if_pos h])
     rw [if_pos h]
     clear h hne
     go_wp2
     go_ret
     exact ⟨by rw [HR.out]; rfl,rfl⟩
    ·have HR:=hide (show Pl.lx xs ys = Pl.lx (xs.drop (k + 1)) (ys.drop (k + 1)) by rw [HLX.out,E1.out,E2.out,Pl.lx,if_neg (by omega),if_neg (by omega)])
     rw [if_neg (show ¬ u < v by omega),if_neg (show ¬ v < u by omega)]
     clear h
     go_wp2
     go_roundg (gk - 1)
     case measure => have := HKG.out; omega
     case rel => exact ⟨k + 1,by have := HKG.out; omega,by go_num,by omega,HR.out,rfl⟩
    ·have hne:¬ u < v:=by omega
     have HR:=hide (show Pl.lx xs ys = 1 by rw [HLX.out,E1.out,E2.out,Pl.lx,if_neg hne,if_pos h])
     rw [if_neg hne,if_pos h]
     clear h hne
     go_wp2
     go_ret
     exact ⟨by rw [HR.out]; rfl,rfl⟩
   ·have hk2i:(m:Int) ≤ (k:Int):=by omega
    have HR:=hide (show Pl.lx xs ys = 1 by rw [HLX.out,E1.out,List.drop_eq_nil_of_le (show ys.length ≤ k by rw [LB.out]; omega)]; rfl)
    go_wp2
    go_ret
    exact ⟨by rw [HR.out]; rfl,rfl⟩
  ·have hki:¬ ((k:Int) < (n:Int)):=by omega
   have hkn:k = n:=by omega
   subst hkn
   clear hkg
   by_cases hnm:(k:Int) < (m:Int)
   ·have HR := hide (show Pl.lx xs ys = -1 by
     rw [HLX.out,List.drop_eq_nil_of_le (show xs.length ≤ k by rw [LA.out]; exact Nat.le_refl _),drop_at (xs := ys) (k := k) (by rw [LB.out]; omega)]; rfl)
    go_wp2
    go_ret
    exact ⟨by rw [HR.out]; rfl,rfl⟩
   ·have HR := hide (show Pl.lx xs ys = 0 by
     rw [HLX.out,List.drop_eq_nil_of_le (show xs.length ≤ k by rw [LA.out]; exact Nat.le_refl _),List.drop_eq_nil_of_le (show ys.length ≤ k by rw [LB.out]; omega)]; rfl)
    go_wp2
    go_ret
    exact ⟨by rw [HR.out]; rfl,rfl⟩
end Go.Proofs.YtghdiolnonejaaaDoor
end
section
namespace Go.Proofs.YtghdiolnonejaaaDoor.Pl
variable {d:Dg}
def nums (n:Nat) (o:List Nat):List Int := (List.range n).map (fun c => if c ∈ o then ((o.idxOf c:Nat):Int) else -1)
theorem nums_len (n:Nat) (o:List Nat):(nums n o).length = n := by unfold nums; simp
theorem nums_get {n c:Nat} (o:List Nat) (hc:c < n):(nums n o)[c]? = some (if c ∈ o then ((o.idxOf c:Nat):Int) else -1) := by
 unfold nums
 rw [List.getElem?_map,List.getElem?_range hc]
 rfl
theorem nums_nil (n:Nat):nums n [] = List.replicate n (-1) := by
 unfold nums
 refine List.ext_getElem? fun i => ?_
 rw [List.getElem?_map,List.getElem?_replicate]
 by_cases h:i < n
 ·rw [List.getElem?_range h,if_pos h]; simp
 ·rw [List.getElem?_eq_none (by simp; omega),if_neg h]; rfl
theorem nums_add {n b:Nat} {o:List Nat} (hb:b < n) (hn:b ∉ o):nums n (o ++ [b]) = (nums n o).set b (o.length:Int) := by
 refine List.ext_getElem? fun i => ?_
 rw [List.getElem?_set]
 by_cases hi:i < n
 ·rw [nums_get _ hi]
  by_cases e:b = i
  ·subst e
   have h1:b ∈ o ++ [b]:=by simp
   have h2:b < (nums n o).length:=by rw [nums_len]; exact hi
   rw [if_pos h1,if_pos rfl,if_pos h2,List.idxOf_append,if_neg hn]
   simp
  ·rw [if_neg e,nums_get _ hi]
   by_cases hm:i ∈ o
   ·rw [if_pos (by simp [hm]),if_pos hm,List.idxOf_append,if_pos hm]
   ·rw [if_neg (by simp [hm]; exact fun h => e h.symm),if_neg hm]
 ·have h1:(nums n (o ++ [b])).length ≤ i:=by rw [nums_len]; omega
  rw [List.getElem?_eq_none h1,if_neg (by omega),List.getElem?_eq_none (by rw [nums_len]; omega)]
theorem nums_one {n r:Nat} (hr:r < n):nums n [r] = (List.replicate n (-1)).set r 0 := by
 have:=nums_add (o := []) hr (by simp)
 rw [nums_nil] at this
 exact this
theorem flat5_at {o:List Nat}:∀ {l:List Nat} {i c:Nat},l[i]? = some c → ∀ j,j < 5 → (l.flatMap (chk d o))[5 * i + j]? = (chk d o c)[j]?
 | [],i,c,h,_,_ => by simp at h
 | x :: l, 0, c, h, j, hj => by
   obtain rfl:x = c := by simpa using h
   rw [List.flatMap_cons,Nat.mul_zero,Nat.zero_add,List.getElem?_append_left (by rw [chk_len]; exact hj)]
 | x :: l, i + 1, c, h, j, hj => by
   have ih:=flat5_at (o := o) (l := l) (i := i) (c := c) (by simpa using h) j hj
   rw [List.flatMap_cons,List.getElem?_append_right (by rw [chk_len]; omega),chk_len,← ih]
   congr 1
   omega
theorem code_sgn {r i c:Nat} (h:(ord d r)[i]? = some c):(code d r)[5 * i]? = some (d.s c) := by
 have:=flat5_at (d := d) (o := ord d r) h 0 (by omega)
 exact this
theorem code_nb {r i c s:Nat} (h:(ord d r)[i]? = some c) (hs:s < 4):(code d r)[5 * i + 1 + s]? = some (((4 * (ord d r).idxOf (nb d c s) + d.m (4 * c + s) % 4:Nat)):Int) := by
 have:=flat5_at (d := d) (o := ord d r) h (1 + s) (by omega)
 rw [Nat.add_assoc]
 refine this.trans ?_
 have h4:s = 0 ∨ s = 1 ∨ s = 2 ∨ s = 3:=by omega
 rcases h4 with rfl | rfl | rfl | rfl <;> rfl
theorem take_one {α:Type} {l:List α} {k:Nat} {x:α} (h:l[k]? = some x):l.take (k + 1) = l.take k ++ [x] := by
 rw [List.take_add_one,h]; rfl
def vdt (best:Option (List Int)) (c:List Int) (k:Nat):Int := match best with
 | none => -1
 | some b => lx (c.take k) (b.take k)
theorem vdt_step {b c:List Int} {k:Nat} (hc:k + 5 ≤ c.length) (hb:k + 5 ≤ b.length):vdt (some b) c (k + 5) = if vdt (some b) c k = 0 then lx ((c.drop k).take 5) ((b.drop k).take 5) else vdt (some b) c k := by
 unfold vdt
 simp only
 rw [List.take_add,List.take_add]
 exact lx_app (by rw [List.length_take,List.length_take]; omega) _ _
theorem vdt_keep {b c:List Int} {k:Nat} (hl:c.length = b.length) (h:vdt (some b) c k ≠ 0):lx c b = vdt (some b) c k := by
 unfold vdt at h ⊢
 simp only at h ⊢
 have:=lx_app (l := c.take k) (m := b.take k) (by rw [List.length_take,List.length_take,hl]) (c.drop k) (b.drop k)
 rw [List.take_append_drop,List.take_append_drop,if_neg h] at this
 exact this
def vall (best:Option (List Int)) (c:List Int):Int := match best with | none => -1 | some b => lx c b
theorem vall_some (b c:List Int):vall (some b) c = lx c b := rfl
theorem vall_none (c:List Int):vall none c = -1 := rfl
theorem vdt_all {best:Option (List Int)} {c:List Int} {k:Nat} (hk:c.length ≤ k) (hb:∀ b,best = some b → b.length ≤ k):vdt best c k = vall best c := by
 unfold vdt vall
 cases best with
 | none => rfl
 | some b => simp only; rw [List.take_of_length_le hk,List.take_of_length_le (hb b rfl)]
theorem pre_get {o o':List Nat} (h:o <+: o') {i c:Nat} (hc:o[i]? = some c):o'[i]? = some c := by
 obtain ⟨l,rfl⟩:=h
 rw [List.getElem?_append_left (List.getElem?_eq_some_iff.1 hc).1,hc]
theorem add_ord {r i c s:Nat} (hi:i + 1 ≤ d.n) (hc:(ordK d r i)[i]? = some c) (hs:s ≤ 4):addS d (ordK d r i) c s <+: ord d r := by
 have h1:=addS_mono (d := d) (ordK d r i) c s (4 - s)
 rw [show s + (4 - s) = 4 by omega,← ordK_some hc] at h1
 exact h1.trans (ordK_ord r hi)
theorem code_step {r i c s:Nat} (hi:i + 1 ≤ d.n) (hc:(ordK d r i)[i]? = some c) (hs:s < 4):(code d r)[5 * i + 1 + s]? = some (((4 * (addS d (ordK d r i) c (s + 1)).idxOf (nb d c s) + d.m (4 * c + s) % 4:Nat)):Int) := by
 rw [code_nb (pre_get (ordK_ord r (by omega)) hc) hs,idx_pre (add_ord (s := s + 1) hi hc (by omega)) (addN_mem (addS d (ordK d r i) c s) (nb d c s))]
theorem order_lt {r i:Nat} (hi:i ≤ d.n) (h:i < (ord d r).length):i < (ordK d r i).length := by
 rcases Nat.lt_or_ge i (ordK d r i).length with h1 | h1
 ·exact h1
 ·rw [ord_eq hi h1] at h1; omega
end Go.Proofs.YtghdiolnonejaaaDoor.Pl
end
section
namespace Go.Proofs.YtghdiolnonejaaaDoor
open Go Go.RowKit
attribute [local go_sem ↓] Go.wp_at_zero Go.wp_at_succ
structure CB (W:World) (g1 g2:Nat) (n:Nat) (most:Int):Prop where
 n:Row W g1 3 [.int .i64 (n:Int)]
 m:Row W g2 3 [.int .i64 most]
end Go.Proofs.YtghdiolnonejaaaDoor
end
section
namespace Go.Proofs.YtghdiolnonejaaaDoor
open Go Go.RowKit
attribute [local go_sem ↓] Go.wp_at_zero Go.wp_at_succ
section
variable {w W W':World} {ga k:Nat} {most:Int} {d r:Pl.Dg} {cs:List Int} {l:List Mv} {v:Value} {A9 B9:Option Addr} {n c8 m c9 lp:Nat}
end
theorem own_row_neM {W:World} {base b n:Nat} {t:TypeId} {v:Value} {xs vs:List Value} (h:W.ownsRow base 33 5 v n xs) (hr:Row W b t vs) (ht:33 ≠ t):some b ≠ v.ownBlock := by
 intro e
 obtain ⟨cs,fr,h3⟩:=ownsRow_block h b e.symm
 rw [hr] at h3
 injection h3 with h3
 injection h3 with _ h4
 exact ht h4.symm
theorem DgT.grownM {w w':World} {A B:Option Addr} {d:Pl.Dg} {base n:Nat} {v:Value} {xs:List Value} (h:DgT w A B d) (ho:w.ownsRow base 33 5 v n xs) (hg:w.grownBy w' v.ownBlock):DgT w' A B d :=
 ⟨h.s.grown hg (fun g e => ownsRow_block ho g e) (by decide),h.m.grown hg (fun g e => ownsRow_block ho g e) (by decide)⟩
end Go.Proofs.YtghdiolnonejaaaDoor
end
section
namespace Go.Proofs.YtghdiolnonejaaaDoor
open Go Go.RowKit
attribute [local go_sem ↓] Go.wp_at_zero Go.wp_at_succ
theorem elemI:Tryd.prog.underlying 22 = some (.slice (Tryd.prog.elem 22)) := by kernel_rfl
theorem sizeI (W:World):(sizeOf (Tryd.prog.elem 22)).run Tryd.prog W = .ok 1 W := by kernel_rfl
theorem cut_hi {w:World} {A:Option Addr} {n c:Nat} {xs:List Int} (h:IntsAt w A n xs) {k:Nat} (hk:k ≤ n) (hc:n ≤ c) :
 ∃ A1:Option Addr,IntsAt w A1 (n - k) (xs.drop k) ∧ ∀ W:World,(Instr.slice 22 (.slice A n c) (some (.int .i64 (k:Int))) none none).run Tryd.prog W = .ok (.slice A1 (n - k) (c - k)) W := by
 have hl:=h.len
 refine ⟨if c = k then A else A.map (·.add (k * 1)),⟨by simp; omega,fun hp => ?_⟩,fun W => ?_⟩
 ·obtain ⟨b,o,rfl,hx⟩:=h.2 (by omega)
  rw [if_neg (by omega)]
  refine ⟨b,o + k,by simp [Addr.add_lit],fun j u hu => ?_⟩
  rw [List.map_drop,List.getElem?_drop] at hu
  rw [Nat.add_assoc]
  exact hx _ u hu
 ·rw [run_slice_l W 22 A n c elemI .i64 (k:Int) (by omega) (by omega),sizeI]
  rfl
section
variable {P:Program} (w:World)
end
end Go.Proofs.YtghdiolnonejaaaDoor
end
section
namespace Go.Proofs.YtghdiolnonejaaaDoor
open Go Go.RowKit
attribute [local go_sem ↓] Go.wp_at_zero Go.wp_at_succ
structure NK (w:World) (dv:List Value) (vO vC:Value) (ns:List Int) (o:List Nat) (cs:List Int) (W:World):Prop where
 d:Row W w.heap.size 24 dv
 nu:IRow W (w.heap.size + 1) ns
 o:W.ownsRow (w.heap.size + 2) 3 1 vO o.length (o.map (fun k:Nat => Value.int .i64 k))
 c:W.ownsRow (w.heap.size + 2) 3 1 vC cs.length (cs.map (.int .i64))
 ne:∀ k,vO.ownBlock = some k → vC.ownBlock ≠ some k
 bel:Below w.heap.size w W
section
variable {w W W2:World} {dv:List Value} {vO vC:Value} {ns:List Int} {o:List Nat} {cs:List Int}
theorem NK.big (h:NK w dv vO vC ns o cs W):w.heap.size + 2 ≤ W.heap.size := by have := Row.lt h.nu; omega
theorem NK.below (h:NK w dv vO vC ns o cs W) (hb:Below W.heap.size W W2):NK w dv vO vC ns o cs W2 :=
 ⟨h.d.below hb,Row.below h.nu hb,own_keep h.o hb (Nat.le_refl _),own_keep h.c hb (Nat.le_refl _),h.ne,h.bel.trans (hb.mono (by have := h.big; omega))⟩
theorem NK.alloc (h:NK w dv vO vC ns o cs W) (b:Obj):NK w dv vO vC ns o cs (W.alloc b) := h.below ((Below.refl _ _).alloc (Nat.le_refl _) b)
theorem NK.setN (h:NK w dv vO vC ns o cs W) (i:Nat) (v:Int):NK w dv vO vC (ns.set i v) o cs (W.setCell ⟨w.heap.size + 1,i,none⟩ (.int .i64 v)) :=
 ⟨h.d.other (by show _ ≠ w.heap.size + 1; omega) _,h.nu.set i v,ownsRow_setCell_below h.o (by show w.heap.size + 1 < w.heap.size + 2; omega) _,ownsRow_setCell_below h.c (by show w.heap.size + 1 < w.heap.size + 2; omega) _,h.ne,h.bel.setCell (by show _ ≤ w.heap.size + 1; omega) _⟩
theorem own_hat {g:Nat} {v:Value} {W:World} {base n:Nat} {xs:List Value} {t:TypeId} (h:W.ownsRow base t 1 v n xs) (hat:v.ownBlock = some g ∨ g = W.heap.size) {u:Value} {m:Nat} {ys:List Value} (hu:W.ownsRow base t 1 u m ys) (ne:∀ k,v.ownBlock = some k → u.ownBlock ≠ some k):u.ownBlock ≠ some g := by
 rcases hat with e | e
 ·exact ne g e
 ·intro e2
  have:=(hu.lt g e2).2
  omega
theorem NK.appO (h:NK w dv vO vC ns o cs W) {g c n:Nat} {o':List Nat} (own:W2.ownsRow (w.heap.size + 2) 3 1 (.slice (some ⟨g,0,none⟩) n c) n (o'.map (fun k:Nat => Value.int .i64 k))) (gr:W.grownBy W2 vO.ownBlock) (hat:vO.ownBlock = some g ∨ g = W.heap.size):NK w dv (.slice (some ⟨g,0,none⟩) n c) vC ns o' cs W2 := by
 have hn:n = o'.length:=by have := own.1; simpa using this.symm
 have hne:=own_hat h.o hat h.c h.ne
 have hle:=h.big
 refine ⟨h.d.grown gr (own_row_ne h.o h.d (by decide)),Row.grown h.nu gr (fun e => ?_),by rw [← hn]; exact own,h.c.kept gr ?_,fun k hk => ?_,h.bel.grown gr (by omega) (fun k hk => by have := (h.o.lt k hk).1; omega)⟩
 ·have:=(h.o.lt _ e.symm).1; omega
 ·cases hm:vC.ownBlock with
  | none => exact .inl rfl
  | some x => exact .inr (fun e => h.ne x e.symm hm)
 ·have e:g = k:=by injection hk
  subst e
  exact hne
theorem NK.appC (h:NK w dv vO vC ns o cs W) {g c n:Nat} {cs':List Int} (own:W2.ownsRow (w.heap.size + 2) 3 1 (.slice (some ⟨g,0,none⟩) n c) n (cs'.map (.int .i64))) (gr:W.grownBy W2 vC.ownBlock) (hat:vC.ownBlock = some g ∨ g = W.heap.size):NK w dv vO (.slice (some ⟨g,0,none⟩) n c) ns o cs' W2 := by
 have hn:n = cs'.length:=by have := own.1; simpa using this.symm
 have hne:=own_hat h.c hat h.o (fun k hk e => h.ne k e hk)
 have hle:=h.big
 refine ⟨h.d.grown gr (own_row_ne h.c h.d (by decide)),Row.grown h.nu gr (fun e => ?_),h.o.kept gr ?_,by rw [← hn]; exact own,fun k hk e => ?_,h.bel.grown gr (by omega) (fun k hk => by have := (h.c.lt k hk).1; omega)⟩
 ·have:=(h.c.lt _ e.symm).1; omega
 ·cases hm:vO.ownBlock with
  | none => exact .inl rfl
  | some x => exact .inr (fun e => h.ne x hm e.symm)
 ·have e:g = k:=by injection e
  subst e
  exact hne hk
end
theorem rep_step (k n:Nat) (h:k < n):(List.replicate k (-1:Int) ++ List.replicate (n - k) 0).set k (-1) = List.replicate (k + 1) (-1) ++ List.replicate (n - (k + 1)) 0 := by
 have e:n - k = (n - (k + 1)) + 1:=by omega
 rw [e,List.replicate_succ,List.set_append_right _ _ (by simp),List.length_replicate,Nat.sub_self,List.set_cons_zero,List.replicate_succ' ,List.append_assoc]
 rfl
theorem cut_mid {w:World} {A:Option Addr} {n c:Nat} {xs:List Int} (h:IntsAt w A n xs) {k:Nat} (hk:k + 5 ≤ n) (hc:n ≤ c) :
 ∃ (A1:Option Addr) (c1:Nat),IntsAt w A1 5 ((xs.drop k).take 5) ∧ ∀ W:World,(Instr.slice 22 (.slice A n c) (some (.int .i64 (k:Int))) (some (.int .i64 ((k + 5:Nat):Int))) none).run Tryd.prog W = .ok (.slice A1 5 c1) W := by
 have hl:=h.len
 obtain ⟨b,o,rfl,hx⟩:=h.2 (by omega)
 refine ⟨some ⟨b,o + k,none⟩,c - k,⟨by simp; omega,fun hp => ⟨b,o + k,rfl,fun j u hu => ?_⟩⟩,fun W => ?_⟩
 ·rw [List.map_take,List.getElem?_take] at hu
  split at hu
  ·rw [List.map_drop,List.getElem?_drop] at hu
   rw [Nat.add_assoc]
   exact hx _ u hu
  ·cases hu
 ·rw [run_slice_lh W 22 (some ⟨b,o,none⟩) n c elemI .i64 .i64 (k:Int) ((k + 5:Nat):Int) (by omega) (by omega) (by omega),sizeI]
  simp only [Result.andThen_ok]
  unfold sliced
  rw [Int.toNat_natCast,Int.toNat_natCast,if_neg (show ¬ c = k by omega),show k + 5 - k = 5 by omega]
  simp [Addr.add_lit]
end Go.Proofs.YtghdiolnonejaaaDoor
end
section
namespace Go.Proofs.YtghdiolnonejaaaDoor
open Go Go.RowKit
attribute [local go_sem ↓] Go.wp_at_zero Go.wp_at_succ
theorem back_in {d:Pl.Dg} (hd:Pl.Valid d) {m h:Nat} (hm:m = 4 * d.n) (hh:h < m) (hp:slP d h):(⟨5,(sX d h m:Nat),0,0,false⟩:Mv) ∈ slL (sldD d h) m := by
 have hw:=(Pl.Valid.iff.1 hd).1
 have hh4:h < 4 * d.n:=by omega
 obtain ⟨p1,p2,p3⟩:=hp
 obtain ⟨x1,x2,v0,v1,v2⟩:=sX_v hw hh4 p3.1
 rw [← hm] at x1 x2 v0 v1 v2
 refine (slL_mem _ _ m).2 ⟨sX d h m,by omega,⟨?_,?_,isT_new hd hh4 p3 x2⟩,rfl⟩
 all_goals
  rcases th_new hw hh4 p3.1 x2 with ⟨t0,t1,t2⟩ | ⟨t0,t1,t2⟩ | ⟨t0,t1,t2⟩
 ·rw [t1]; exact v1
 ·rw [t1]; exact v2
 ·rw [t1]; exact v0
 ·rw [t2]; exact v2
 ·rw [t2]; exact v0
 ·rw [t2]; exact v1
theorem mvs_get:∀ (ms:List Mv) (j:Nat) (z:Mv),ms[j]? = some z → ∀ (i:Nat) (u:Value),z.cells[i]? = some u → (mvs ms)[j * 5 + i]? = some u
 | [],j,z,h,_,_,_ => by cases h
 | m :: ms, 0, z, h, i, u, hu => by
   obtain rfl:m = z := by simpa using h
   have hi:i < m.cells.length:=(List.getElem?_eq_some_iff.1 hu).1
   show (m.cells ++ mvs ms)[0 * 5 + i]? = some u
   rw [Nat.zero_mul,Nat.zero_add,List.getElem?_append_left hi,hu]
 | m :: ms, j + 1, z, h, i, u, hu => by
   have ih:=mvs_get ms j z (by simpa using h) i u hu
   show (m.cells ++ mvs ms)[(j + 1) * 5 + i]? = some u
   have e:m.cells.length = 5:=rfl
   rw [List.getElem?_append_right (by rw [e]; omega),e,← ih]
   congr 1
   omega
end Go.Proofs.YtghdiolnonejaaaDoor
end
section
namespace Go.Proofs.YtghdiolnonejaaaDoor
open Go Go.RowKit
attribute [local go_sem ↓] Go.wp_at_zero Go.wp_at_succ
structure AR (w:World) (dv:List Value) (b:Nat) (v:Value) (ms:List Mv) (R:Option Addr) (nr:Nat) (rs:List Mv) (W:World):Prop where
 al:AL w dv b v ms W
 rv:MovesV W R nr rs
 ne:∀ g,0 < nr → R = some ⟨g,0,none⟩ → some g ≠ v.ownBlock
section
variable {w W W':World} {dv:List Value} {b nr:Nat} {v v':Value} {ms ms' rs:List Mv} {R:Option Addr}
end
end Go.Proofs.YtghdiolnonejaaaDoor
end
