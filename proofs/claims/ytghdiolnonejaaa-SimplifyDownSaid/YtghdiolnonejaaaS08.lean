/-
 The texts Xr, Xt, Xu, Xv, Xx, Xw, Xy, Dn, Prt, Rb, Rc, Rl, Rm, Rn, Rv, Rza, Lbp, Lbq, Ya, Lg, Li, Tb.
-/
import Derived.Test.YtghdiolnonejaaaS07
import Derived.Test.YtghdiolnonejaaaS09
set_option linter.unusedVariables false
set_option linter.unusedSimpArgs false
section
namespace Go.Proofs.Ytghdiolnonejaaa
open Go Go.RowKit
attribute [local go_sem ↓] Go.wp_at_zero Go.wp_at_succ
structure MG (w:World) (T:TypeId) (gd gl:Nat) (dv:List Value) (v:Value) (ms:List Mv) (W:World):Prop where
 d:Row W gd T dv
 l:Row W gl 27 [v]
 o:W.ownsRow (gl + 1) 37 5 v ms.length (mvs ms)
 bel:Below w.heap.size w W
 lo:w.heap.size ≤ gd
 lt:gd < gl
section
variable {w W W' W2:World} {T:TypeId} {gd gl:Nat} {dv:List Value} {v v':Value} {ms:List Mv} {m:Mv}
theorem MG.below (h:MG w T gd gl dv v ms W) (hb:Below W.heap.size W W'):MG w T gd gl dv v ms W' :=
 ⟨h.d.below hb,h.l.below hb,own_below h.o hb,h.bel.trans (hb.mono h.bel.size),h.lo,h.lt⟩
theorem MG.alloc (h:MG w T gd gl dv v ms W) (o:Obj):MG w T gd gl dv v ms (W.alloc o) := h.below ((Below.refl _ _).alloc (Nat.le_refl _) o)
theorem MG.big (h:MG w T gd gl dv v ms W):gl < W.heap.size := h.l.lt
theorem MG.far (h:MG w T gd gl dv v ms W) {g:Nat} (hg:g ≤ gl):some g ≠ v.ownBlock := fun e => by have := (h.o.lt g e.symm).1; omega
theorem MG.push (h:MG w T gd gl dv v ms W) (own:W2.ownsRow (gl + 1) 37 5 v' (ms.length + 1) (mvs ms ++ m.cells)) (gr:W.grownBy W2 v.ownBlock):MG w T gd gl dv v' (ms ++ [m]) (W2.setCell ⟨gl,0,none⟩ v') := by
 have a:=h.lo
 have b:=h.lt
 refine ⟨(h.d.grown gr (h.far (by omega))).other (by show gd ≠ gl; omega) _,(h.l.grown gr (h.far (Nat.le_refl _))).set 0 v',?_,?_,h.lo,h.lt⟩
 ·rw [mvs_app,List.length_append]
  exact ownsRow_setCell_below own (by show gl < gl + 1; omega) _
 ·exact (h.bel.grown gr h.bel.size (fun k hk => by have := (h.o.lt k hk).1; omega)).setCell (by show _ ≤ gl; omega) _
end
def one (c:Int) (m:Mv):List Mv := if c = 0 then [m] else []
theorem one_yes {c:Int} {m:Mv} (h:c = 0):one c m = [m] := by unfold one; rw [if_pos h]
theorem one_no {c:Int} {m:Mv} (h:¬ c = 0):one c m = [] := by unfold one; rw [if_neg h]
theorem one_len (c:Int) (m:Mv):(one c m).length ≤ 1 := by unfold one; split <;> simp
def MovesIn (b:Nat) (w:World) (v:Value) (ms:List Mv):Prop := ∃ base,b ≤ base ∧ base ≤ w.heap.size ∧ w.ownsRow base 37 5 v ms.length (mvs ms)
theorem MovesIn.at {b:Nat} {w:World} {v:Value} {ms:List Mv} (h:MovesIn b w v ms):MovesAt w v ms := let ⟨base,_,_,h⟩:=h; ⟨base,h⟩
def unL (d:Pl.Dg):Nat → List Mv
 | 0 => []
 | k + 1 => unL d k ++ one (uncC d k) ⟨2,k,0,0,false⟩
theorem unL_len (d:Pl.Dg):∀ k,(unL d k).length ≤ k
 | 0 => Nat.le_refl _
 | k + 1 => by
   have a:=unL_len d k
   have b:=one_len (uncC d k) ⟨2,k,0,0,false⟩
   show (unL d k ++ one (uncC d k) ⟨2,k,0,0,false⟩).length ≤ _
   rw [List.length_append]
   omega
set_option maxRecDepth 100000 in
set_option maxHeartbeats 4000000 in
theorem unTry_any (d:Pl.Dg) (hd:Pl.Wf d) (A B:Option Addr) (cp cq m gd gl c:Nat) (v:Value) (ms:List Mv) (w0 w:World) (hm:m = 4 * d.n) (hg:DgAt w A B d) (hc:c < d.n) (hms:ms.length ≤ 1000000)
 (hp:MG w0 24 gd gl [.slice A d.n cp,.slice B m cq,.int .i64 (d.lp:Int)] v ms w) :
 Calls Try.prog 103 #[.agg #[.int .i64 2,.int .i64 (c:Int),.int .i64 0,.int .i64 0,.bool false],.pointer (some ⟨gd,0,none⟩),.pointer (some ⟨gl,0,none⟩)] w fun e w' => e = .returned (.tuple #[]) ∧ ∃ v',MG w0 24 gd gl [.slice A d.n cp,.slice B m cq,.int .i64 (d.lp:Int)] v' (ms ++ one (uncC d c) ⟨2,c,0,0,false⟩) w' := by
 have HM:=hide hm
 have HG:=hide hg
 have hn:=hd.few
 obtain ⟨cc,hcc⟩:∃ c',c' = uncC d c := ⟨_,rfl⟩
 have HC:=hide hcc
 have hb0:Below w.heap.size w (w.alloc (.cells #[.int .i64 2,.int .i64 (c:Int),.int .i64 0,.int .i64 0,.bool false] 37)):=(Below.refl _ _).alloc (Nat.le_refl _) _
 have HB0:=hide hb0
 have P1:=hide (hp.below hb0)
 have M1:=hide (row_at (W := w) (g := w.heap.size) (t := 37) (vs := [.int .i64 2,.int .i64 (c:Int),.int .i64 0,.int .i64 0,.bool false]) rfl)
 have hgl:gl < w.heap.size:=hp.big
 have hgd:gd < gl:=hp.lt
 clear hp hb0 hg hm hcc
 obtain ⟨d0,d1,d2,d3⟩:=box3 P1.out.d
 obtain ⟨e0,e1,e2,e3,e4,e5⟩:=box5 M1.out
 go_enter Try.func103,Try.ntmps103
 go_wp2_with fail
 refine (kink_any d hd A B cp cq m c _ HM.out (HG.out.keep HB0.out) hc).mono ?_
 rintro e w1 ⟨he,hb1⟩
 have P2:=hide (P1.out.below hb1)
 have M2:=hide (M1.out.below hb1)
 have HB1:=hide (HB0.out.trans (hb1.mono HB0.out.size))
 have hs2:w.heap.size < w1.heap.size:=M2.out.lt
 have hs3:gl < w1.heap.size:=by omega
 have HE:=hide he
 clear hb1 d0 d1 d2 d3 e0 e1 e2 e3 e4 e5 HB0 P1 M1 he
 obtain ⟨d0,d1,d2,d3⟩:=box3 P2.out.d
 obtain ⟨e0,e1,e2,e3,e4,e5⟩:=box5 M2.out
 by_cases hI:isK d c
 ·have HE2:=HE.out
  rw [Pl.vb_true hI] at HE2
  unfold kinkE at HE2
  obtain ⟨z1,hz1⟩:∃ z:Nat,z = Pl.tn (kk d c) 2 := ⟨_,rfl⟩
  obtain ⟨z2,hz2⟩:∃ z:Nat,z = Pl.tn (d.m (kk d c)) 2 := ⟨_,rfl⟩
  rw [← hz1,← hz2] at HE2
  simp only [if_true] at HE2
  subst HE2
  clear HE hI hz1 hz2
  go_wp2_with fail
  refine (uncurl_m d hd A B cp cq m c 2 0 0 false _ HM.out (HG.out.keep HB1.out) hc).mono ?_
  rintro e w3 ⟨r1,r2,hb3⟩
  have P3:=hide (P2.out.below hb3)
  have M3:=hide (M2.out.below hb3)
  have hs4:w.heap.size < w3.heap.size:=M3.out.lt
  have hs5:gl < w3.heap.size:=by omega
  rw [← HC.out] at r1 r2
  have R1:=hide r1
  have R2:=hide r2
  clear r1 r2 hb3 d0 d1 d2 d3 e0 e1 e2 e3 e4 e5 HB1 P2 M2
  obtain ⟨e0,e1,e2,e3,e4,e5⟩:=box5 M3.out
  have hs6:gl < w3.heap.size + 1:=by omega
  have hs7:gl < w3.heap.size + 1 + 1:=by omega
  have hs8:w.heap.size < w3.heap.size + 1:=by omega
  have hs9:w.heap.size < w3.heap.size + 1 + 1:=by omega
  by_cases h0:cc = 0
  ·obtain ⟨A9,B9,c8,c9,k9,x9,y9,s9,o9,hmv,rfl,hT⟩:=ResOk.split (R2.out h0)
   have E:=hide (show one cc ⟨2,c,0,0,false⟩ = [⟨2,c,0,0,false⟩] from one_yes h0)
   clear h0 R1 R2 hmv hT
   obtain ⟨N9,hN9⟩:∃ n,n = (unD d c).n := ⟨_,rfl⟩
   obtain ⟨N4,hN4⟩:∃ n,n = 4 * (unD d c).n := ⟨_,rfl⟩
   obtain ⟨L9,hL9⟩:∃ n,n = (unD d c).lp := ⟨_,rfl⟩
   rw [← hN4,← hN9,← hL9]
   clear hN9 hN4 hL9
   obtain ⟨q0,q1⟩:=box1 P3.out.l
   obtain ⟨n0,hn0,hz0,hz1,hz2⟩:=info_parts moveInfo
   have PA:=hide ((P3.out.alloc (.cells #[.slice A9 N9 c8,.slice B9 N4 c9,.int .i64 (L9:Int)] 24)).alloc (.cells #[.int .i64 k9,.int .i64 x9,.int .i64 y9,.int .i64 s9,.bool o9] 37))
   have A0:=hide (PA.out.alloc (.cells (Mv.cells ⟨2,c,0,0,false⟩).toArray 37)).o
   have A1:∀ u ∈ Mv.cells ⟨2,c,0,0,false⟩,u.oneCell' = true:=by simp [Mv.cells,Value.oneCell']
   have A2:ms.length + 1 ≤ maxLen:=by unfold maxLen; omega
   have A3:(ms.length + 1) * 40 ≤ 140737488355328:=by omega
   have A6:=hide (five_news ((w3.alloc (.cells #[.slice A9 N9 c8,.slice B9 N4 c9,.int .i64 (L9:Int)] 24)).alloc (.cells #[.int .i64 k9,.int .i64 x9,.int .i64 y9,.int .i64 s9,.bool o9] 37)) (w3.heap.size + 1 + 1) (by simp) ⟨2,c,0,0,false⟩)
   go_wp2_with (at_builtin; refine wpList_append_lies _ (by rfl) _ _ 27 (by rfl) (gl + 1) 37 n0 (.agg #[.int .i64 0,.int .i64 0,.int .i64 0,.int .i64 0,.bool false]) 5 40 Try.underlying27 hn0 hz0 hz1 hz2 rfl (by omega) v ms.length (mvs ms) (by rfl) A0.out ⟨w3.heap.size + 1 + 1,0,none⟩ 1 1 (Mv.cells ⟨2,c,0,0,false⟩) (by rfl) (by rfl) A6.out A1 (by omega) A2 A3 (by simp; omega) (w3.heap.size + 1 + 1 + 1) (by simp) ?_; intro g2 c2 w2 own2 grow2 at2 lt2; obtain ⟨q2,q3⟩:=box1 ((PA.out.alloc (.cells (Mv.cells ⟨2,c,0,0,false⟩).toArray 37)).l.grown grow2 ((PA.out.alloc (.cells (Mv.cells ⟨2,c,0,0,false⟩).toArray 37)).far (Nat.le_refl _))); have OWN2 := hide own2; have GR2 := hide grow2; clear own2 grow2 at2)
   refine bodyPost_end (results_none rfl _ _ _) rfl ⟨rfl,.slice (some ⟨g2,0,none⟩) (ms.length + 1) c2,?_⟩
   rw [← HC.out,E.out]
   exact (PA.out.alloc _).push OWN2.out GR2.out
  ·have E:=hide (show one cc ⟨2,c,0,0,false⟩ = [] from one_no h0)
   have hE:=ResErr.split (R1.out h0)
   subst hE
   have t1:(cc == 0) = false:=by rw [beq_eq_false_iff_ne]; exact h0
   clear h0 R1 R2
   go_wp2
   refine bodyPost_end (results_none rfl _ _ _) rfl ⟨rfl,v,?_⟩
   rw [← HC.out,E.out,List.append_nil]
   exact (P3.out.alloc _).alloc _
 ·have HE2:=HE.out
  rw [Pl.vb_false hI] at HE2
  have E:=hide (show one cc ⟨2,c,0,0,false⟩ = [] from one_no (by
   rw [HC.out]
   unfold uncC
   rw [if_neg (show ¬ d.m (kk d c) / 4 = c from hI)]
   decide))
  unfold kinkE at HE2
  simp only [Bool.false_eq_true,if_false] at HE2
  subst HE2
  clear HE hI
  go_wp2
  refine bodyPost_ret (results_none rfl _ _ _) rfl ⟨rfl,v,?_⟩
  rw [← HC.out,E.out,List.append_nil]
  exact P2.out
set_option maxRecDepth 100000 in
set_option maxHeartbeats 4000000 in
theorem uncurls_any (d:Pl.Dg) (hd:Pl.Wf d) (A B:Option Addr) (cp cq m:Nat) (w:World) (hm:m = 4 * d.n) (hg:DgAt w A B d) :
 Calls Try.prog 59 #[.agg #[.slice A d.n cp,.slice B m cq,.int .i64 d.lp]] w fun e w' => ∃ v,e = .returned v ∧ MovesIn w.heap.size w' v (unL d d.n) ∧ Below w.heap.size w w' := by
 have HM:=hide hm
 have HG:=hide hg
 have hn:=hd.few
 have P0:=hide (show MG w 24 w.heap.size (w.heap.size + 1) [.slice A d.n cp,.slice B m cq,.int .i64 (d.lp:Int)] (.slice none 0 0) [] ((w.alloc (.cells #[.slice A d.n cp,.slice B m cq,.int .i64 (d.lp:Int)] 24)).alloc (.cells #[.slice none 0 0] 27)) from
  ⟨(row_at (vs := [_,_,_]) rfl).alloc _,row_at (vs := [_]) (by simp),⟨rfl,.inl ⟨rfl,rfl⟩⟩,((Below.refl _ _).alloc (Nat.le_refl _) _).alloc (by simp) _,Nat.le_refl _,by omega⟩)
 clear hg hm
 go_enter Try.func59,Try.ntmps59
 go_wp2
 go_loopg [5,10] d.n (fun g s5 s10 wx => ∃ (k:Nat) (v:Value),k + g = d.n ∧ s10 = .int .i64 (k:Int) ∧ MG w 24 w.heap.size (w.heap.size + 1) [.slice A d.n cp,.slice B m cq,.int .i64 (d.lp:Int)] v (unL d k) wx)
 case atStart => exact ⟨0,_,by omega,rfl,P0.out⟩
 case round =>
  clear P0
  obtain ⟨k,v,hkg,rfl,hp⟩:=hrel
  have HKG:=hide hkg
  have PK:=hide hp
  have hlen:=unL_len d k
  clear hp
  by_cases hk:k < d.n
  ·have hki:(k:Int) < (d.n:Int):=by omega
   clear hkg
   go_wp2_with fail
   refine (unTry_any d hd A B cp cq m w.heap.size (w.heap.size + 1) k v (unL d k) w wr HM.out (HG.out.keep PK.out.bel) hk (by omega) PK.out).mono ?_
   rintro e w1 ⟨rfl,v',hp1⟩
   have P1:=hide hp1
   clear hp1
   go_wp2
   go_roundg (gk - 1)
   case measure => have := HKG.out; omega
   case rel => exact ⟨k + 1,v',by have := HKG.out; omega,by go_num,P1.out⟩
  ·have hki:¬ ((k:Int) < (d.n:Int)):=by omega
   have e:k = d.n:=by omega
   have EL:=hide (show unL d k = unL d d.n by rw [e])
   obtain ⟨q0,q1⟩:=box1 PK.out.l
   clear hkg e
   go_wp2
   go_ret
   exact ⟨v,rfl,⟨w.heap.size + 1 + 1,by omega,PK.out.big,by rw [← EL.out]; exact PK.out.o⟩,PK.out.bel⟩
end Go.Proofs.Ytghdiolnonejaaa
end
section
namespace Go.Proofs.Ytghdiolnonejaaa
open Go Go.RowKit
attribute [local go_sem ↓] Go.wp_at_zero Go.wp_at_succ
def upY (d:Pl.Dg) (x:Nat):Nat → List Mv
 | 0 => []
 | k + 1 => upY d x k ++ (if x < k then one (unpC d x k) ⟨4,x,k,0,false⟩ else [])
def upX (d:Pl.Dg):Nat → List Mv
 | 0 => []
 | k + 1 => upX d k ++ upY d k d.n
theorem upY_none (d:Pl.Dg) (x:Nat):∀ k,k ≤ x + 1 → upY d x k = []
 | 0,_ => rfl
 | k + 1, h => by
   show upY d x k ++ (if x < k then one (unpC d x k) ⟨4,x,k,0,false⟩ else []) = []
   rw [upY_none d x k (by omega),if_neg (by omega)]
   rfl
theorem upY_len (d:Pl.Dg) (x:Nat):∀ k,(upY d x k).length ≤ k
 | 0 => Nat.le_refl _
 | k + 1 => by
   have a:=upY_len d x k
   have b:=one_len (unpC d x k) ⟨4,x,k,0,false⟩
   show (upY d x k ++ (if x < k then one (unpC d x k) ⟨4,x,k,0,false⟩ else [])).length ≤ _
   rw [List.length_append]
   split
   ·omega
   ·simp; omega
theorem upX_len {d:Pl.Dg} (hn:d.n ≤ 64):∀ k,(upX d k).length ≤ 64 * k
 | 0 => Nat.le_refl _
 | k + 1 => by
   have a:=upX_len hn k
   have b:=upY_len d k d.n
   show (upX d k ++ upY d k d.n).length ≤ _
   rw [List.length_append]
   omega
set_option maxRecDepth 100000 in
set_option maxHeartbeats 4000000 in
theorem upTry_any (d:Pl.Dg) (hd:Pl.Wf d) (A B:Option Addr) (cp cq m gd gl x y:Nat) (v:Value) (ms:List Mv) (w0 w:World) (hm:m = 4 * d.n) (hg:DgAt w A B d) (hxy:x < y) (hy:y < d.n) (hms:ms.length ≤ 1000000)
 (hp:MG w0 24 gd gl [.slice A d.n cp,.slice B m cq,.int .i64 (d.lp:Int)] v ms w) :
 Calls Try.prog 106 #[.agg #[.int .i64 4,.int .i64 (x:Int),.int .i64 (y:Int),.int .i64 0,.bool false],.pointer (some ⟨gd,0,none⟩),.pointer (some ⟨gl,0,none⟩)] w fun e w' => e = .returned (.tuple #[]) ∧ ∃ v',MG w0 24 gd gl [.slice A d.n cp,.slice B m cq,.int .i64 (d.lp:Int)] v' (ms ++ one (unpC d x y) ⟨4,x,y,0,false⟩) w' := by
 have HM:=hide hm
 have HG:=hide hg
 have hn:=hd.few
 obtain ⟨cc,hcc⟩:∃ c',c' = unpC d x y := ⟨_,rfl⟩
 have HC:=hide hcc
 have hb0:Below w.heap.size w (w.alloc (.cells #[.int .i64 4,.int .i64 (x:Int),.int .i64 (y:Int),.int .i64 0,.bool false] 37)):=(Below.refl _ _).alloc (Nat.le_refl _) _
 have HB0:=hide hb0
 have P1:=hide (hp.below hb0)
 have M1:=hide (row_at (W := w) (g := w.heap.size) (t := 37) (vs := [.int .i64 4,.int .i64 (x:Int),.int .i64 (y:Int),.int .i64 0,.bool false]) rfl)
 have hgl:gl < w.heap.size:=hp.big
 have hgd:gd < gl:=hp.lt
 clear hp hb0 hg hm hcc
 obtain ⟨d0,d1,d2,d3⟩:=box3 P1.out.d
 obtain ⟨e0,e1,e2,e3,e4,e5⟩:=box5 M1.out
 go_enter Try.func106,Try.ntmps106
 go_wp2_with fail
 refine (find_any d hd A B cp cq m x y _ HM.out (HG.out.keep HB0.out) (by omega) hy).mono ?_
 rintro e w1 ⟨he,hb1⟩
 have P2:=hide (P1.out.below hb1)
 have M2:=hide (M1.out.below hb1)
 have HB1:=hide (HB0.out.trans (hb1.mono HB0.out.size))
 have hs2:w.heap.size < w1.heap.size:=M2.out.lt
 have hs3:gl < w1.heap.size:=by omega
 have hs2':w.heap.size < w1.heap.size + 1:=by omega
 have hs1d:gd < w1.heap.size:=by omega
 have hs3':gl < w1.heap.size + 1:=by omega
 have HE:=hide he
 clear hb1 d0 d1 d2 d3 e0 e1 e2 e3 e4 e5 HB0 P1 M1 he
 obtain ⟨d0,d1,d2,d3⟩:=box3 P2.out.d
 obtain ⟨e0,e1,e2,e3,e4,e5⟩:=box5 M2.out
 obtain ⟨L,hL⟩:∃ L,L = lensI d x y := ⟨_,rfl⟩
 have HL:=hide hL
 have HE2:=HE.out
 rw [← hL] at HE2
 clear hL HE
 cases L with
 | some i =>
   unfold findE lensV at HE2
   dsimp only at HE2
   obtain ⟨l0,hl0⟩:∃ z:Nat,z = lnH x y i := ⟨_,rfl⟩
   rw [← hl0] at HE2
   obtain ⟨l1,hl1⟩:∃ z:Nat,z = d.m (Pl.nx d l0) := ⟨_,rfl⟩
   rw [← hl1] at HE2
   obtain ⟨l2,hl2⟩:∃ z:Nat,z = Pl.tn l0 2 := ⟨_,rfl⟩
   rw [← hl2] at HE2
   obtain ⟨l3,hl3⟩:∃ z:Nat,z = Pl.tn l1 2 := ⟨_,rfl⟩
   rw [← hl3] at HE2
   obtain ⟨l4,hl4⟩:∃ z:Nat,z = Pl.tn (d.m l0) 2 := ⟨_,rfl⟩
   rw [← hl4] at HE2
   obtain ⟨l5,hl5⟩:∃ z:Nat,z = Pl.nx d l0 := ⟨_,rfl⟩
   rw [← hl5] at HE2
   obtain ⟨l6,hl6⟩:∃ z:Nat,z = d.m l0 := ⟨_,rfl⟩
   rw [← hl6] at HE2
   obtain ⟨l7,hl7⟩:∃ z:Nat,z = Pl.tn l5 2 := ⟨_,rfl⟩
   rw [← hl7] at HE2
   clear hl0 hl1 hl2 hl3 hl4 hl5 hl6 hl7
   subst HE2
   have PL:=hide (P2.out.alloc (.cells #[.int .i64 (l0:Int),.int .i64 (l1:Int),.int .i64 (l2:Int),.int .i64 (l3:Int),.int .i64 (l4:Int),.int .i64 (l5:Int),.int .i64 (l6:Int),.int .i64 (l7:Int)] 101))
   have ML0:=hide (M2.out.alloc (.cells #[.int .i64 (l0:Int),.int .i64 (l1:Int),.int .i64 (l2:Int),.int .i64 (l3:Int),.int .i64 (l4:Int),.int .i64 (l5:Int),.int .i64 (l6:Int),.int .i64 (l7:Int)] 101))
   have HBL:=hide (HB1.out.alloc HB1.out.size (.cells #[.int .i64 (l0:Int),.int .i64 (l1:Int),.int .i64 (l2:Int),.int .i64 (l3:Int),.int .i64 (l4:Int),.int .i64 (l5:Int),.int .i64 (l6:Int),.int .i64 (l7:Int)] 101))
   go_wp2_with fail
   refine (unpoke_m d hd A B cp cq m x y 4 0 false _ HM.out (HG.out.keep HBL.out) hxy hy).mono ?_
   rintro e w3 ⟨r1,r2,hb3⟩
   have P3:=hide (PL.out.below hb3)
   have M3:=hide (ML0.out.below hb3)
   have hs4:w.heap.size < w3.heap.size:=M3.out.lt
   have hs5:gl < w3.heap.size:=by omega
   rw [← HC.out] at r1 r2
   have R1:=hide r1
   have R2:=hide r2
   clear r1 r2 hb3 d0 d1 d2 d3 e0 e1 e2 e3 e4 e5 HB1 P2 M2 PL ML0 HBL
   obtain ⟨e0,e1,e2,e3,e4,e5⟩:=box5 M3.out
   have hs6:gl < w3.heap.size + 1:=by omega
   have hs7:gl < w3.heap.size + 1 + 1:=by omega
   have hs8:w.heap.size < w3.heap.size + 1:=by omega
   have hs9:w.heap.size < w3.heap.size + 1 + 1:=by omega
   by_cases h0:cc = 0
   ·obtain ⟨A9,B9,c8,c9,k9,x9,y9,s9,o9,hmv,rfl,hT⟩:=ResOk.split (R2.out h0)
    have E:=hide (show one cc ⟨4,x,y,0,false⟩ = [⟨4,x,y,0,false⟩] from one_yes h0)
    clear h0 R1 R2 hmv hT
    obtain ⟨N9,hN9⟩:∃ n,n = (unpD d x y).n := ⟨_,rfl⟩
    obtain ⟨N4,hN4⟩:∃ n,n = 4 * (unpD d x y).n := ⟨_,rfl⟩
    obtain ⟨L9,hL9⟩:∃ n,n = (unpD d x y).lp := ⟨_,rfl⟩
    rw [← hN4,← hN9,← hL9]
    clear hN9 hN4 hL9
    obtain ⟨q0,q1⟩:=box1 P3.out.l
    obtain ⟨n0,hn0,hz0,hz1,hz2⟩:=info_parts moveInfo
    have PA:=hide ((P3.out.alloc (.cells #[.slice A9 N9 c8,.slice B9 N4 c9,.int .i64 (L9:Int)] 24)).alloc (.cells #[.int .i64 k9,.int .i64 x9,.int .i64 y9,.int .i64 s9,.bool o9] 37))
    have A0:=hide (PA.out.alloc (.cells (Mv.cells ⟨4,x,y,0,false⟩).toArray 37)).o
    have A1:∀ u ∈ Mv.cells ⟨4,x,y,0,false⟩,u.oneCell' = true:=by simp [Mv.cells,Value.oneCell']
    have A2:ms.length + 1 ≤ maxLen:=by unfold maxLen; omega
    have A3:(ms.length + 1) * 40 ≤ 140737488355328:=by omega
    have A6:=hide (five_news ((w3.alloc (.cells #[.slice A9 N9 c8,.slice B9 N4 c9,.int .i64 (L9:Int)] 24)).alloc (.cells #[.int .i64 k9,.int .i64 x9,.int .i64 y9,.int .i64 s9,.bool o9] 37)) (w3.heap.size + 1 + 1) (by simp) ⟨4,x,y,0,false⟩)
    go_wp2_with (at_builtin; refine wpList_append_lies _ (by rfl) _ _ 27 (by rfl) (gl + 1) 37 n0 (.agg #[.int .i64 0,.int .i64 0,.int .i64 0,.int .i64 0,.bool false]) 5 40 Try.underlying27 hn0 hz0 hz1 hz2 rfl (by omega) v ms.length (mvs ms) (by rfl) A0.out ⟨w3.heap.size + 1 + 1,0,none⟩ 1 1 (Mv.cells ⟨4,x,y,0,false⟩) (by rfl) (by rfl) A6.out A1 (by omega) A2 A3 (by simp; omega) (w3.heap.size + 1 + 1 + 1) (by simp) ?_; intro g2 c2 w2 own2 grow2 at2 lt2; obtain ⟨q2,q3⟩:=box1 ((PA.out.alloc (.cells (Mv.cells ⟨4,x,y,0,false⟩).toArray 37)).l.grown grow2 ((PA.out.alloc (.cells (Mv.cells ⟨4,x,y,0,false⟩).toArray 37)).far (Nat.le_refl _))); have OWN2 := hide own2; have GR2 := hide grow2; clear own2 grow2 at2)
    refine bodyPost_end (results_none rfl _ _ _) rfl ⟨rfl,.slice (some ⟨g2,0,none⟩) (ms.length + 1) c2,?_⟩
    rw [← HC.out,E.out]
    exact (PA.out.alloc _).push OWN2.out GR2.out
   ·have E:=hide (show one cc ⟨4,x,y,0,false⟩ = [] from one_no h0)
    have hE:=ResErr.split (R1.out h0)
    subst hE
    have t1:(cc == 0) = false:=by rw [beq_eq_false_iff_ne]; exact h0
    clear h0 R1 R2
    go_wp2
    refine bodyPost_end (results_none rfl _ _ _) rfl ⟨rfl,v,?_⟩
    rw [← HC.out,E.out,List.append_nil]
    exact (P3.out.alloc _).alloc _
 | none =>
   unfold findE noLens at HE2
   dsimp only at HE2
   have E:=hide (show one cc ⟨4,x,y,0,false⟩ = [] from one_no (by
    rw [HC.out]
    unfold unpC
    rw [← HL.out]
    intro h
    cases h))
   subst HE2
   go_wp2
   refine bodyPost_ret (results_none rfl _ _ _) rfl ⟨rfl,v,?_⟩
   rw [← HC.out,E.out,List.append_nil]
   exact P2.out.alloc _
set_option maxRecDepth 100000 in
set_option maxHeartbeats 4000000 in
theorem unpokes_any (d:Pl.Dg) (hd:Pl.Wf d) (A B:Option Addr) (cp cq m:Nat) (w:World) (hm:m = 4 * d.n) (hg:DgAt w A B d) :
 Calls Try.prog 61 #[.agg #[.slice A d.n cp,.slice B m cq,.int .i64 d.lp]] w fun e w' => ∃ v,e = .returned v ∧ MovesIn w.heap.size w' v (upX d d.n) ∧ Below w.heap.size w w' := by
 have HM:=hide hm
 have HG:=hide hg
 have hn:=hd.few
 have P0:=hide (show MG w 24 w.heap.size (w.heap.size + 1) [.slice A d.n cp,.slice B m cq,.int .i64 (d.lp:Int)] (.slice none 0 0) [] ((w.alloc (.cells #[.slice A d.n cp,.slice B m cq,.int .i64 (d.lp:Int)] 24)).alloc (.cells #[.slice none 0 0] 27)) from
  ⟨(row_at (vs := [_,_,_]) rfl).alloc _,row_at (vs := [_]) (by simp),⟨rfl,.inl ⟨rfl,rfl⟩⟩,((Below.refl _ _).alloc (Nat.le_refl _) _).alloc (by simp) _,Nat.le_refl _,by omega⟩)
 clear hg hm
 go_enter Try.func61,Try.ntmps61
 go_wp2
 go_loopg [5,6,11] d.n (fun g s5 s6 s11 wx => ∃ (k:Nat) (v:Value),k + g = d.n ∧ s11 = .int .i64 (k:Int) ∧ MG w 24 w.heap.size (w.heap.size + 1) [.slice A d.n cp,.slice B m cq,.int .i64 (d.lp:Int)] v (upX d k) wx)
 case atStart => exact ⟨0,_,by omega,rfl,P0.out⟩
 case round =>
  clear P0
  obtain ⟨k,v,hkg,rfl,hp⟩:=hrel
  obtain ⟨go,rfl⟩:∃ go,go = gk := ⟨_,rfl⟩
  have HKG:=hide hkg
  have PK:=hide hp
  have hlen:=upX_len hn k
  clear hp
  by_cases hk:k < d.n
  ·have hki:(k:Int) < (d.n:Int):=by omega
   clear hkg
   go_wp2
   go_loopg [6] (d.n - (k + 1)) (fun g s6 wx => ∃ (j:Nat) (u:Value),j + g = d.n ∧ k + 1 ≤ j ∧ s6 = .int .i64 (j:Int) ∧ MG w 24 w.heap.size (w.heap.size + 1) [.slice A d.n cp,.slice B m cq,.int .i64 (d.lp:Int)] u (upX d k ++ upY d k j) wx)
   case atStart => exact ⟨k + 1,v,by omega,by omega,by go_num,by rw [upY_none d k (k + 1) (Nat.le_refl _),List.append_nil]; exact PK.out⟩
   case round =>
    clear PK
    obtain ⟨j,u,hjg,hkj,rfl,hq⟩:=hrel
    have HJG:=hide hjg
    have QJ:=hide hq
    have hlen2:=upY_len d k j
    obtain ⟨d0,d1,d2,d3⟩:=box3 hq.d
    clear hq hjg
    by_cases hj:j < d.n
    ·have hji:(j:Int) < (d.n:Int):=by omega
     go_wp2_with fail
     refine (upTry_any d hd A B cp cq m _ _ k j u _ w _ HM.out (HG.out.keep QJ.out.bel) (by omega) hj (by simp only [List.length_append]; omega) QJ.out).mono ?_
     rintro e w1 ⟨rfl,u1,hp1⟩
     have Q1:=hide hp1
     clear hp1
     go_wp2
     go_roundg (gk - 1)
     case measure => have := HJG.out; omega
     case rel =>
      have e2:upY d k (j + 1) = upY d k j ++ one (unpC d k j) ⟨4,k,j,0,false⟩:=by
       show upY d k j ++ (if k < j then one (unpC d k j) ⟨4,k,j,0,false⟩ else []) = _
       rw [if_pos (by omega)]
      exact ⟨j + 1,u1,by have := HJG.out; omega,by omega,by go_num,by rw [e2]; simpa using Q1.out⟩
    ·have hji:¬ ((j:Int) < (d.n:Int)):=by omega
     have E2:=hide (show upX d (k + 1) = upX d k ++ upY d k j by
      have:j = d.n:=by have := HJG.out; omega
      rw [this]; rfl)
     go_wp2
     go_roundg (go - 1)
     case measure => have := HKG.out; omega
     case rel => exact ⟨k + 1,u,by have := HKG.out; omega,by go_num,by rw [E2.out]; exact QJ.out⟩
  ·have hki:¬ ((k:Int) < (d.n:Int)):=by omega
   have e:k = d.n:=by omega
   have EL:=hide (show upX d k = upX d d.n by rw [e])
   obtain ⟨q0,q1⟩:=box1 PK.out.l
   clear hkg e
   go_wp2
   go_ret
   exact ⟨v,rfl,⟨w.heap.size + 1 + 1,by omega,PK.out.big,by rw [← EL.out]; exact PK.out.o⟩,PK.out.bel⟩
end Go.Proofs.Ytghdiolnonejaaa
end
section
namespace Go.Proofs.Ytghdiolnonejaaa
open Go Go.RowKit
attribute [local go_sem ↓] Go.wp_at_zero Go.wp_at_succ
section
variable {P:Program} (w:World)
def SrcAt (w:World) (A:Option Addr) (m:Nat) (xs:List Value):Prop := xs.length = m * 5 ∧ (0 < m → ∃ b o,A = some ⟨b,o,none⟩ ∧ ∀ (j:Nat) u,xs[j]? = some u → w.cell? ⟨b,o + j,none⟩ = some u) ∧ ∀ u ∈ xs,u.oneCell' = true
theorem mvs_one (ms:List Mv):∀ u ∈ mvs ms,u.oneCell' = true := by
 intro u hu
 unfold mvs at hu
 obtain ⟨m,_,hm⟩:=List.mem_flatMap.1 hu
 simp only [Mv.cells,List.mem_cons,List.not_mem_nil,or_false] at hm
 rcases hm with rfl | rfl | rfl | rfl | rfl <;> rfl
theorem MovesAt.src {w:World} {v:Value} {ms:List Mv} (h:MovesAt w v ms):∃ (A:Option Addr) (c:Nat),v = .slice A ms.length c ∧ SrcAt w A ms.length (mvs ms) := by
 obtain ⟨base,h⟩:=h
 obtain ⟨A,c,rfl⟩:=owns_slice h
 refine ⟨A,c,rfl,h.1,fun hp => ?_,mvs_one ms⟩
 obtain ⟨g,cap,e,_,hg⟩:=World.ownsRow.form h hp
 injection e with e1 _ _
 subst e1
 refine ⟨g,0,rfl,fun j u hu => ?_⟩
 have hj:j < ms.length * 5:=by
  have:=(List.getElem?_eq_some_iff.1 hu).1
  rw [mvs_len] at this
  exact this
 rw [Nat.zero_add,World.ownsRow.cellAt h j hj]
 exact hu
theorem run_append_src (base:Nat) (t ty e:TypeId) (i:TypeInfo) (z:Value) (bytes:Nat) (ht:P.underlying t = some (.slice e)) (hi:P.info? e = some i) (hz:i.zero = some z)
 (hsize:i.size = 5) (hby:i.bytes = bytes) (hzs:z.cells.size = 5)
 (v:Value) (n:Nat) (xs:List Value) (hown:w.ownsRow base e 5 v n xs)
 (A:Option Addr) (m c:Nat) (ys:List Value) (hin:SrcAt w A m ys)
 (h63:n + m ≤ maxLen) (hbytes:(n + m) * bytes ≤ 140737488355328) (hbase:base ≤ w.heap.size) :
 ∃ v' w',(Builtin.append_ #[t,t] ty #[v,.slice A m c]).run P w = .ok v' w' ∧ w'.ownsRow base e 5 v' (n + m) (xs ++ ys) ∧ w.grownBy w' v.ownBlock := by
 have hl:=hin.1
 rcases Nat.eq_zero_or_pos m with h0 | h0
 ·subst h0
  obtain rfl:ys = [] := List.eq_nil_of_length_eq_zero (by omega)
  have hr:(Builtin.append_ #[t,t] ty #[v,.slice A 0 c]).run P w = .ok v w:=by
   rcases hown.2 with ⟨rfl,rfl⟩ | ⟨g,cap,cur,rfl,_,_,hnc,_⟩
   ·cases A <;> simp [Builtin.append_,run_underlying ht,sizeOf,typeInfo,hi,Builtin.lenOf,Builtin.firstCells,loadCells,loadCellsFrom]
   ·cases A <;> simp [Builtin.append_,run_underlying ht,sizeOf,typeInfo,hi,Builtin.lenOf,Builtin.firstCells,hnc,storeCells,loadCells,loadCellsFrom]
  refine ⟨v,w,hr,by simpa using hown,⟨rfl,rfl,rfl,Nat.le_refl _,fun _ _ _ => rfl⟩⟩
 ·obtain ⟨b,o,rfl,hc⟩:=hin.2.1 h0
  obtain ⟨v',w',hr,h2,h3,_⟩:=run_append_own (P := P) w base t ty e i z 5 bytes ht hi hz hsize hby hzs (by omega) v n xs hown ⟨b,o,none⟩ m c ys hl (fun j u hu => by
   have:(⟨b,o,none⟩:Addr).add j = ⟨b,o + j,none⟩:=by unfold Addr.add; split <;> simp_all
   rw [this]; exact hc j u hu) hin.2.2 h63 hbytes hbase
  exact ⟨v',w',hr,h2,h3⟩
theorem wp_append_src {o:Oper} {a:Act} {K:Act → World → Prop} {Q:Exit → Act → World → Prop} (s x:Operand) (t:TypeId)
 (ho:o.op = .call { callee := .builtin .append,args := #[s,x],argTypes := #[t,t] })
 (base:Nat) (e:TypeId) (i:TypeInfo) (z:Value) (bytes:Nat) (ht:P.underlying t = some (.slice e)) (hi:P.info? e = some i) (hz:i.zero = some z)
 (hsize:i.size = 5) (hby:i.bytes = bytes) (hzs:z.cells.size = 5)
 (v:Value) (n:Nat) (xs:List Value) (hs:a.eval s = v) (hown:w.ownsRow base e 5 v n xs)
 (A:Option Addr) (m c:Nat) (ys:List Value) (hx:a.eval x = .slice A m c) (hin:SrcAt w A m ys)
 (h63:n + m ≤ maxLen) (hbytes:(n + m) * bytes ≤ 140737488355328) (hbase:base ≤ w.heap.size)
 (h:∀ v' w',w'.ownsRow base e 5 v' (n + m) (xs ++ ys) → w.grownBy w' v.ownBlock → K (a.put o.dst v') w'):o.wp P a w K Q := by
 obtain ⟨v',w',hr,h2,h3⟩:=run_append_src (P := P) w base t o.type e i z bytes ht hi hz hsize hby hzs v n xs hown A m c ys hin h63 hbytes hbase
 unfold Oper.wp execOp
 simp only [ho,resolve,invoke,builtin,Sem.run_bind,Sem.run_pure,Result.andThen_ok,List.map_toArray,List.map_cons,List.map_nil,hs,hx,hr]
 exact h v' w' h2 h3
theorem step_append_src {ops:Array Oper} {o:Oper} {a:Act} {K:Act → World → Prop} {Q:Exit → Act → World → Prop} {E:Prop} (hgd:o.guard = none) (s x:Operand) (t:TypeId)
 (ho:o.op = .call { callee := .builtin .append,args := #[s,x],argTypes := #[t,t] })
 (base:Nat) (e:TypeId) (i:TypeInfo) (z:Value) (bytes:Nat) (ht:P.underlying t = some (.slice e)) (hi:P.info? e = some i) (hz:i.zero = some z)
 (hsize:i.size = 5) (hby:i.bytes = bytes) (hzs:z.cells.size = 5)
 (v:Value) (n:Nat) (xs:List Value) (hs:a.eval s = v) (hown:w.ownsRow base e 5 v n xs)
 (A:Option Addr) (m c:Nat) (ys:List Value) (hx:a.eval x = .slice A m c) (hin:SrcAt w A m ys)
 (h63:n + m ≤ maxLen) (hbytes:(n + m) * bytes ≤ 140737488355328) (hbase:base ≤ w.heap.size)
 (h:∀ v' w',w'.ownsRow base e 5 v' (n + m) (xs ++ ys) → w.grownBy w' v.ownBlock → K (a.put o.dst v') w') :
 if Region.wanted o (yielded ops a.tmps) = true then Oper.wp P o a w K Q else E := by
 have hw:Region.wanted o (yielded ops a.tmps) = true:=by simp [Region.wanted,hgd]
 rw [if_pos hw]
 exact wp_append_src w s x t ho base e i z bytes ht hi hz hsize hby hzs v n xs hs hown A m c ys hx hin h63 hbytes hbase h
end
def unC:Nat → List Mv
 | 0 => []
 | k + 1 => unC k ++ [⟨2,k,0,0,false⟩]
def upN (x:Nat):Nat → List Mv
 | 0 => []
 | k + 1 => upN x k ++ (if x < k then [⟨4,x,k,0,false⟩] else [])
def upNX (n:Nat):Nat → List Mv
 | 0 => []
 | k + 1 => upNX n k ++ upN k n
noncomputable def sel (d:Pl.Dg) (l:List Mv):List Mv := l.flatMap (fun m => one (apC d m) m)
theorem sel_nil (d:Pl.Dg):sel d [] = [] := rfl
theorem sel_app (d:Pl.Dg) (l r:List Mv):sel d (l ++ r) = sel d l ++ sel d r := by unfold sel; rw [List.flatMap_append]
theorem sel_cons (d:Pl.Dg) (m:Mv) (l:List Mv):sel d (m :: l) = one (apC d m) m ++ sel d l := by unfold sel; rw [List.flatMap_cons]
theorem mem_one {c:Int} {m z:Mv}:z ∈ one c m ↔ z = m ∧ c = 0 := by
 unfold one
 split
 ·rename_i h; simp [h]
 ·rename_i h; simp [h]
theorem mem_sel {d:Pl.Dg} {l:List Mv} {z:Mv}:z ∈ sel d l ↔ z ∈ l ∧ apC d z = 0 := by
 unfold sel
 rw [List.mem_flatMap]
 constructor
 ·rintro ⟨m,h1,h2⟩
  obtain ⟨rfl,h3⟩:=mem_one.1 h2
  exact ⟨h1,h3⟩
 ·rintro ⟨h1,h2⟩
  exact ⟨z,h1,mem_one.2 ⟨rfl,h2⟩⟩
theorem apC_in {d:Pl.Dg} {m:Mv} (hk:1 ≤ m.kind ∧ m.kind ≤ 5) (hin:inR d.n m):apC d m = if m.kind = 1 then curlableC d m.x else if m.kind = 2 then uncC d m.x.toNat else if m.kind = 3 then pkQ d m.x m.y m.sign else if m.kind = 4 then unpC d m.x.toNat m.y.toNat else sldC d m.x.toNat := by
 unfold apC
 rw [if_neg (by omega),if_neg (by rw [Pl.vb_true hin]; decide)]
theorem un_code {d:Pl.Dg} {c:Nat} (hc:c < d.n):apC d ⟨2,c,0,0,false⟩ = uncC d c := by
 rw [apC_in (by simp) (by unfold inR; simp; omega)]
 simp
theorem up_code {d:Pl.Dg} {x y:Nat} (hx:x < y) (hy:y < d.n):apC d ⟨4,x,y,0,false⟩ = unpC d x y := by
 rw [apC_in (by simp) (by unfold inR; simp; omega)]
 simp
theorem un_sel (d:Pl.Dg):∀ k,k ≤ d.n → unL d k = sel d (unC k)
 | 0,_ => rfl
 | k + 1, h => by
   show unL d k ++ one (uncC d k) ⟨2,k,0,0,false⟩ = sel d (unC k ++ [⟨2,k,0,0,false⟩])
   rw [sel_app,un_sel d k (by omega),sel_cons,sel_nil,un_code (by omega),List.append_nil]
theorem upY_sel (d:Pl.Dg) (x:Nat):∀ k,k ≤ d.n → upY d x k = sel d (upN x k)
 | 0,_ => rfl
 | k + 1, h => by
   show upY d x k ++ (if x < k then one (unpC d x k) ⟨4,x,k,0,false⟩ else []) = sel d (upN x k ++ (if x < k then [⟨4,x,k,0,false⟩] else []))
   rw [sel_app,upY_sel d x k (by omega)]
   congr 1
   split
   ·rename_i hx; rw [sel_cons,sel_nil,up_code hx (by omega),List.append_nil]
   ·rfl
theorem up_sel (d:Pl.Dg):∀ k,upX d k = sel d (upNX d.n k)
 | 0 => rfl
 | k + 1 => by
   show upX d k ++ upY d k d.n = sel d (upNX d.n k ++ upN k d.n)
   rw [sel_app,up_sel d k,upY_sel d k d.n (Nat.le_refl _)]
section
variable {d:Pl.Dg} {F P:List Nat}
end
noncomputable def remL (d:Pl.Dg):List Mv := sel d (unC d.n) ++ sel d (upNX d.n d.n)
end Go.Proofs.Ytghdiolnonejaaa
end
section
namespace Go.Proofs.Ytghdiolnonejaaa
open Go Go.RowKit
attribute [local go_sem ↓] Go.wp_at_zero Go.wp_at_succ
theorem mvs_apps (ms r:List Mv):mvs (ms ++ r) = mvs ms ++ mvs r := by unfold mvs; rw [List.flatMap_append]
structure AL (w:World) (dv:List Value) (b:Nat) (v:Value) (ms:List Mv) (W:World):Prop where
 d:Row W w.heap.size 24 dv
 o:W.ownsRow b 37 5 v ms.length (mvs ms)
 bel:Below w.heap.size w W
 lo:w.heap.size < b
 lo2:b ≤ W.heap.size
section
variable {w W W' W2:World} {dv:List Value} {b:Nat} {v v':Value} {ms r:List Mv}
theorem AL.below (h:AL w dv b v ms W) (hb:Below W.heap.size W W'):AL w dv b v ms W' :=
 ⟨h.d.below hb,own_below h.o hb,h.bel.trans (hb.mono h.bel.size),h.lo,Nat.le_trans h.lo2 hb.size⟩
theorem AL.far (h:AL w dv b v ms W):some w.heap.size ≠ v.ownBlock := fun e => by have := (h.o.lt _ e.symm).1; have := h.lo; omega
theorem AL.app (h:AL w dv b v ms W) (own:W2.ownsRow b 37 5 v' (ms.length + r.length) (mvs ms ++ mvs r)) (gr:W.grownBy W2 v.ownBlock):AL w dv b v' (ms ++ r) W2 := by
 refine ⟨h.d.grown gr h.far,?_,h.bel.grown gr h.bel.size (fun k hk => by have := (h.o.lt k hk).1; have := h.lo; omega),h.lo,Nat.le_trans h.lo2 gr.size⟩
 rw [mvs_apps,List.length_append]
 exact own
end
theorem un_le {d:Pl.Dg} (hn:d.n ≤ 64):(sel d (unC d.n)).length ≤ 64 := by
 have a:=unL_len d d.n
 rw [un_sel d _ (Nat.le_refl _)] at a
 omega
theorem up_le {d:Pl.Dg} (hn:d.n ≤ 64):(sel d (upNX d.n d.n)).length ≤ 4096 := by
 have a:=upX_len hn d.n
 rw [up_sel d _] at a
 omega
end Go.Proofs.Ytghdiolnonejaaa
end
section
namespace Go.Proofs.Ytghdiolnonejaaa
open Go Go.RowKit
attribute [local go_sem ↓] Go.wp_at_zero Go.wp_at_succ
theorem mv_get:∀ (ms:List Mv) (j:Nat) (z:Mv),ms[j]? = some z → ∀ (i:Nat) (u:Value),z.cells[i]? = some u → (mvs ms)[j * 5 + i]? = some u
 | [],j,z,h,_,_,_ => by cases h
 | m :: ms, 0, z, h, i, u, hu => by
   obtain rfl:m = z := by simpa using h
   have hi:i < m.cells.length:=(List.getElem?_eq_some_iff.1 hu).1
   show (m.cells ++ mvs ms)[0 * 5 + i]? = some u
   rw [Nat.zero_mul,Nat.zero_add,List.getElem?_append_left hi,hu]
 | m :: ms, j + 1, z, h, i, u, hu => by
   have ih:=mv_get ms j z (by simpa using h) i u hu
   show (m.cells ++ mvs ms)[(j + 1) * 5 + i]? = some u
   have e:m.cells.length = 5:=rfl
   rw [List.getElem?_append_right (by rw [e]; omega),e,← ih]
   congr 1
   omega
theorem mv_val {w:World} {v:Value} {ms:List Mv} (h:MovesAt w v ms):∃ (A:Option Addr) (c:Nat),v = .slice A ms.length c ∧ (0 < ms.length → ∃ g,A = some ⟨g,0,none⟩ ∧ g < w.heap.size ∧ ∀ (j:Nat) (z:Mv),ms[j]? = some z → ∀ (i:Nat) (u:Value),z.cells[i]? = some u → w.cell? ⟨g,j * 5 + i,none⟩ = some u) := by
 obtain ⟨base,h⟩:=h
 obtain ⟨A,c,rfl⟩:=owns_slice h
 refine ⟨A,c,rfl,fun hp => ?_⟩
 obtain ⟨g,cap,e,_,hg⟩:=World.ownsRow.form h hp
 injection e with e1 _ _
 subst e1
 refine ⟨g,rfl,hg,fun j z hz i u hu => ?_⟩
 have hj:j < ms.length:=(List.getElem?_eq_some_iff.1 hz).1
 have hi:i < 5:=(List.getElem?_eq_some_iff.1 hu).1
 rw [World.ownsRow.cellAt h (j * 5 + i) (by omega)]
 exact mv_get ms j z hz i u hu
def MovesV (w:World) (A:Option Addr) (n:Nat) (ms:List Mv):Prop := n = ms.length ∧ (0 < n → ∃ g,A = some ⟨g,0,none⟩ ∧ g < w.heap.size ∧ ∀ (j:Nat) (z:Mv),ms[j]? = some z → ∀ (i:Nat) (u:Value),z.cells[i]? = some u → w.cell? ⟨g,j * 5 + i,none⟩ = some u)
theorem MovesV.keep {w w':World} {A:Option Addr} {n:Nat} {ms:List Mv} (h:MovesV w A n ms) (hb:Below w.heap.size w w'):MovesV w' A n ms :=
 ⟨h.1,fun hp => let ⟨g,e,hl,hc⟩:=h.2 hp; ⟨g,e,Nat.lt_of_lt_of_le hl hb.size,fun j z hz i u hu => cell_below (hc j z hz i u hu) hb⟩⟩
theorem MovesAt.mv {w:World} {v:Value} {ms:List Mv} (h:MovesAt w v ms):∃ (A:Option Addr) (c:Nat),v = .slice A ms.length c ∧ MovesV w A ms.length ms := by
 obtain ⟨A,c,e,h2⟩:=mv_val h
 exact ⟨A,c,e,rfl,h2⟩
theorem MovesV.at_ {w:World} {A:Option Addr} {n j:Nat} {ms:List Mv} (h:MovesV w A n ms) (hj:j < n):∃ g k x y s o,A = some ⟨g,0,none⟩ ∧ g < w.heap.size ∧ ms[j]? = some ⟨k,x,y,s,o⟩ ∧ w.cell? ⟨g,j * 5,none⟩ = some (.int .i64 k) ∧ w.cell? ⟨g,j * 5 + 1,none⟩ = some (.int .i64 x) ∧ w.cell? ⟨g,j * 5 + 2,none⟩ = some (.int .i64 y) ∧ w.cell? ⟨g,j * 5 + 3,none⟩ = some (.int .i64 s) ∧ w.cell? ⟨g,j * 5 + 4,none⟩ = some (.bool o) := by
 obtain ⟨g,e,hl,hc⟩:=h.2 (by omega)
 obtain ⟨z,hz⟩:∃ z,ms[j]? = some z := ⟨_,List.getElem?_eq_getElem (by rw [← h.1]; exact hj)⟩
 obtain ⟨k,x,y,s,o⟩:=z
 exact ⟨g,k,x,y,s,o,e,hl,hz,hc j _ hz 0 _ rfl,hc j _ hz 1 _ rfl,hc j _ hz 2 _ rfl,hc j _ hz 3 _ rfl,hc j _ hz 4 _ rfl⟩
def eqM (a b:Mv):Bool := a.kind == b.kind && a.x == b.x && a.y == b.y && a.sign == b.sign && a.over == b.over
set_option maxRecDepth 100000 in
set_option maxHeartbeats 4000000 in
theorem Removing_any (d:Pl.Dg) (hd:Pl.Valid d) (A B:Option Addr) (cp cq m:Nat) (w:World) (hm:m = 4 * d.n) (hg:DgAt w A B d) :
 Calls Try.prog 41 #[.agg #[.slice A d.n cp,.slice B m cq,.int .i64 d.lp]] w fun e w' => ∃ v,e = .returned v ∧ MovesIn w.heap.size w' v (remL d) ∧ Below w.heap.size w w' := by
 have HM:=hide hm
 have HG:=hide hg
 have HW:=hide (Pl.Valid.iff.1 hd).1
 have hn:=hd.wf.few
 clear hg hm
 have R0:=hide (row_at (W := w) (g := w.heap.size) (t := 24) (vs := [.slice A d.n cp,.slice B m cq,.int .i64 (d.lp:Int)]) rfl)
 have B0:=hide (show Below w.heap.size w (w.alloc (.cells #[.slice A d.n cp,.slice B m cq,.int .i64 (d.lp:Int)] 24)) from (Below.refl _ _).alloc (Nat.le_refl _) _)
 go_enter Try.func41,Try.ntmps41
 go_wp2_with fail
 refine (valid_yes d hd A B cp cq m _ HM.out (HG.out.keep B0.out)).mono ?_
 rintro e w1 ⟨rfl,hb1⟩
 have R1:=hide (R0.out.below hb1)
 have B1:=hide (B0.out.trans (hb1.mono B0.out.size))
 clear hb1
 obtain ⟨d0,d1,d2,d3⟩:=box3 R1.out
 go_wp2_with fail
 have lun:=un_le (d := d) hn
 have lup:=up_le (d := d) hn
 have B3:(sel d (unC d.n)).length + (sel d (upNX d.n d.n)).length ≤ maxLen:=by unfold maxLen; omega
 have C3:((sel d (unC d.n)).length + (sel d (upNX d.n d.n)).length) * 40 ≤ 140737488355328:=by omega
 obtain ⟨n0,hn0,hz0,hz1,hz2⟩:=info_parts moveInfo
 have hw1:w.heap.size < w1.heap.size:=R1.out.lt
 have HG1:=hide (show DgAt w1.drew A B d from ⟨(HG.out.keep B1.out).s,(HG.out.keep B1.out).m⟩)
 go_region_law
  (first
    | (refine step_append_src _ ?_ (.tmp 7) (.tmp 9) 27 ?_ b 37 n0 (.agg #[.int .i64 0, .int .i64 0, .int .i64 0, .int .i64 0, .bool false]) 40 Try.underlying27 hn0 hz0 hz1 hz2 rfl v3 _ _ ?_ Q4.out.o A4 _ c4 _ ?_ S4.out B3 C3 Q4.out.lo2 ?_
       ·rfl
       ·rfl
       ·rfl
       ·rfl
       intro v5 w5 own5 grow5
       have Q5:=hide (Q4.out.app own5 grow5)
       clear own5 grow5)
    | (go_simp
       go_wp2_with (first
        | ((go_at_call 59); refine Calls.mono (uncurls_any d HW.out A B cp cq m _ HM.out HG1.out) ?_; rintro e w3 ⟨v3,rfl,⟨b,hlb,hlb2,own3⟩,hb3⟩; rw [un_sel d _ (Nat.le_refl _)] at own3; have Q3 := hide (show AL w [.slice A d.n cp,.slice B m cq,.int .i64 (d.lp:Int)] b v3 (sel d (unC d.n)) w3 from ⟨R1.out.drew.below hb3,own3,B1.out.drew.trans (hb3.mono B1.out.size),Nat.lt_of_lt_of_le hw1 hlb,hlb2⟩); obtain ⟨e0,e1,e2,e3⟩:=box3 Q3.out.d; clear own3 hb3)
        | ((go_at_call 61); refine Calls.mono (unpokes_any d HW.out A B cp cq m _ HM.out (HG.out.keep Q3.out.bel)) ?_; rintro e w4 ⟨v4,rfl,hv4,hb4⟩; rw [up_sel] at hv4; obtain ⟨A4,c4,rfl,src4⟩:=hv4.at.src; have Q4 := hide (Q3.out.below hb4); have S4 := hide src4; clear hb4 hv4 src4))))
 all_goals
  go_wp2
  go_ret
  exact ⟨v5,rfl,⟨b,by have := Q5.out.lo; omega,Q5.out.lo2,Q5.out.o⟩,Q5.out.bel⟩
end Go.Proofs.Ytghdiolnonejaaa
end
section
namespace Go.Proofs.Ytghdiolnonejaaa
open Go Go.RowKit
theorem mem_unC {n:Nat} {z:Mv}:∀ k,k ≤ n → (z ∈ unC k ↔ z.kind = 2 ∧ inR n z ∧ z.x < (k:Int))
 | 0, _ => by
   constructor
   ·intro h; cases h
   ·rintro ⟨h1,h2,h3⟩
    unfold inR at h2
    rw [if_neg (by omega),if_pos h1] at h2
    omega
 | k + 1, h => by
   show z ∈ unC k ++ [⟨2,k,0,0,false⟩] ↔ _
   rw [List.mem_append,mem_unC (n := n) k (by omega)]
   obtain ⟨zk,zx,zy,zs,zo⟩:=z
   constructor
   ·rintro (⟨h1,h2,h3⟩ | h1)
    ·exact ⟨h1,h2,by simp only at h3 ⊢; omega⟩
    ·simp only [List.mem_cons,List.not_mem_nil,or_false,Mv.mk.injEq] at h1
     obtain ⟨rfl,rfl,rfl,rfl,rfl⟩:=h1
     refine ⟨rfl,?_,by simp only; omega⟩
     unfold inR
     simp
     omega
   ·rintro ⟨h1,h2,h3⟩
    by_cases hx:zx < (k:Int)
    ·exact .inl ⟨h1,h2,hx⟩
    ·right
     unfold inR at h2
     rw [if_neg (by omega),if_pos h1] at h2
     simp only at h1 h2 h3
     simp only [List.mem_cons,List.not_mem_nil,or_false,Mv.mk.injEq]
     exact ⟨h1,by omega,h2.2.2.1,h2.2.2.2.1,h2.2.2.2.2⟩
theorem mem_upN {n x:Nat} {z:Mv}:∀ k,k ≤ n → (z ∈ upN x k ↔ z.kind = 4 ∧ inR n z ∧ z.x = (x:Int) ∧ z.y < (k:Int))
 | 0, _ => by
   constructor
   ·intro h; cases h
   ·rintro ⟨h1,h2,h3,h4⟩
    unfold inR at h2
    rw [if_neg (by omega),if_neg (by omega),if_pos h1] at h2
    omega
 | k + 1, h => by
   show z ∈ upN x k ++ (if x < k then [⟨4,x,k,0,false⟩] else []) ↔ _
   rw [List.mem_append,mem_upN (n := n) k (by omega)]
   obtain ⟨zk,zx,zy,zs,zo⟩:=z
   constructor
   ·rintro (⟨h1,h2,h3,h4⟩ | h1)
    ·exact ⟨h1,h2,h3,by simp only at h4 ⊢; omega⟩
    ·split at h1
     ·simp only [List.mem_cons,List.not_mem_nil,or_false,Mv.mk.injEq] at h1
      obtain ⟨rfl,rfl,rfl,rfl,rfl⟩:=h1
      refine ⟨rfl,?_,rfl,by simp only; omega⟩
      unfold inR
      simp
      omega
     ·cases h1
   ·rintro ⟨h1,h2,h3,h4⟩
    by_cases hx:zy < (k:Int)
    ·exact .inl ⟨h1,h2,h3,hx⟩
    ·right
     unfold inR at h2
     rw [if_neg (by omega),if_neg (by omega),if_pos h1] at h2
     simp only at h1 h2 h3 h4
     rw [if_pos (by omega)]
     simp only [List.mem_cons,List.not_mem_nil,or_false,Mv.mk.injEq]
     exact ⟨h1,h3,by omega,h2.2.2.2.1,h2.2.2.2.2⟩
theorem mem_upNX {n:Nat} {z:Mv}:∀ k,k ≤ n → (z ∈ upNX n k ↔ z.kind = 4 ∧ inR n z ∧ z.x < (k:Int))
 | 0, _ => by
   constructor
   ·intro h; cases h
   ·rintro ⟨h1,h2,h3⟩
    unfold inR at h2
    rw [if_neg (by omega),if_neg (by omega),if_pos h1] at h2
    omega
 | k + 1, h => by
   show z ∈ upNX n k ++ upN k n ↔ _
   rw [List.mem_append,mem_upNX (n := n) k (by omega),mem_upN (n := n) n (Nat.le_refl _)]
   constructor
   ·rintro (⟨h1,h2,h3⟩ | ⟨h1,h2,h3,h4⟩)
    ·exact ⟨h1,h2,by omega⟩
    ·exact ⟨h1,h2,by omega⟩
   ·rintro ⟨h1,h2,h3⟩
    by_cases hx:z.x < (k:Int)
    ·exact .inl ⟨h1,h2,hx⟩
    ·right
     refine ⟨h1,h2,by omega,?_⟩
     unfold inR at h2
     rw [if_neg (by omega),if_neg (by omega),if_pos h1] at h2
     omega
theorem un_kind {d:Pl.Dg} {z:Mv} (h:z ∈ sel d (unC d.n)):z.kind = 2 := ((mem_unC _ (Nat.le_refl _)).1 (mem_sel.1 h).1).1
theorem up_kind {d:Pl.Dg} {z:Mv} (h:z ∈ sel d (upNX d.n d.n)):z.kind = 4 := ((mem_upNX _ (Nat.le_refl _)).1 (mem_sel.1 h).1).1
end Go.Proofs.Ytghdiolnonejaaa
end
section
namespace Go.Proofs.Ytghdiolnonejaaa
open Go Go.RowKit
attribute [local go_sem ↓] Go.wp_at_zero Go.wp_at_succ
section
variable {w W W' W2:World} {vR vS:Value} {rs ss:List Mv} {m:Mv} {g n c:Nat}
theorem apart {v u:Value} (ne:∀ g,v.ownBlock = some g → u.ownBlock = some g → False):u.ownBlock = none ∨ u.ownBlock ≠ v.ownBlock := by
 cases hu:u.ownBlock with
 | none => exact .inl rfl
 | some g => exact .inr (fun e => ne g e.symm hu)
end
theorem remL_le {d:Pl.Dg} (hn:d.n ≤ 64):(remL d).length ≤ 5000 := by
 have b:=un_le (d := d) hn
 have e:=up_le (d := d) hn
 unfold remL
 rw [List.length_append]
 omega
end Go.Proofs.Ytghdiolnonejaaa
end
section
namespace Go.Proofs.Ytghdiolnonejaaa
open Go Go.RowKit
noncomputable def dn:Nat → Pl.Dg → Pl.Dg × List Mv
 | 0,d => (d,[])
 | k + 1, d => match remL d with
   | [] => (d,[])
   | z :: _ => ((dn k (apD d z)).1,z :: (dn k (apD d z)).2)
noncomputable def dnD (d:Pl.Dg):Pl.Dg := (dn d.n d).1
noncomputable def dnM (d:Pl.Dg):List Mv := (dn d.n d).2
theorem dn_none {d:Pl.Dg} (h:remL d = []):∀ k,dn k d = (d,[])
 | 0 => rfl
 | k + 1 => by unfold dn; rw [h]
theorem dn_some {d:Pl.Dg} {z:Mv} {l:List Mv} (h:remL d = z :: l) (k:Nat):dn (k + 1) d = ((dn k (apD d z)).1,z :: (dn k (apD d z)).2) := by
 rw [dn,h]
theorem rem_ok {d:Pl.Dg} {z:Mv} (h:z ∈ remL d):apC d z = 0 ∧ (z.kind = 2 ∨ z.kind = 4) := by
 unfold remL at h
 rcases List.mem_append.1 h with h | h
 ·exact ⟨(mem_sel.1 h).2,.inl (un_kind h)⟩
 ·exact ⟨(mem_sel.1 h).2,.inr (up_kind h)⟩
theorem rem_less {d:Pl.Dg} (hd:Pl.Valid d) {z:Mv} (h:z ∈ remL d):(apD d z).n + 1 ≤ d.n := by
 obtain ⟨h1,h2⟩:=rem_ok h
 have e:((apD d z).n:Int) = (d.n:Int) + moreK z:=(signs_law hd z h1).2.1
 obtain ⟨a,ha⟩:∃ a,a = (apD d z).n := ⟨_,rfl⟩
 obtain ⟨b,hb⟩:∃ b,b = d.n := ⟨_,rfl⟩
 rw [← ha,← hb] at e ⊢
 unfold moreK at e
 rcases h2 with h2 | h2 <;> simp [h2] at e <;> omega
theorem rem_flat {d:Pl.Dg} (hn:d.n = 0):remL d = [] := by
 unfold remL
 rw [hn]
 rfl
theorem dn_more {d:Pl.Dg} (hd:Pl.Valid d):∀ k,d.n ≤ k → dn k d = dn d.n d := by
 suffices h:∀ n,∀ d:Pl.Dg,Pl.Valid d → d.n ≤ n → ∀ k j,d.n ≤ k → d.n ≤ j → dn k d = dn j d from fun k hk => h d.n d hd (Nat.le_refl _) k d.n hk (Nat.le_refl _)
 intro n
 induction n with
 | zero =>
   intro d hd h0 k j _ _
   have e:=rem_flat (d := d) (by omega)
   rw [dn_none e,dn_none e]
 | succ n ih =>
   intro d hd hn k j hk hj
   cases hr:remL d with
   | nil => rw [dn_none hr,dn_none hr]
   | cons z l =>
     have hz:z ∈ remL d:=by rw [hr]; exact List.mem_cons_self
     have hl:=rem_less hd hz
     have hv:=(ap_ok hd (rem_ok hz).1).1
     obtain ⟨k',rfl⟩:∃ k',k = k' + 1 := ⟨k - 1,by omega⟩
     obtain ⟨j',rfl⟩:∃ j',j = j' + 1 := ⟨j - 1,by omega⟩
     rw [dn_some hr,dn_some hr,ih _ hv (by omega) k' j' (by omega) (by omega)]
theorem dn_next {d:Pl.Dg} (hd:Pl.Valid d) {z:Mv} {l:List Mv} (h:remL d = z :: l):dnD d = dnD (apD d z) ∧ dnM d = z :: dnM (apD d z) := by
 have hz:z ∈ remL d:=by rw [h]; exact List.mem_cons_self
 have hl:=rem_less hd hz
 have hv:=(ap_ok hd (rem_ok hz).1).1
 obtain ⟨k,hk⟩:∃ k,d.n = k + 1 := ⟨d.n - 1,by omega⟩
 unfold dnD dnM
 rw [hk,dn_some h,dn_more hv k (by omega)]
 exact ⟨rfl,rfl⟩
theorem dn_stop {d:Pl.Dg} (h:remL d = []):dnD d = d ∧ dnM d = [] := by
 unfold dnD dnM
 rw [dn_none h]
 exact ⟨rfl,rfl⟩
theorem dnM_nil {d:Pl.Dg} (hd:Pl.Valid d):dnM d = [] ↔ remL d = [] := by
 constructor
 ·intro h
  cases hr:remL d with
  | nil => rfl
  | cons z l => rw [(dn_next hd hr).2] at h; cases h
 ·exact fun h => (dn_stop h).2
def dgL (l:Nat):Pl.Dg := ⟨[],[],l⟩
def dgT:Pl.Dg := ⟨[1,-1],[6,5,4,7,2,1,0,3],0⟩
theorem dgL_valid (l:Nat) (hl:l ≤ 64):Pl.Valid (dgL l) := valid_empty hl
theorem dgT_is:apC (dgL 2) ⟨3,-2,-2,0,true⟩ = 0 ∧ apD (dgL 2) ⟨3,-2,-2,0,true⟩ = dgT := by
 constructor
 ·rw [apC_in (by decide) (by unfold inR; decide)]
  rw [if_neg (by decide),if_neg (by decide),if_pos rfl]
  unfold pkQ
  rw [if_neg (by decide),if_neg (by rw [Pl.vb_iff]; intro h; exact absurd h.1 (by decide)),if_neg (by decide)]
 ·decide
theorem dgT_valid:Pl.Valid dgT := by
 rw [← dgT_is.2]
 exact (ap_ok (dgL_valid 2 (by omega)) dgT_is.1).1
theorem dgT_rem:remL dgT = [⟨4,0,1,0,false⟩] := by
 unfold remL
 show sel dgT [⟨2,(0:Nat),0,0,false⟩,⟨2,(1:Nat),0,0,false⟩] ++ sel dgT [⟨4,(0:Nat),(1:Nat),0,false⟩] = _
 rw [sel_cons,sel_cons,sel_cons,sel_nil,un_code (d := dgT) (c := 0) (by decide),un_code (d := dgT) (c := 1) (by decide),up_code (d := dgT) (x := 0) (y := 1) (by decide) (by decide),one_no (show ¬ uncC dgT 0 = 0 by decide),one_no (show ¬ uncC dgT 1 = 0 by decide),one_yes (show unpC dgT 0 1 = 0 by decide)]
 rfl
theorem dgT_ap:apD dgT ⟨4,0,1,0,false⟩ = dgL 2 := by decide
theorem dgT_dn:dnD dgT = dgL 2 ∧ dnM dgT = [⟨4,0,1,0,false⟩] := by
 obtain ⟨h1,h2⟩:=dn_next dgT_valid dgT_rem
 obtain ⟨h3,h4⟩:=dn_stop (d := dgL 2) (rem_flat rfl)
 rw [h1,h2,dgT_ap,h3,h4]
 exact ⟨rfl,rfl⟩
theorem tref_rem:remL Pl.tref = [] := by
 unfold remL
 show sel Pl.tref [⟨2,(0:Nat),0,0,false⟩,⟨2,(1:Nat),0,0,false⟩,⟨2,(2:Nat),0,0,false⟩] ++ sel Pl.tref [⟨4,(0:Nat),(1:Nat),0,false⟩,⟨4,(0:Nat),(2:Nat),0,false⟩,⟨4,(1:Nat),(2:Nat),0,false⟩] = _
 rw [sel_cons,sel_cons,sel_cons,sel_cons,sel_cons,sel_cons,sel_nil,un_code (d := Pl.tref) (c := 0) (by decide),un_code (d := Pl.tref) (c := 1) (by decide),un_code (d := Pl.tref) (c := 2) (by decide),up_code (d := Pl.tref) (x := 0) (y := 1) (by decide) (by decide),up_code (d := Pl.tref) (x := 0) (y := 2) (by decide) (by decide),up_code (d := Pl.tref) (x := 1) (y := 2) (by decide) (by decide),one_no (show ¬ uncC Pl.tref 0 = 0 by decide),one_no (show ¬ uncC Pl.tref 1 = 0 by decide),one_no (show ¬ uncC Pl.tref 2 = 0 by decide),one_no (show ¬ unpC Pl.tref 0 1 = 0 by decide),one_no (show ¬ unpC Pl.tref 0 2 = 0 by decide),one_no (show ¬ unpC Pl.tref 1 2 = 0 by decide)]
 rfl
end Go.Proofs.Ytghdiolnonejaaa
end
section
namespace Go.Proofs.Ytghdiolnonejaaa.Pl
variable {d:Dg}
def lsum:List Int → Nat
 | [] => 0
 | z :: l => z.toNat + lsum l
theorem lsum_set:∀ (ps:List Int) (i:Nat) (v:Int),i < ps.length → lsum (ps.set i v) + (pv ps i).toNat = lsum ps + v.toNat
 | [],i,v,h => by simp at h
 | z :: l, 0, v, h => by
   simp only [List.set_cons_zero,lsum,pv,List.getD_cons_zero]; omega
 | z :: l, i + 1, v, h => by
   have:=lsum_set l i v (by simpa using h)
   simp only [List.set_cons_succ,lsum,pv,List.getD_cons_succ] at this ⊢; omega
def ids (n k:Nat):List Int := (List.range n).map (fun c => if c < k then (c:Int) else 0)
theorem ids_len (n k:Nat):(ids n k).length = n := by unfold ids; simp
theorem ids_zero (n:Nat):ids n 0 = List.replicate n 0 := by
 unfold ids
 refine List.ext_getElem (by simp) (fun i h1 h2 => ?_)
 simp
theorem ids_pv {n k c:Nat} (hc:c < n):pv (ids n k) c = if c < k then (c:Int) else 0 := by
 unfold pv ids
 rw [List.getD_eq_getElem?_getD,List.getElem?_map,List.getElem?_range hc]; rfl
theorem ids_get {n k i:Nat} (h:i < (ids n k).length):(ids n k)[i] = if i < k then (i:Int) else 0 := by simp [ids]
theorem ids_set {n k:Nat} (hk:k < n):(ids n k).set k (k:Int) = ids n (k + 1) := by
 refine List.ext_getElem (by rw [List.length_set,ids_len,ids_len]) (fun i h1 h2 => ?_)
 rw [List.getElem_set,ids_get,ids_get]
 by_cases e:k = i
 ·subst e; rw [if_pos rfl,if_pos (by omega)]
 ·rw [if_neg e]
  by_cases e2:i < k
  ·rw [if_pos e2,if_pos (by omega)]
  ·rw [if_neg e2,if_neg (by omega)]
structure PI (d:Dg) (ps:List Int):Prop where
 len:ps.length = d.n
 is:∀ c,c < d.n → ∃ b:Nat,pv ps c = b ∧ b ≤ c ∧ Comp d c b
theorem PI.start (d:Dg):PI d (ids d.n d.n) :=
 ⟨ids_len _ _,fun c hc => ⟨c,by rw [ids_pv hc,if_pos hc],Nat.le_refl _,.refl⟩⟩
theorem PI.nat {ps:List Int} (h:PI d ps) {c:Nat} (hc:c < d.n):0 ≤ pv ps c ∧ pv ps c ≤ c := by
 obtain ⟨b,h1,h2,_⟩:=h.is c hc
 omega
theorem comp_m (hd:Wf d) {h:Nat} (hh:h < 4 * d.n):Comp d (h / 4) (d.m h / 4) :=
 (con_comp hd hh (hd.lt h hh)).1 (Con.refl.right)
theorem PI.step (hd:Wf d) {ps:List Int} (h:PI d ps) {x:Nat} (hx:x < 4 * d.n) (hlt:pv ps (d.m x / 4) < pv ps (x / 4)):PI d (ps.set (x / 4) (pv ps (d.m x / 4))) ∧ lsum (ps.set (x / 4) (pv ps (d.m x / 4))) < lsum ps := by
 have hm:=hd.lt x hx
 have hl:x / 4 < ps.length:=by rw [h.len]; omega
 have h1:=h.nat (c := x / 4) (by omega)
 have h2:=h.nat (c := d.m x / 4) (by omega)
 refine ⟨⟨by rw [List.length_set,h.len],fun c hc => ?_⟩,by have := lsum_set ps (x / 4) (pv ps (d.m x / 4)) hl; omega⟩
 rw [pv_set hl]
 by_cases e:c = x / 4
 ·rw [if_pos e]
  obtain ⟨b,e1,e2,e3⟩:=h.is (d.m x / 4) (by omega)
  refine ⟨b,e1,by omega,?_⟩
  rw [e]
  exact (comp_m hd hx).trans e3
 ·rw [if_neg e]; exact h.is c hc
structure PB (d:Dg) (ps:List Int):Prop where
 len:ps.length = d.n
 is:∀ c,c < d.n → ∃ b:Nat,pv ps c = b ∧ b ≤ c ∧ Comp d c b
 same:∀ a b,a < d.n → Comp d a b → pv ps a = pv ps b
theorem PI.done (hd:Wf d) {ps:List Int} (h:PI d ps) (hs:∀ x,x < 4 * d.n → pv ps (x / 4) ≤ pv ps (d.m x / 4)):PB d ps := by
 refine ⟨h.len,h.is,fun a b ha e => ?_⟩
 have:=con_sub hd.hm (R := fun x y => pv ps (x / 4) = pv ps (y / 4)) ⟨fun _ _ => rfl,fun _ _ _ _ e => e.symm,fun _ _ _ _ _ _ e e' => e.trans e'⟩
  (fun x _ => by show pv ps (x / 4) = pv ps (rot x / 4); unfold rot; rw [tn_div]) (fun x hx => ?_) (x := 4 * a) (y := 4 * b) (by unfold dart; omega) e
 ·simpa [Nat.mul_div_cancel_left] using this
 ·have h1:=hs x hx
  have h2:=hs (d.m x) (hd.lt x hx)
  rw [hd.inv x hx] at h2
  exact Int.le_antisymm h1 h2
theorem PB.iff (hd:Wf d) {ps:List Int} (h:PB d ps) {a b:Nat} (ha:a < d.n) (hb:b < d.n):pv ps a = pv ps b ↔ Comp d a b := by
 refine ⟨fun e => ?_,h.same a b ha⟩
 obtain ⟨x,e1,e2,e3⟩:=h.is a ha
 obtain ⟨y,g1,g2,g3⟩:=h.is b hb
 have:x = y:=by omega
 subst this
 exact e3.trans (comp_symm hd hb g3)
theorem PB.root {ps:List Int} (h:PB d ps) {c:Nat} (hc:c < d.n):∃ b:Nat,pv ps c = b ∧ b < d.n ∧ pv ps b = b ∧ Comp d c b := by
 obtain ⟨b,h1,h2,h3⟩:=h.is c hc
 exact ⟨b,h1,by omega,by rw [← h.same c b hc h3,h1],h3⟩
theorem PB.rule (hd:Wf d) {ps:List Int} (h:PB d ps):(∀ c,c < d.n → pv ps c = c → nf d ps c (4 * d.n) = nv ps c d.n + 2) ↔ Rule d := by
 have key:∀ c p:Nat,c < d.n → pv ps c = p → nf d ps p (4 * d.n) = cnt (fun h => Least (nx d) h ∧ Comp d c (h / 4)) (4 * d.n) ∧ nv ps p d.n = cnt (fun b => Comp d c b) d.n:=by
  intro c p hc e
  have one:∀ b,b < d.n → (pv ps b = p ↔ Comp d c b):=fun b hb' => by
   rw [← h.iff hd hc hb',e]
   exact ⟨fun e => e.symm,fun e => e.symm⟩
  refine ⟨cnt_congr _ (fun x hx => ?_),cnt_congr _ (fun x hx => one x hx)⟩
  rw [one (x / 4) (by omega)]
 constructor
 ·intro h2 c hc
  obtain ⟨b,e1,e2,e3,e4⟩:=h.root hc
  obtain ⟨k1,k2⟩:=key c b hc e1
  have:=h2 b e2 e3
  omega
 ·intro h2 c hc e
  obtain ⟨k1,k2⟩:=key c c hc e
  rw [k1,k2]
  exact h2 c hc
def Fx (d:Dg) (ps es:List Int) (m:Nat):Prop := es.length = d.n ∧ ∀ p,p < d.n → pv es p = (nf d ps p m:Int)
def Cx (d:Dg) (ps es:List Int) (k:Nat):Prop := es.length = d.n ∧ ∀ p,p < d.n → pv es p = (nv ps p k:Int)
theorem rep_pv {n p:Nat} (hp:p < n):pv (List.replicate n 0) p = 0 := by
 unfold pv; rw [List.getD_eq_getElem?_getD,List.getElem?_replicate,if_pos hp]; rfl
theorem Fx.start (d:Dg) (ps:List Int):Fx d ps (List.replicate d.n 0) 0 := ⟨by simp,fun p hp => by rw [rep_pv hp]; simp [nf,cnt]⟩
theorem Cx.start (d:Dg) (ps:List Int):Cx d ps (List.replicate d.n 0) 0 := ⟨by simp,fun p hp => by rw [rep_pv hp]; simp [nv,cnt]⟩
theorem Fx.more {ps es:List Int} {m:Nat} (h:Fx d ps es m) {q:Nat} (hq:q < d.n) (e:pv ps (m / 4) = q) (hl:Least (nx d) m):Fx d ps (es.set q (pv es q + 1)) (m + 1) := by
 refine ⟨by rw [List.length_set,h.1],fun p hp => ?_⟩
 rw [pv_set (by rw [h.1]; exact hq)]
 have hp0:=h.2 p hp
 by_cases e2:p = q
 ·subst e2
  rw [if_pos rfl,hp0]
  unfold nf
  rw [cnt_step_pos ⟨hl,e⟩]; omega
 ·rw [if_neg e2,hp0]
  unfold nf
  rw [cnt_step_neg (fun e3 => e2 (by have := e3.2; rw [e] at this; omega))]
theorem Fx.same {ps es:List Int} {m:Nat} (h:Fx d ps es m) (hl:¬ Least (nx d) m):Fx d ps es (m + 1) := by
 refine ⟨h.1,fun p hp => ?_⟩
 rw [h.2 p hp]
 unfold nf
 rw [cnt_step_neg (fun e3 => hl e3.1)]
theorem Cx.more {ps es:List Int} {k:Nat} (h:Cx d ps es k) {q:Nat} (hq:q < d.n) (e:pv ps k = q):Cx d ps (es.set q (pv es q + 1)) (k + 1) := by
 refine ⟨by rw [List.length_set,h.1],fun p hp => ?_⟩
 rw [pv_set (by rw [h.1]; exact hq)]
 have hp0:=h.2 p hp
 by_cases e2:p = q
 ·subst e2
  rw [if_pos rfl,hp0]
  unfold nv
  rw [cnt_step_pos e]; omega
 ·rw [if_neg e2,hp0]
  unfold nv
  rw [cnt_step_neg (fun e3 => e2 (by rw [e] at e3; omega))]
theorem nf_le (d:Dg) (ps:List Int) (p:Nat):∀ m,nf d ps p m ≤ m := fun m => cnt_top _ m
theorem nv_le (ps:List Int) (p:Nat):∀ m,nv ps p m ≤ m := fun m => cnt_top _ m
theorem SI.all (hd:Wf d) {k p:Nat} {bs:List Bool} (h:SI d k p bs) (hp:Per (nx d) k p):SQ d (k + 1) bs := by
 refine h.done hd ?_
 have e:=hp.2.1
 have hl:=h.lt hd
 refine (h.iff _ hl).2 (.inr ⟨0,hp.1,?_⟩)
 rw [e]; rfl
end Go.Proofs.Ytghdiolnonejaaa.Pl
end
section
namespace Go.Proofs.Ytghdiolnonejaaa
open Go Go.RowKit
theorem Row.drewN {w:World} {g:Nat} {t:TypeId} {vs:List Value} (h:Row w g t vs) (n:Nat):Row (w.drewN n) g t vs := h
theorem Below.drewN' {k:Nat} {w w':World} (h:Below k w w') (n:Nat):Below k w (w'.drewN n) := ⟨h.os,h.tape,h.output,h.size,h.block⟩
set_option maxRecDepth 100000 in
set_option maxHeartbeats 4000000 in
theorem rpart_any (d:Pl.Dg) (hd:Pl.Wf d) (A B:Option Addr) (cp cq m:Nat) (l:Value) (w:World) (hm:m = 4 * d.n) (hg:DgAt w A B d) :
 Calls Try.prog 113 #[.agg #[.slice A d.n cp,.slice B m cq,l]] w fun e w' =>
  ∃ (ps:List Int) (g:Nat),e = .returned (.slice (some ⟨g,0,none⟩) d.n d.n) ∧ Pl.PB d ps ∧ w.heap.size ≤ g ∧ IRow w' g ps ∧ Below w.heap.size w w' := by
 have hn:=hd.few
 have HF:=hide hd
 have HM:=hide hm
 have hm2:m ≤ 256:=by omega
 have HG:=hide hg
 clear hd hm hg
 have hmk:=run_ints d.n (by omega) (w.alloc (.cells #[.slice A d.n cp,.slice B m cq,l] 24))
 go_enter Try.func113,Try.ntmps113
 go_wp2
 clear hmk
 obtain ⟨W1,hW1⟩:∃ W1:World,W1 = (w.alloc (.cells #[.slice A d.n cp,.slice B m cq,l] 24)).alloc (.cells (Array.replicate d.n (Value.int .i64 0)) 3) := ⟨_,rfl⟩
 have B1:=hide (show Below w.heap.size w W1 by rw [hW1]; exact ((Below.refl _ _).alloc (Nat.le_refl _) _).alloc (by simp) _)
 have X1:=hide (show Row W1 w.heap.size 24 (boxV A B d.n cp m cq l) by rw [hW1]; exact (Row.new w _ _).alloc _)
 have R1:=hide (show IRow W1 (w.heap.size + 1) (Pl.ids d.n 0) by
  rw [hW1,Pl.ids_zero]
  have:=IRow.made (w.alloc (.cells #[.slice A d.n cp,.slice B m cq,l] 24)) d.n
  simpa using this)
 rw [← hW1]
 clear hW1
 go_loopg [4] d.n (fun g i wx => ∃ k:Nat,k + g = d.n ∧ i = .int .i64 k ∧ Below w.heap.size w wx ∧ Row wx w.heap.size 24 (boxV A B d.n cp m cq l) ∧ IRow wx (w.heap.size + 1) (Pl.ids d.n k))
 case atStart => exact ⟨0,by omega,rfl,B1.out,X1.out,R1.out⟩
 case round =>
  obtain ⟨k,hkg,rfl,b2,x2,r2⟩:=hrel
  have HK:=hide hkg
  have hks:k ≤ d.n:=by omega
  clear hkg
  by_cases hlt:k < d.n
  ·have c1:=r2.cell (i := k) (by rw [Pl.ids_len]; exact hlt)
   have f1:=Row.free r2 k
   have B2:=hide b2
   have X2:=hide x2
   have R2:=hide r2
   clear b2 x2 r2
   go_wp2
   go_roundg (gk - 1)
   case measure => have := HK.out; omega
   case rel =>
    refine ⟨k + 1,by have := HK.out; omega,by go_num,?_,X2.out.other (by simp) _,?_⟩
    ·exact B2.out.setCell (by simp) _
    ·have:=R2.out.set k k
     rwa [Pl.ids_set hlt] at this
  ·have hkn:k = d.n:=by omega
   have B2:=hide b2
   have X2:=hide x2
   have R2:=hide (show IRow wr (w.heap.size + 1) (Pl.ids d.n d.n) by subst hkn; exact r2)
   clear b2 x2 r2 hkn
   go_wp2
   go_loopg [5] (Pl.lsum (Pl.ids d.n d.n) + 1) (fun g c wx => ∃ (ps:List Int) (ch:Bool),c = .bool ch ∧ Pl.PI d ps ∧ ((ch = true ∧ g = Pl.lsum ps + 1) ∨ (ch = false ∧ g = 0 ∧ ∀ x,x < 4 * d.n → Pl.pv ps (x / 4) ≤ Pl.pv ps (d.m x / 4))) ∧ Below w.heap.size w wx ∧ Row wx w.heap.size 24 (boxV A B d.n cp m cq l) ∧ IRow wx (w.heap.size + 1) ps)
   case atStart => exact ⟨_,true,rfl,Pl.PI.start d,.inl ⟨rfl,rfl⟩,B2.out,X2.out,R2.out⟩
   case round =>
    clear B2 X2 R2 B1 X1 R1 HK hks hlt
    obtain ⟨ps,ch,rfl,hpi,hch,b3,x3,r3⟩:=hrel
    have HP:=hide hpi
    have HC:=hide hch
    have B3:=hide b3
    have X3:=hide x3
    have R3:=hide r3
    clear hpi hch b3 x3 r3
    cases ch with
    | false =>
      have hs:=hide (show ∀ x,x < 4 * d.n → Pl.pv ps (x / 4) ≤ Pl.pv ps (d.m x / 4) from (HC.out.resolve_left (fun h => by cases h.1)).2.2)
      have hwl:w.heap.size + 1 < wr.heap.size:=R3.out.lt
      go_wp2
      go_ret
      exact ⟨ps,w.heap.size + 1,rfl,Pl.PI.done HF.out HP.out hs.out,by omega,R3.out,B3.out⟩
    | true =>
      have HGK:=hide (show gk = Pl.lsum ps + 1 from (HC.out.resolve_right (fun h => by cases h.1)).2)
      clear HC
      go_wp2
      go_loopg [5,6] m (fun g c i wx => ∃ (k:Nat) (qs:List Int) (ch:Bool),k + g = m ∧ i = .int .i64 k ∧ c = .bool ch ∧ Pl.PI d qs ∧ ((ch = true ∧ Pl.lsum qs < Pl.lsum ps) ∨ (ch = false ∧ Pl.lsum qs = Pl.lsum ps ∧ ∀ x,x < k → Pl.pv qs (x / 4) ≤ Pl.pv qs (d.m x / 4))) ∧ Below w.heap.size w wx ∧ Row wx w.heap.size 24 (boxV A B d.n cp m cq l) ∧ IRow wx (w.heap.size + 1) qs)
      case atStart => exact ⟨0,ps,false,by omega,rfl,rfl,HP.out,.inr ⟨rfl,rfl,fun x hx => absurd hx (by omega)⟩,B3.out,X3.out,R3.out⟩
      case round =>
       clear B3 X3 R3 HP
       obtain ⟨k,qs,ch,hkg,rfl,rfl,hpi,hch,b4,x4,r4⟩:=hrel
       have HK:=hide hkg
       have hkm:k ≤ m:=by omega
       have HP:=hide hpi
       have HC:=hide hch
       clear hkg hpi hch
       obtain ⟨x0,x1,x2,x3⟩:=box3 x4
       by_cases hlt:k < m
       ·have hk4:k < 4 * d.n:=by have := HM.out; omega
        have hmk4:=HF.out.lt k hk4
        obtain ⟨bb,bo,rfl,hmc⟩:=mate_at HG.out.m hk4
        have hmc':=cell_below hmc b4
        have hk5:k / 4 < d.n:=by omega
        have c1:=r4.cell (i := k / 4) (by rw [HP.out.len]; exact hk5)
        obtain ⟨u,hu⟩:∃ u,u = d.m k := ⟨_,rfl⟩
        rw [← hu] at hmc' hmk4
        have HU:=hide hu
        have hu5:u / 4 < d.n:=by omega
        have c2:=r4.cell (i := u / 4) (by rw [HP.out.len]; exact hu5)
        have f1:=Row.free r4 (k / 4)
        have B4:=hide b4
        have X4:=hide x4
        have R4:=hide r4
        clear b4 x4 r4 hmc hu
        by_cases hlow:Pl.pv qs (u / 4) < Pl.pv qs (k / 4)
        ·have HST:=hide (HP.out.step HF.out hk4 (by rw [← HU.out]; exact hlow))
         go_wp2
         go_quiet (fail)
         go_wp2
         go_quiet (fail)
         go_wp2
         go_roundg (gk - 1)
         case measure => have := HK.out; omega
         case rel =>
          refine ⟨k + 1,qs.set (k / 4) (Pl.pv qs (u / 4)),true,by have := HK.out; omega,by go_num,rfl,?_,.inl ⟨rfl,?_⟩,(Below.drewN' B4.out _).setCell (by simp) _,(Row.drewN X4.out _).other (by simp) _,IRow.set (Row.drewN R4.out _) _ _⟩
          ·rw [HU.out]; exact HST.out.1
          ·have:=HST.out.2
           rw [← HU.out] at this
           rcases HC.out with ⟨_,h⟩ | ⟨_,h,_⟩ <;> omega
        ·go_wp2
         go_quiet (fail)
         go_wp2
         go_quiet (fail)
         go_wp2
         go_roundg (gk - 1)
         case measure => have := HK.out; omega
         case rel =>
          refine ⟨k + 1,qs,ch,by have := HK.out; omega,by go_num,rfl,HP.out,?_,Below.drewN' B4.out _,Row.drewN X4.out _,Row.drewN R4.out _⟩
          rcases HC.out with ⟨h1,h2⟩ | ⟨h1,h2,h3⟩
          ·exact .inl ⟨h1,h2⟩
          ·refine .inr ⟨h1,h2,fun x hx => ?_⟩
           by_cases e:x = k
           ·subst e; rw [← HU.out]; omega
           ·exact h3 x (by omega)
       ·have hkm':k = m:=by omega
        have HKM:=hide hkm'
        have B4:=hide b4
        have X4:=hide x4
        have R4:=hide r4
        clear b4 x4 r4 hkm'
        go_wp2
        go_roundg (if ch = true then Pl.lsum qs + 1 else 0)
        case measure =>
         have:=HGK.out
         rcases HC.out with ⟨h1,h2⟩ | ⟨h1,h2,h3⟩
         ·rw [if_pos h1]; omega
         ·rw [h1]; simp; omega
        case rel =>
         refine ⟨qs,ch,rfl,HP.out,?_,B4.out,X4.out,R4.out⟩
         rcases HC.out with ⟨h1,h2⟩ | ⟨h1,h2,h3⟩
         ·exact .inl ⟨h1,by rw [if_pos h1]⟩
         ·refine .inr ⟨h1,by rw [h1]; rfl,fun x hx => h3 x ?_⟩
          have:=HKM.out
          have:=HM.out
          omega
end Go.Proofs.Ytghdiolnonejaaa
end
section
namespace Go.Proofs.Ytghdiolnonejaaa
open Go Go.RowKit
structure VS (w:World) (vs:List Value) (gp gf gc gs:Nat) (ps fs cs:List Int) (bs:List Bool) (W:World):Prop where
 x:Row W w.heap.size 24 vs
 p:IRow W gp ps
 f:IRow W gf fs
 c:IRow W gc cs
 s:BRow W gs bs
 bel:Below w.heap.size w W
 lo:w.heap.size < gp ∧ w.heap.size < gf ∧ w.heap.size < gc ∧ w.heap.size < gs
 ne:gp ≠ gf ∧ gp ≠ gc ∧ gp ≠ gs ∧ gf ≠ gc ∧ gf ≠ gs ∧ gc ≠ gs
section
variable {w:World} {vs:List Value} {gp gf gc gs:Nat} {ps fs cs:List Int} {bs:List Bool} {W W':World}
theorem VS.below (h:VS w vs gp gf gc gs ps fs cs bs W) (hb:Below W.heap.size W W'):VS w vs gp gf gc gs ps fs cs bs W' :=
 ⟨h.x.below hb,Row.below h.p hb,Row.below h.f hb,Row.below h.c hb,Row.below h.s hb,h.bel.trans (hb.mono h.bel.size),h.lo,h.ne⟩
theorem VS.drewN (h:VS w vs gp gf gc gs ps fs cs bs W) (n:Nat):VS w vs gp gf gc gs ps fs cs bs (W.drewN n) := ⟨h.x,h.p,h.f,h.c,h.s,Below.drewN' h.bel n,h.lo,h.ne⟩
theorem VS.setF (h:VS w vs gp gf gc gs ps fs cs bs W) (i:Nat) (v:Int):VS w vs gp gf gc gs ps (fs.set i v) cs bs (W.setCell ⟨gf,i,none⟩ (.int .i64 v)) := by
 have a:=h.lo
 have b:=h.ne
 exact ⟨h.x.other (by show _ ≠ gf; omega) _,Row.other h.p (by show _ ≠ gf; omega) _,h.f.set i v,Row.other h.c (by show _ ≠ gf; omega) _,Row.other h.s (by show _ ≠ gf; omega) _,h.bel.setCell (by show _ ≤ gf; omega) _,h.lo,h.ne⟩
theorem VS.setC (h:VS w vs gp gf gc gs ps fs cs bs W) (i:Nat) (v:Int):VS w vs gp gf gc gs ps fs (cs.set i v) bs (W.setCell ⟨gc,i,none⟩ (.int .i64 v)) := by
 have a:=h.lo
 have b:=h.ne
 exact ⟨h.x.other (by show _ ≠ gc; omega) _,Row.other h.p (by show _ ≠ gc; omega) _,Row.other h.f (by show _ ≠ gc; omega) _,h.c.set i v,Row.other h.s (by show _ ≠ gc; omega) _,h.bel.setCell (by show _ ≤ gc; omega) _,h.lo,h.ne⟩
theorem VS.setS (h:VS w vs gp gf gc gs ps fs cs bs W) (i:Nat) (v:Bool):VS w vs gp gf gc gs ps fs cs (bs.set i v) (W.setCell ⟨gs,i,none⟩ (.bool v)) := by
 have a:=h.lo
 have b:=h.ne
 exact ⟨h.x.other (by show _ ≠ gs; omega) _,Row.other h.p (by show _ ≠ gs; omega) _,Row.other h.f (by show _ ≠ gs; omega) _,Row.other h.c (by show _ ≠ gs; omega) _,h.s.set i v,h.bel.setCell (by show _ ≤ gs; omega) _,h.lo,h.ne⟩
end
theorem map_ints (l:List Nat):l.map (fun k:Nat => Value.int .i64 k) = (nats l).map (Value.int .i64) := (map_nats l).symm
theorem nats_getD (l:List Nat) (j:Nat):(nats l).getD j 0 = (l.getD j 0:Nat) := by
 unfold nats
 rw [List.getD_eq_getElem?_getD,List.getD_eq_getElem?_getD,List.getElem?_map]
 cases l[j]? <;> rfl
theorem rpart_n (d:Pl.Dg) (hd:Pl.Wf d) (A B:Option Addr) (n q cp cq:Nat) (l:Value) (w:World) (e:n = d.n) (hm:q = 4 * d.n) (hs:IntsAt w A n d.sg) (hb:IntsAt w B q (nats d.mt)) :
 Calls Try.prog 113 #[.agg #[.slice A n cp,.slice B q cq,l]] w fun e w' =>
  ∃ (ps:List Int) (g:Nat),e = .returned (.slice (some ⟨g,0,none⟩) n n) ∧ Pl.PB d ps ∧ w.heap.size ≤ g ∧ IRow w' g ps ∧ Below w.heap.size w w' := by
 subst e
 exact rpart_any d hd A B cp cq q l w hm ⟨hs,by rw [← hm]; exact hb⟩
theorem rface_n (d:Pl.Dg) (hd:Pl.Wf d) (A B:Option Addr) (n q cp cq:Nat) (l:Value) (h p:Nat) (w:World) (e:n = d.n) (hm:q = 4 * d.n) (hb:IntsAt w B q (nats d.mt)) (hh:h < 4 * d.n) (hp:Pl.Per (Pl.nx d) h p) (hpN:p ≤ 4 * d.n) :
 Calls Try.prog 114 #[.agg #[.slice A n cp,.slice B q cq,l],.int .i64 (h:Int)] w (fun e w' => ∃ (A5:Option Addr) (c5:Nat),e = .returned (.slice A5 p c5) ∧ w'.ownsRow w.heap.size 3 1 (.slice A5 p c5) p ((Pl.cyc (Pl.nx d) h p).map (fun k:Nat => Value.int .i64 k)) ∧ Below w.heap.size w w') := by
 subst e
 exact rface_any d hd A B cp cq q l h p w hm (by rw [hm] at hb ⊢; exact hb) hh hp hpN
theorem two_rows (W:World) (n:Nat):IRow (((W.alloc (.cells (Array.replicate n (Value.int .i64 0)) 3)).alloc (.cells (Array.replicate n (Value.int .i64 0)) 3)).drew) W.heap.size (List.replicate n 0) ∧ IRow (((W.alloc (.cells (Array.replicate n (Value.int .i64 0)) 3)).alloc (.cells (Array.replicate n (Value.int .i64 0)) 3)).drew) (W.heap.size + 1) (List.replicate n 0) ∧ Below W.heap.size W (((W.alloc (.cells (Array.replicate n (Value.int .i64 0)) 3)).alloc (.cells (Array.replicate n (Value.int .i64 0)) 3)).drew) := by
 have:=IRow.made (W.alloc (.cells (Array.replicate n (Value.int .i64 0)) 3)) n
 rw [show (W.alloc (.cells (Array.replicate n (Value.int .i64 0)) 3)).heap.size = W.heap.size + 1 by simp] at this
 exact ⟨Row.drew (Row.alloc (IRow.made W n) _),Row.drew this,(((Below.refl _ _).alloc (Nat.le_refl _) _).alloc (by simp) _).drew⟩
theorem two_rows' (W:World) (n:Nat):IRow (((W.alloc (.cells (Array.replicate n (Value.int .i64 0)) 3)).alloc (.cells (Array.replicate n (Value.int .i64 0)) 3)).drew) (W.heap.size + 1) (List.replicate n 0) ∧ IRow (((W.alloc (.cells (Array.replicate n (Value.int .i64 0)) 3)).alloc (.cells (Array.replicate n (Value.int .i64 0)) 3)).drew) W.heap.size (List.replicate n 0) ∧ Below W.heap.size W (((W.alloc (.cells (Array.replicate n (Value.int .i64 0)) 3)).alloc (.cells (Array.replicate n (Value.int .i64 0)) 3)).drew) :=
 let ⟨a,b,c⟩:=two_rows W n; ⟨b,a,c⟩
set_option maxRecDepth 100000 in
set_option maxHeartbeats 4000000 in
theorem rvalid_any (sg mt:List Int) (lp:Int) (A B:Option Addr) (n q cp cq:Nat) (w:World) (hs:IntsAt w A n sg) (hm:IntsAt w B q mt) (hn:n ≤ maxLen) (hq:q ≤ maxLen) (hlp:-9223372036854775808 ≤ lp ∧ lp ≤ 9223372036854775807) :
 Calls Try.prog 68 #[.agg #[.slice A n cp,.slice B q cq,.int .i64 lp]] w fun e w' => e = .returned (.bool (Pl.vb (Pl.VL sg mt lp))) ∧ Below w.heap.size w w' := by
 unfold maxLen at hn hq
 have HLS:=hide hs.len
 have HLM:=hide hm.len
 have b0:Below w.heap.size w (w.alloc (.cells #[.slice A n cp,.slice B q cq,.int .i64 lp] 24)):=(Below.refl _ _).alloc (Nat.le_refl _) _
 by_cases h1:64 < n
 ·have HV:=hide (fun h:Pl.VL sg mt lp => show False by have := h.few; have := HLS.out; omega)
  go_enter Try.func68,Try.ntmps68
  go_wp2
  go_ret
  exact ⟨ret_bool (Pl.vb_false HV.out).symm,b0⟩
 ·have h1':decide (64 < (n:Int)) = false:=by simp; omega
  by_cases h2:q = 4 * n
  ·by_cases h3:0 ≤ lp ∧ lp ≤ 64
   ·have h2':(((q:Nat):Int) != 4 * (n:Int)) = false:=by simp; omega
    have h3a:decide (lp < 0) = false:=by simp; omega
    have h3b:decide (64 < lp) = false:=by simp; omega
    have HQ4:=hide h2
    have hq6:q ≤ 256:=by omega
    clear h2
    have x0:Row (w.alloc (.cells #[.slice A n cp,.slice B q cq,.int .i64 lp] 24)) w.heap.size 24 (boxV A B n cp q cq (.int .i64 lp)):=Row.new w _ _
    go_enter Try.func68,Try.ntmps68
    go_wp2
    have B0:=hide b0
    have X0:=hide x0
    clear b0 x0 h1' h2' h3a h3b
    go_loopg [4] n (fun g i wx => ∃ k:Nat,k + g = n ∧ i = .int .i64 k ∧ (∀ c,c < k → Pl.pv sg c = 1 ∨ Pl.pv sg c = -1) ∧ Below w.heap.size w wx ∧ Row wx w.heap.size 24 (boxV A B n cp q cq (.int .i64 lp)))
    case atStart => exact ⟨0,by omega,rfl,fun c hc => absurd hc (by omega),B0.out,X0.out⟩
    case round =>
     clear B0 X0
     obtain ⟨k,hkg,rfl,hsg,b1,x1⟩:=hrel
     have HG:=hide hkg
     have HSG:=hide hsg
     have hkn:k ≤ n:=by omega
     clear hkg hsg
     by_cases hlt:k < n
     ·obtain ⟨ab,ao,rfl,hc⟩:=ints_pv hs hlt
      have hc1:=cell_below hc b1
      obtain ⟨y0,y1,y2,_⟩:=box3 x1
      have B1:=hide b1
      have X1:=hide x1
      clear b1 x1 hc
      by_cases hz:Pl.pv sg k = 1
      ·have HZ:=hide hz
       rw [hz] at hc1
       clear hz
       go_wp2
       go_roundg (gk - 1)
       case measure => have := HG.out; omega
       case rel =>
        refine ⟨k + 1,by have := HG.out; omega,by go_num,fun c hc => ?_,B1.out,X1.out⟩
        by_cases e:c = k
        ·rw [e]; exact .inl HZ.out
        ·exact HSG.out c (by omega)
      ·by_cases hz2:Pl.pv sg k = -1
       ·have HZ:=hide hz2
        rw [hz2] at hc1
        clear hz hz2
        go_wp2
        go_roundg (gk - 1)
        case measure => have := HG.out; omega
        case rel =>
         refine ⟨k + 1,by have := HG.out; omega,by go_num,fun c hc => ?_,B1.out,X1.out⟩
         by_cases e:c = k
         ·rw [e]; exact .inr HZ.out
         ·exact HSG.out c (by omega)
       ·have HV := hide (fun h : Pl.VL sg mt lp => show False by
         rcases h.sign (c := k) (by have := HLS.out; omega) with e | e
         ·exact hz e
         ·exact hz2 e)
        have t1:(Pl.pv sg k != 1) = true:=by rw [bne_iff_ne]; exact hz
        have t2:(Pl.pv sg k != -1) = true:=by rw [bne_iff_ne]; exact hz2
        clear hz hz2
        go_wp2
        go_ret
        exact ⟨ret_bool (Pl.vb_false HV.out).symm,B1.out⟩
     ·have HSG':=hide (fun (c:Nat) (hc:c < sg.length) => HSG.out c (by have := HLS.out; omega))
      have B1:=hide b1
      have X1:=hide x1
      clear b1 x1 HSG HG
      go_wp2
      go_loopg [5] q (fun g i wx => ∃ k:Nat,k + g = q ∧ i = .int .i64 k ∧ (∀ h,h < k → 0 ≤ Pl.pv mt h ∧ Pl.pv mt h < mt.length ∧ Pl.pv mt h ≠ h ∧ Pl.pv mt (Pl.pv mt h).toNat = h ∧ Pl.out (Pl.mk sg mt lp) h ≠ Pl.out (Pl.mk sg mt lp) (Pl.pv mt h).toNat) ∧ Below w.heap.size w wx ∧ Row wx w.heap.size 24 (boxV A B n cp q cq (.int .i64 lp)))
      case atStart => exact ⟨0,by omega,rfl,fun c hc => absurd hc (by omega),B1.out,X1.out⟩
      case round =>
       clear B1 X1
       obtain ⟨j,hjg,rfl,hmo,b2,x2⟩:=hrel
       have HG:=hide hjg
       have HMO:=hide hmo
       have hjq:j ≤ q:=by omega
       clear hjg hmo
       obtain ⟨y0,y1,y2,_⟩:=box3 x2
       by_cases hlt2:j < q
       ·obtain ⟨bb,bo,rfl,hc⟩:=ints_pv hm hlt2
        have hj4n:(j:Int) < 4 * (n:Int):=by have := HQ4.out; omega
        have hc1:=cell_below hc b2
        have hjl:j < mt.length:=by have := HLM.out; omega
        have B2:=hide b2
        have X2:=hide x2
        clear b2 x2 hc
        by_cases hz0:Pl.pv mt j < 0
        ·have HV:=hide (fun h:Pl.VL sg mt lp => show False by have := (h.mate hjl).1; omega)
         have t1:decide (Pl.pv mt j < 0) = true:=by simpa using hz0
         clear hz0
         go_wp2
         go_quiet (fail)
         go_wp2
         go_ret
         exact ⟨ret_bool (Pl.vb_false HV.out).symm,Below.drewN' B2.out _⟩
        ·have t1:decide (Pl.pv mt j < 0) = false:=by simpa using hz0
         by_cases hz1:Pl.pv mt j < q
         ·obtain ⟨t,ht⟩:∃ t:Nat,Pl.pv mt j = t := ⟨(Pl.pv mt j).toNat,by omega⟩
          have htq:t < q:=by omega
          have t2:decide (4 * (n:Int) ≤ (t:Int)) = false:=by have := HQ4.out; simp; omega
          rw [ht] at hc1 t1
          have HT:=hide ht
          have hj4:j < 4 * n:=by have := HQ4.out; omega
          have ht4:t < 4 * n:=by have := HQ4.out; omega
          clear hz0 hz1 ht
          by_cases htj:t = j
          ·have HV:=hide (fun h:Pl.VL sg mt lp => show False by have := (h.mate hjl).2.2.1; rw [HT.out] at this; omega)
           have t3:(((t:Nat):Int) == (j:Int)) = true:=by simp; omega
           clear htj
           go_wp2
           go_quiet (fail)
           go_wp2
           go_ret
           exact ⟨ret_bool (Pl.vb_false HV.out).symm,Below.drewN' B2.out _⟩
          ·have t3:(((t:Nat):Int) == (j:Int)) = false:=by simp; omega
           obtain ⟨bb',bo',ebb,hcb⟩:=ints_pv hm htq
           injection ebb with ebb
           injection ebb with ebb1 ebb2
           subst ebb1; subst ebb2
           have hc2:=cell_below hcb B2.out
           clear hcb
           by_cases hinv:Pl.pv mt t = j
           ·have HI:=hide hinv
            rw [hinv] at hc2
            have t4:((j:Int) != (j:Int)) = false:=by simp
            clear hinv
            have HSS:=hide (fun (p:Cls (fun w' => Row w' w.heap.size 24 (boxV A (some ⟨bb,bo,none⟩) n cp q cq (.int .i64 lp)) ∧ Below w.heap.size w w' ∧ w'.cell? ⟨bb,bo + t,none⟩ = some (.int .i64 (j:Int)))) (h:Nat) (hh:h < 4 * n) =>
             calls_cls (C := fun w' => Row w' w.heap.size 24 (boxV A (some ⟨bb,bo,none⟩) n cp q cq (.int .i64 lp)) ∧ Below w.heap.size w w' ∧ w'.cell? ⟨bb,bo + t,none⟩ = some (.int .i64 (j:Int)))
              (rout_any (Pl.mk sg mt lp) A (some ⟨bb,bo,none⟩) n cp q cq (.int .i64 lp) h p.w HLS.out.symm hh (by omega) (hs.keep p.ok.2.1)) (fun e w' h => ⟨h.1,p.ok.1.below h.2,p.ok.2.1.trans (h.2.mono p.ok.2.1.size),cell_below p.ok.2.2 h.2⟩))
            have c30:∀ p:Cls (fun w' => Row w' w.heap.size 24 (boxV A (some ⟨bb,bo,none⟩) n cp q cq (.int .i64 lp)) ∧ Below w.heap.size w w' ∧ w'.cell? ⟨bb,bo + t,none⟩ = some (.int .i64 (j:Int))),p.w.cell? ⟨w.heap.size,0,none⟩ = some (.slice A n cp):=fun p => p.ok.1.cell (i := 0) (by show 0 < 3; omega)
            have c31:∀ p:Cls (fun w' => Row w' w.heap.size 24 (boxV A (some ⟨bb,bo,none⟩) n cp q cq (.int .i64 lp)) ∧ Below w.heap.size w w' ∧ w'.cell? ⟨bb,bo + t,none⟩ = some (.int .i64 (j:Int))),p.w.cell? ⟨w.heap.size,1,none⟩ = some (.slice (some ⟨bb,bo,none⟩) q cq):=fun p => p.ok.1.cell (i := 1) (by show 1 < 3; omega)
            have c32:∀ p:Cls (fun w' => Row w' w.heap.size 24 (boxV A (some ⟨bb,bo,none⟩) n cp q cq (.int .i64 lp)) ∧ Below w.heap.size w w' ∧ w'.cell? ⟨bb,bo + t,none⟩ = some (.int .i64 (j:Int))),p.w.cell? ⟨w.heap.size,2,none⟩ = some (.int .i64 lp):=fun p => p.ok.1.cell (i := 2) (by show 2 < 3; omega)
            have c33:∀ p:Cls (fun w' => Row w' w.heap.size 24 (boxV A (some ⟨bb,bo,none⟩) n cp q cq (.int .i64 lp)) ∧ Below w.heap.size w w' ∧ w'.cell? ⟨bb,bo + t,none⟩ = some (.int .i64 (j:Int))),p.w.cell? ⟨bb,bo + t,none⟩ = some (.int .i64 (j:Int)):=fun p => p.ok.2.2
            have HC2:=hide hc2
            go_wp2
            refine wp_region_cls (fun w' => Row w' w.heap.size 24 (boxV A (some ⟨bb,bo,none⟩) n cp q cq (.int .i64 lp)) ∧ Below w.heap.size w w' ∧ w'.cell? ⟨bb,bo + t,none⟩ = some (.int .i64 (j:Int))) (by kernel_rfl) (by kernel_rfl) ⟨X2.out.drew,B2.out.drew,HC2.out⟩ (fun hne => ?_)
            repeat (go_big_quiet_step ((go_at_call 112; exact HSS.out _ _ (by omega))))
            refine wpQuiet_nil ?_
            rintro _ ⟨p,rfl⟩
            have hp1:=hide p.ok.1
            have hp2:=hide p.ok.2.1
            clear HSS c30 c31 c32 c33
            go_wp2
            ·have t5:(Pl.out (Pl.mk sg mt lp) j == Pl.out (Pl.mk sg mt lp) t) = true:=by assumption
             go_ret
             refine ⟨ret_bool (Pl.vb_false fun h => ?_).symm,hp2.out⟩
             have h5:=(h.mate hjl).2.2.2.2
             rw [HT.out,Int.toNat_natCast] at h5
             exact h5 (beq_iff_eq.1 t5)
            ·have t5:(Pl.out (Pl.mk sg mt lp) j == Pl.out (Pl.mk sg mt lp) t) = false:=by assumption
             go_roundg (gk - 1)
             case measure => have := HG.out; omega
             case rel =>
              refine ⟨j + 1,by have := HG.out; omega,by go_num,fun h hh => ?_,hp2.out,hp1.out⟩
              by_cases e:h = j
              ·subst e
               rw [HT.out,Int.toNat_natCast]
               exact ⟨by omega,by have := HLM.out; omega,by omega,HI.out,beq_eq_false_iff_ne.1 t5⟩
              ·exact HMO.out h (by omega)
           ·have HV := hide (fun h : Pl.VL sg mt lp => show False by
             have:=(h.mate hjl).2.2.2.1
             rw [HT.out,Int.toNat_natCast] at this
             exact hinv this)
            have t4:(Pl.pv mt t != (j:Int)) = true:=by rw [bne_iff_ne]; exact hinv
            clear hinv
            go_wp2
            go_quiet (fail)
            go_wp2
            go_ret
            exact ⟨ret_bool (Pl.vb_false HV.out).symm,Below.drewN' B2.out _⟩
         ·have HV:=hide (fun h:Pl.VL sg mt lp => show False by have := (h.mate hjl).2.1; have := HLM.out; omega)
          have t2:decide (4 * (n:Int) ≤ Pl.pv mt j) = true:=by have := HQ4.out; simp; omega
          clear hz0 hz1
          go_wp2
          go_quiet (fail)
          go_wp2
          go_ret
          exact ⟨ret_bool (Pl.vb_false HV.out).symm,Below.drewN' B2.out _⟩
       ·have hjq':j = q:=by omega
        have hj4n:¬ ((j:Int) < 4 * (n:Int)):=by have := HQ4.out; omega
        have hw:=Pl.wf_of (sg := sg) (mt := mt) (lp := lp) (by have := HLS.out; omega) (by have := HLS.out; have := HLM.out; have := HQ4.out; omega) h3 HSG'.out (fun k hk => HMO.out k (by have := HLM.out; omega))
        have hpos:∀ z,z ∈ mt → 0 ≤ z:=fun z hz => by
         obtain ⟨k,hk,rfl⟩:=Pl.mem_pv hz
         exact (HMO.out k (by have := HLM.out; omega)).1
        have HW:=hide hw
        have HR:=hide (Pl.VL.of hw hpos h3.1)
        have HN:=hide (Pl.nats_mk (sg := sg) (lp := lp) hpos)
        have B2:=hide b2
        have X2:=hide x2
        clear b2 x2 hw hpos hjq'
        obtain ⟨d,hd⟩:∃ d,d = Pl.mk sg mt lp := ⟨_,rfl⟩
        have HD:=hide hd
        have HWd:=hide (show Pl.Wf d by rw [hd]; exact HW.out)
        have HNd:=hide (show n = d.n by rw [hd]; exact HLS.out.symm)
        have HQd:=hide (show q = 4 * d.n by have := HQ4.out; have := HNd.out; omega)
        have HSd:=hide (show IntsAt w A n d.sg by rw [hd]; exact hs)
        have HMd:=hide (show IntsAt w B q (nats d.mt) by rw [hd]; unfold nats; rw [HN.out]; exact hm)
        clear hd
        have hmk:=fun W:World => run_ints n (by omega) W
        have hmkb:∀ W:World,(Instr.makeSlice 82 (.int .i64 (4 * (n:Int))) (.int .i64 (4 * (n:Int)))).run Try.prog W = .ok (.slice (some ⟨W.heap.size,0,none⟩) q q) (W.alloc (.cells (Array.replicate q (Value.bool false)) 4)):=fun W => by
         have:=run_bools q (by omega) W
         rwa [show (q:Int) = 4 * (n:Int) by have := HQ4.out; omega] at this
        go_wp2_with fail
        refine (rpart_n d HWd.out A B n q cp cq (.int .i64 lp) _ HNd.out HQd.out (HSd.out.keep B2.out) (HMd.out.keep B2.out)).mono ?_
        rintro e w3 ⟨ps,gp,rfl,hpb,hgp,hpr,hb3⟩
        have HPB:=hide hpb
        have P3:=hide hpr
        have X3:=hide (X2.out.below hb3)
        have B3:=hide (B2.out.trans (hb3.mono B2.out.size))
        have hgpw:w.heap.size < gp:=by have := X2.out.lt; omega
        have hgp3:gp < w3.heap.size:=hpr.lt
        clear hpb hgp hpr hb3 y0 y1 y2
        go_upto_region 16 with fail
        go_cut [8,9] (fun s8 s9 wx => ∃ gf gc:Nat,s8 = .slice (some ⟨gf,0,none⟩) n n ∧ s9 = .slice (some ⟨gc,0,none⟩) n n ∧ gf ≠ gc ∧ w3.heap.size ≤ gf ∧ w3.heap.size ≤ gc ∧ IRow wx gf (List.replicate n 0) ∧ IRow wx gc (List.replicate n 0) ∧ Below w3.heap.size w3 wx)
        case first =>
         clear hmkb
         go_region
         all_goals (go_wp2_with fail; go_meet)
         all_goals
          first
           | exact ⟨w3.heap.size,w3.heap.size + 1,rfl,rfl,by omega,by omega,by omega,two_rows w3 n⟩
           | exact ⟨w3.heap.size + 1,w3.heap.size,rfl,rfl,by omega,by omega,by omega,two_rows' w3 n⟩
        case rest =>
         clear hmk
         obtain ⟨gf,gc,rfl,rfl,i1,i2,i3,hf,hc,hb4⟩:=hcut
         obtain ⟨W4,hW4⟩:∃ W4:World,W4 = wc.alloc (.cells (Array.replicate q (Value.bool false)) 4) := ⟨_,rfl⟩
         have V4:=hide (show VS w (boxV A B n cp q cq (.int .i64 lp)) gp gf gc wc.heap.size ps (List.replicate n 0) (List.replicate n 0) (List.replicate q false) W4 by
          have l1:=hf.lt
          have l2:=hc.lt
          have l3:=hb4.size
          rw [hW4]
          exact ⟨(X3.out.below hb4).alloc _,Row.alloc (Row.below P3.out hb4) _,Row.alloc hf _,Row.alloc hc _,BRow.made _ _,(B3.out.trans (hb4.mono B3.out.size)).alloc (by have := B3.out.size; omega) _,by omega,by omega⟩)
         obtain ⟨gs,hgs⟩:∃ gs,gs = wc.heap.size := ⟨_,rfl⟩
         rw [← hgs] at V4
         clear hf hc hb4 X3 B3 P3 X2 B2
         go_wp2
         rw [← hW4,← hgs]
         clear hW4 hgs hmkb
         have V4':=V4
         go_loopg [11] q (fun g i wx => ∃ (k:Nat) (fs:List Int) (bs:List Bool),k + g = q ∧ i = .int .i64 k ∧ Pl.Fx d ps fs k ∧ Pl.SQ d k bs ∧ VS w (boxV A B n cp q cq (.int .i64 lp)) gp gf gc gs ps fs (List.replicate n 0) bs wx)
         case atStart => exact ⟨0,_,_,by omega,rfl,by have := Pl.Fx.start d ps; rwa [← HNd.out] at this,by have := Pl.SQ.start d; rwa [← HQd.out] at this,V4.out⟩
         case round =>
          clear V4 V4'
          obtain ⟨k,fs,bs,hkg,rfl,hfx,hsq,hv⟩:=hrel
          have HK:=hide hkg
          have HFX:=hide hfx
          have HSQ:=hide hsq
          have V:=hide hv
          have hkq:k ≤ q:=by omega
          clear hkg hfx hsq hv
          by_cases hlt3:k < q
          ·have hj4n':(k:Int) < 4 * (n:Int):=by have := HQ4.out; omega
           have hkd:k < 4 * d.n:=by have := HQd.out; omega
           have c1:=V.out.s.cell (i := k) (by rw [HSQ.out.len]; exact hkd)
           by_cases hseen:Pl.gb bs k = true
           ·rw [show bs.getD k false = true from hseen] at c1
            have HS2:=hide (HSQ.out.seen HWd.out hkd hseen)
            clear hseen
            go_wp2
            go_roundg (q - (k + 1))
            case measure => have := HK.out; omega
            case rel => exact ⟨k + 1,fs,bs,by omega,by go_num,HFX.out.same HS2.out.2,HS2.out.1,V.out⟩
           ·have hseen':Pl.gb bs k = false:=by simpa using hseen
            rw [show bs.getD k false = false from hseen'] at c1
            have HSE:=hide (HSQ.out.enter HWd.out hkd hseen')
            obtain ⟨p,hp1,hp2⟩:=HWd.out.nxb.per hkd
            have HP:=hide hp2
            have hp0:=hp2.1
            have hp256:p ≤ 256:=by have := HQd.out; omega
            obtain ⟨y0,y1,y2,_⟩:=box3 V.out.x
            have hgsl:gs < wr.heap.size:=V.out.s.lt
            clear hp2 hseen hseen'
            go_wp2_with fail
            refine (rface_n d HWd.out A B n q cp cq (.int .i64 lp) k p _ HNd.out HQd.out (HMd.out.keep V.out.bel) hkd HP.out hp1).mono ?_
            rintro e w5 ⟨A5,c5,rfl,own,hb5⟩
            have V5:=hide (V.out.below hb5)
            rw [map_ints] at own
            have OWN:=hide own
            obtain ⟨bz,hbz⟩:∃ bz,bz = wr.heap.size := ⟨_,rfl⟩
            rw [← hbz] at OWN hgsl
            clear own hb5 y0 y1 y2 c1 hbz
            go_wp2_with fail
            go_loopg [13] p (fun g i wx => ∃ (j:Nat) (cs:List Bool),j + g = p ∧ i = .int .i64 j ∧ Pl.SI d k j cs ∧ VS w (boxV A B n cp q cq (.int .i64 lp)) gp gf gc gs ps fs (List.replicate n 0) cs wx ∧ wx.ownsRow bz 3 1 (.slice A5 p c5) p ((nats (Pl.cyc (Pl.nx d) k p)).map (Value.int .i64)))
            case atStart => exact ⟨0,bs,by omega,rfl,HSE.out.1,V5.out,OWN.out⟩
            case round =>
             clear V V5 OWN
             obtain ⟨j,cs,hjg,rfl,hsi,hv,own⟩:=hrel
             have HJ:=hide hjg
             have HSI:=hide hsi
             have V:=hide hv
             have OWN:=hide own
             have hjp:j ≤ p:=by omega
             clear hjg hsi hv own
             by_cases hlt4:j < p
             ·obtain ⟨b5,o5,hA5,hc5⟩:=(own_ints' OWN.out).at_ hlt4
              obtain ⟨x,hx⟩:∃ x,x = Pl.it (Pl.nx d) j k := ⟨_,rfl⟩
              have hxd:x < 4 * d.n:=by rw [hx]; exact HSI.out.lt HWd.out
              have hxq:x < q:=by rw [HQd.out]; exact hxd
              rw [nats_getD,Pl.cyc_get hlt4,← hx] at hc5
              have HX:=hide hx
              subst hA5
              have c2:=V.out.s.cell (i := x) (by rw [HSI.out.len]; exact hxd)
              have f2:=Row.free V.out.s x
              clear hx
              go_wp2
              go_roundg (p - (j + 1))
              case measure => have := HJ.out; omega
              case rel =>
               refine ⟨j + 1,cs.set x true,by omega,by go_num,by rw [HX.out]; exact HSI.out.step HWd.out,V.out.setS x true,ownsRow_setCell_below OWN.out (by show gs < bz; omega) _⟩
             ·have hjp':j = p:=by omega
              have HSQ2:=hide (show Pl.SQ d (k + 1) cs by subst hjp'; exact HSI.out.all HWd.out HP.out)
              have hk4:k / 4 < n:=by have := HNd.out; omega
              have c1:=V.out.p.cell (i := k / 4) (by rw [HPB.out.len,← HNd.out]; exact hk4)
              obtain ⟨u,hu1,hu2,_,_⟩:=HPB.out.root (c := k / 4) (by rw [← HNd.out]; exact hk4)
              rw [hu1] at c1
              have hun:u < n:=by rw [HNd.out]; exact hu2
              have c2:=V.out.f.cell (i := u) (by rw [HFX.out.1,← HNd.out]; exact hun)
              have f2:=Row.free V.out.f u
              have hfu:=HFX.out.2 u hu2
              have hfl:=Pl.nf_le d ps u k
              have hfr:0 ≤ Pl.pv fs u ∧ Pl.pv fs u ≤ 256:=by omega
              have HU:=hide hu1
              clear hjp' hu1 hfu hfl
              go_wp2
              go_roundg (q - (k + 1))
              case measure => have := HK.out; omega
              case rel =>
               exact ⟨k + 1,_,cs,by omega,by go_num,HFX.out.more hu2 HU.out HSE.out.2,HSQ2.out,V.out.setF u _⟩
          ·have hkq':k = q:=by omega
           have hj4n':¬ ((k:Int) < 4 * (n:Int)):=by have := HQ4.out; omega
           have HFX2:=hide (show Pl.Fx d ps fs (4 * d.n) by rw [← HQd.out,← hkq']; exact HFX.out)
           clear HFX HSQ HK hkq'
           go_wp2
           go_loopg [14] n (fun g i wx => ∃ (k:Nat) (cs:List Int),k + g = n ∧ i = .int .i64 k ∧ Pl.Cx d ps cs k ∧ VS w (boxV A B n cp q cq (.int .i64 lp)) gp gf gc gs ps fs cs bs wx)
           case atStart => exact ⟨0,_,by omega,rfl,by have := Pl.Cx.start d ps; rwa [← HNd.out] at this,V.out⟩
           case round =>
            clear V
            obtain ⟨j,cs,hjg,rfl,hcx,hv⟩:=hrel
            have HJ:=hide hjg
            have HCX:=hide hcx
            have V:=hide hv
            have hjn:j ≤ n:=by omega
            clear hjg hcx hv
            by_cases hlt5:j < n
            ·have c1:=V.out.p.cell (i := j) (by rw [HPB.out.len,← HNd.out]; exact hlt5)
             obtain ⟨u,hu1,hu2,_,_⟩:=HPB.out.root (c := j) (by rw [← HNd.out]; exact hlt5)
             rw [hu1] at c1
             have hun:u < n:=by rw [HNd.out]; exact hu2
             have c2:=V.out.c.cell (i := u) (by rw [HCX.out.1,← HNd.out]; exact hun)
             have f2:=Row.free V.out.c u
             have hfu:=HCX.out.2 u hu2
             have hfl:=Pl.nv_le ps u j
             have hfr:0 ≤ Pl.pv cs u ∧ Pl.pv cs u ≤ 256:=by omega
             have HU:=hide hu1
             clear hu1 hfu hfl
             go_wp2
             go_roundg (n - (j + 1))
             case measure => have := HJ.out; omega
             case rel => exact ⟨j + 1,_,by omega,by go_num,HCX.out.more hu2 HU.out,V.out.setC u _⟩
            ·have hjn':j = n:=by omega
             have HCX2:=hide (show Pl.Cx d ps cs d.n by rw [← HNd.out,← hjn']; exact HCX.out)
             clear HCX HJ hjn'
             go_wp2
             go_loopg [15] n (fun g i wx => ∃ k:Nat,k + g = n ∧ i = .int .i64 k ∧ (∀ c,c < k → Pl.pv ps c = c → Pl.nf d ps c (4 * d.n) = Pl.nv ps c d.n + 2) ∧ VS w (boxV A B n cp q cq (.int .i64 lp)) gp gf gc gs ps fs cs bs wx)
             case atStart => exact ⟨0,by omega,rfl,fun c hc => absurd hc (by omega),V.out⟩
             case round =>
              clear V
              obtain ⟨i,hig,rfl,hok,hv⟩:=hrel
              have HI:=hide hig
              have HOK:=hide hok
              have V:=hide hv
              have hin:i ≤ n:=by omega
              clear hig hok hv
              have HRU:=hide (HPB.out.rule HWd.out)
              by_cases hlt6:i < n
              ·have hid:i < d.n:=by rw [← HNd.out]; exact hlt6
               have c1:=V.out.p.cell (i := i) (by rw [HPB.out.len]; exact hid)
               have c2:=V.out.f.cell (i := i) (by rw [HFX2.out.1]; exact hid)
               have c3:=V.out.c.cell (i := i) (by rw [HCX2.out.1]; exact hid)
               have E2:=hide (HFX2.out.2 i hid)
               have E3:=hide (HCX2.out.2 i hid)
               have hfl:=Pl.nf_le d ps i (4 * d.n)
               have hcl:=Pl.nv_le ps i d.n
               have hfr:0 ≤ Pl.pv cs i ∧ Pl.pv cs i ≤ 256:=by have := E3.out; have := HNd.out; omega
               clear hfl hcl
               obtain ⟨z,hz⟩:∃ z,z = Pl.pv ps i := ⟨_,rfl⟩
               rw [← hz] at c1
               by_cases hzi:z = i
               ·have t1:(z == (i:Int)) = true:=by simpa using hzi
                have HZ:=hide (show Pl.pv ps i = i by rw [← hz]; exact hzi)
                clear hz hzi
                by_cases hbad:Pl.pv fs i = Pl.pv cs i + 2
                ·have t2:(Pl.pv fs i != Pl.pv cs i + 2) = false:=by simpa using hbad
                 have HBAD:=hide hbad
                 clear hbad
                 go_wp2
                 go_quiet (fail)
                 go_wp2
                 go_roundg (n - (i + 1))
                 case measure => have := HI.out; omega
                 case rel =>
                  refine ⟨i + 1,by omega,by go_num,fun c hc e => ?_,V.out.drewN _⟩
                  by_cases e2:c = i
                  ·subst e2; have := HBAD.out; have := E2.out; have := E3.out; omega
                  ·exact HOK.out c (by omega) e
                ·have t2:(Pl.pv fs i != Pl.pv cs i + 2) = true:=by simpa using hbad
                 have HV:=hide (show ¬ Pl.VL sg mt lp from fun h => hbad (by
                  have h2:=HR.out.1 h
                  rw [← HD.out] at h2
                  have h3:=HRU.out.2 h2 i hid HZ.out
                  have:=E2.out
                  have:=E3.out
                  omega))
                 clear hbad
                 go_wp2
                 go_quiet (fail)
                 go_wp2
                 go_ret
                 exact ⟨ret_bool (Pl.vb_false HV.out).symm,Below.drewN' V.out.bel _⟩
               ·have t1:(z == (i:Int)) = false:=by simpa using hzi
                have HZ:=hide (show ¬ Pl.pv ps i = i by rw [← hz]; exact hzi)
                clear hz hzi
                go_wp2
                go_quiet (fail)
                go_wp2
                go_roundg (n - (i + 1))
                case measure => have := HI.out; omega
                case rel =>
                 refine ⟨i + 1,by omega,by go_num,fun c hc e => ?_,V.out.drewN _⟩
                 by_cases e2:c = i
                 ·subst e2; exact absurd e HZ.out
                 ·exact HOK.out c (by omega) e
              ·have HV := hide (show Pl.VL sg mt lp from HR.out.2 (by
                rw [← HD.out]
                exact HRU.out.1 (fun c hc e => HOK.out c (by rw [← HNd.out] at hc; omega) e)))
               go_wp2
               go_ret
               exact ⟨ret_bool (Pl.vb_true HV.out).symm,V.out.bel⟩
   ·have HV:=hide (fun h:Pl.VL sg mt lp => show False by have := h.loops; omega)
    have h2':(((q:Nat):Int) != 4 * (n:Int)) = false:=by simp; omega
    have HQ2:=hide h2
    clear h2
    by_cases h3a:lp < 0
    ·have t1:decide (lp < 0) = true:=by simpa using h3a
     go_enter Try.func68,Try.ntmps68
     go_wp2
     go_ret
     exact ⟨ret_bool (Pl.vb_false HV.out).symm,b0⟩
    ·have t1:decide (lp < 0) = false:=by simpa using h3a
     have t2:decide (64 < lp) = true:=by simp; omega
     go_enter Try.func68,Try.ntmps68
     go_wp2
     go_ret
     exact ⟨ret_bool (Pl.vb_false HV.out).symm,b0⟩
  ·have HV:=hide (fun h:Pl.VL sg mt lp => show False by have := h.len; have := HLS.out; have := HLM.out; omega)
   have h2':(((q:Nat):Int) != 4 * (n:Int)) = true:=by simp; omega
   go_enter Try.func68,Try.ntmps68
   go_wp2
   go_ret
   exact ⟨ret_bool (Pl.vb_false HV.out).symm,b0⟩
end Go.Proofs.Ytghdiolnonejaaa
end
section
namespace Go.Proofs.Ytghdiolnonejaaa
open Go Go.RowKit
theorem own_row_ne {W:World} {base b n:Nat} {t:TypeId} {v:Value} {xs vs:List Value} (h:W.ownsRow base 3 1 v n xs) (hr:Row W b t vs) (ht:3 ≠ t):some b ≠ v.ownBlock := by
 intro e
 obtain ⟨cs,fr,h3⟩:=ownsRow_block h b e.symm
 rw [hr] at h3
 injection h3 with h3
 injection h3 with _ h4
 exact ht h4.symm
theorem own_setRow {W:World} {base b n:Nat} {t:TypeId} {v:Value} {xs vs:List Value} (h:W.ownsRow base 3 1 v n xs) (hr:Row W b t vs) (ht:3 ≠ t) (o:Nat) (u:Value):(W.setCell ⟨b,o,none⟩ u).ownsRow base 3 1 v n xs := by
 have hne:=own_row_ne h hr ht
 obtain ⟨A,c,rfl⟩:=owns_slice h
 refine ⟨h.1,?_⟩
 rcases h.2 with hz | ⟨g,cap,cur,r1,r2,r3,r4⟩
 ·exact .inl hz
 ·refine .inr ⟨g,cap,cur,r1,r2,?_,r4⟩
  have hgb:g ≠ b:=fun e => hne (by rw [r1,← e]; rfl)
  exact (Below.heap_setCell W ⟨b,o,none⟩ u g hgb).trans r3
structure RK (base:Nat) (w:World) (vS vM:Value) (n q:Nat) (lp:Int) (mv:List Value) (ss:List Int) (l:List Nat) (W:World):Prop where
 d:Row W w.heap.size 24 [vS,vM,.int .i64 lp]
 m:Row W (w.heap.size + 1) 37 mv
 rd:∃ vs,Row W (w.heap.size + 1 + 1) 24 vs ∧ vs.length = 3
 rm:∃ us,Row W (w.heap.size + 1 + 1 + 1) 37 us ∧ us.length = 5
 s:W.ownsRow base 3 1 vS n (ss.map (.int .i64))
 o:W.ownsRow base 3 1 vM q (l.map (fun k:Nat => Value.int .i64 k))
 ne:∀ k,vS.ownBlock = some k → vM.ownBlock ≠ some k
 bel:Below base w W
 le:base ≤ w.heap.size
section
variable {base:Nat} {w W W' W2:World} {vS vM v':Value} {n q:Nat} {lp:Int} {mv:List Value} {ss:List Int} {l:List Nat}
theorem RK.big (h:RK base w vS vM n q lp mv ss l W):w.heap.size + 4 ≤ W.heap.size := by
 obtain ⟨_,h1,_⟩:=h.rm
 have:=h1.lt; omega
theorem RK.below (h:RK base w vS vM n q lp mv ss l W) (hb:Below W.heap.size W W'):RK base w vS vM n q lp mv ss l W' :=
 let ⟨vs,r1,l1⟩:=h.rd
 let ⟨us,r2,l2⟩:=h.rm
 ⟨h.d.below hb,h.m.below hb,⟨vs,r1.below hb,l1⟩,⟨us,r2.below hb,l2⟩,own_keep h.s hb (Nat.le_refl _),own_keep h.o hb (Nat.le_refl _),h.ne,h.bel.trans (hb.mono (by have := h.big; have := h.le; omega)),h.le⟩
theorem RK.alloc (h:RK base w vS vM n q lp mv ss l W) (o:Obj):RK base w vS vM n q lp mv ss l (W.alloc o) := h.below ((Below.refl _ _).alloc (Nat.le_refl _) o)
theorem RK.drew (h:RK base w vS vM n q lp mv ss l W):RK base w vS vM n q lp mv ss l W.drew := ⟨h.d,h.m,h.rd,h.rm,h.s,h.o,h.ne,h.bel.drew,h.le⟩
theorem RK.drewN (h:RK base w vS vM n q lp mv ss l W) (k:Nat):RK base w vS vM n q lp mv ss l (W.drewN k) := ⟨h.d,h.m,h.rd,h.rm,h.s,h.o,h.ne,Below.drewN' h.bel k,h.le⟩
theorem RK.kept (h:RK base w vS vM n q lp mv ss l W) (gr:W.grownBy W2 vM.ownBlock) {l':List Nat} (own:W2.ownsRow base 3 1 vM q (l'.map (fun k:Nat => Value.int .i64 k))):RK base w vS vM n q lp mv ss l' W2 := by
 obtain ⟨vs,r1,l1⟩:=h.rd
 obtain ⟨us,r2,l2⟩:=h.rm
 refine ⟨h.d.grown gr (own_row_ne h.o h.d (by decide)),h.m.grown gr (own_row_ne h.o h.m (by decide)),⟨vs,r1.grown gr (own_row_ne h.o r1 (by decide)),l1⟩,⟨us,r2.grown gr (own_row_ne h.o r2 (by decide)),l2⟩,?_,own,h.ne,?_,h.le⟩
 ·refine h.s.kept gr ?_
  cases hm:vS.ownBlock with
  | none => exact .inl rfl
  | some g => exact .inr (fun e => h.ne g hm e.symm)
 ·exact h.bel.grown gr (by have := h.bel.size; have := h.le; omega) (fun k hk => (h.o.lt k hk).1)
theorem RK.setL (h:RK base w vS vM n q lp mv ss l W) (lp':Int):RK base w vS vM n q lp' mv ss l (W.setCell ⟨w.heap.size,2,none⟩ (.int .i64 lp')) := by
 obtain ⟨vs,r1,l1⟩:=h.rd
 obtain ⟨us,r2,l2⟩:=h.rm
 exact ⟨h.d.set 2 _,h.m.other (by show _ ≠ w.heap.size; omega) _,⟨vs,r1.other (by show _ ≠ w.heap.size; omega) _,l1⟩,⟨us,r2.other (by show _ ≠ w.heap.size; omega) _,l2⟩,own_setRow h.s h.d (by decide) _ _,own_setRow h.o h.d (by decide) _ _,h.ne,h.bel.setCell h.le _,h.le⟩
theorem RK.setD (h:RK base w vS vM n q lp mv ss l W) (o:Nat) (v:Value):RK base w vS vM n q lp mv ss l (W.setCell ⟨w.heap.size + 1 + 1,o,none⟩ v) := by
 obtain ⟨vs,r1,l1⟩:=h.rd
 obtain ⟨us,r2,l2⟩:=h.rm
 exact ⟨h.d.other (by show _ ≠ w.heap.size + 1 + 1; omega) _,h.m.other (by show _ ≠ w.heap.size + 1 + 1; omega) _,⟨_,r1.set o v,by rw [List.length_set,l1]⟩,⟨us,r2.other (by show _ ≠ w.heap.size + 1 + 1; omega) _,l2⟩,own_setRow h.s r1 (by decide) _ _,own_setRow h.o r1 (by decide) _ _,h.ne,h.bel.setCell (by have := h.le; show base ≤ w.heap.size + 1 + 1; omega) _,h.le⟩
theorem RK.setM (h:RK base w vS vM n q lp mv ss l W) (o:Nat) (v:Value):RK base w vS vM n q lp mv ss l (W.setCell ⟨w.heap.size + 1 + 1 + 1,o,none⟩ v) := by
 obtain ⟨vs,r1,l1⟩:=h.rd
 obtain ⟨us,r2,l2⟩:=h.rm
 exact ⟨h.d.other (by show _ ≠ w.heap.size + 1 + 1 + 1; omega) _,h.m.other (by show _ ≠ w.heap.size + 1 + 1 + 1; omega) _,⟨vs,r1.other (by show _ ≠ w.heap.size + 1 + 1 + 1; omega) _,l1⟩,⟨_,r2.set o v,by rw [List.length_set,l2]⟩,own_setRow h.s r2 (by decide) _ _,own_setRow h.o r2 (by decide) _ _,h.ne,h.bel.setCell (by have := h.le; show base ≤ w.heap.size + 1 + 1 + 1; omega) _,h.le⟩
theorem RK.setO (h:RK base w vS vM n q lp mv ss l W) {b:Nat} {t:TypeId} {vs:List Value} (hr:Row W b t vs) (ht:3 ≠ t) (hb:w.heap.size + 4 ≤ b) (o:Nat) (v:Value):RK base w vS vM n q lp mv ss l (W.setCell ⟨b,o,none⟩ v) := by
 obtain ⟨vs,r1,l1⟩:=h.rd
 obtain ⟨us,r2,l2⟩:=h.rm
 exact ⟨h.d.other (by show _ ≠ b; omega) _,h.m.other (by show _ ≠ b; omega) _,⟨vs,r1.other (by show _ ≠ b; omega) _,l1⟩,⟨us,r2.other (by show _ ≠ b; omega) _,l2⟩,own_setRow h.s hr ht _ _,own_setRow h.o hr ht _ _,h.ne,h.bel.setCell (by have := h.le; show base ≤ b; omega) _,h.le⟩
def st8 (w W:World) (y0 y1 y2 z0 z1 z2 z3 z4:Value):World := ((((((((W.setCell ⟨w.heap.size + 1 + 1,0,none⟩ y0).setCell ⟨w.heap.size + 1 + 1,1,none⟩ y1).setCell ⟨w.heap.size + 1 + 1,2,none⟩ y2).setCell ⟨w.heap.size + 1 + 1 + 1,0,none⟩ z0).setCell ⟨w.heap.size + 1 + 1 + 1,1,none⟩ z1).setCell ⟨w.heap.size + 1 + 1 + 1,2,none⟩ z2).setCell ⟨w.heap.size + 1 + 1 + 1,3,none⟩ z3).setCell ⟨w.heap.size + 1 + 1 + 1,4,none⟩ z4)
theorem RK.fin (h:RK base w vS vM n q lp mv ss l W) (y0 y1 y2 z0 z1 z2 z3 z4:Value):RK base w vS vM n q lp mv ss l (st8 w W y0 y1 y2 z0 z1 z2 z3 z4) :=
 (((((((h.setD 0 y0).setD 1 y1).setD 2 y2).setM 0 z0).setM 1 z1).setM 2 z2).setM 3 z3).setM 4 z4
theorem RK.cells (h:RK base w vS vM n q lp mv ss l W) (y0 y1 y2 z0 z1 z2 z3 z4:Value) :
 (st8 w W y0 y1 y2 z0 z1 z2 z3 z4).cell? ⟨w.heap.size + 1 + 1,0,none⟩ = some y0 ∧ (st8 w W y0 y1 y2 z0 z1 z2 z3 z4).cell? ⟨w.heap.size + 1 + 1,1,none⟩ = some y1 ∧ (st8 w W y0 y1 y2 z0 z1 z2 z3 z4).cell? ⟨w.heap.size + 1 + 1,2,none⟩ = some y2 ∧ (st8 w W y0 y1 y2 z0 z1 z2 z3 z4).cell? ⟨w.heap.size + 1 + 1 + 1,0,none⟩ = some z0 ∧ (st8 w W y0 y1 y2 z0 z1 z2 z3 z4).cell? ⟨w.heap.size + 1 + 1 + 1,1,none⟩ = some z1 ∧ (st8 w W y0 y1 y2 z0 z1 z2 z3 z4).cell? ⟨w.heap.size + 1 + 1 + 1,2,none⟩ = some z2 ∧ (st8 w W y0 y1 y2 z0 z1 z2 z3 z4).cell? ⟨w.heap.size + 1 + 1 + 1,3,none⟩ = some z3 ∧ (st8 w W y0 y1 y2 z0 z1 z2 z3 z4).cell? ⟨w.heap.size + 1 + 1 + 1,4,none⟩ = some z4 := by
 obtain ⟨vs,r1,l1⟩:=h.rd
 obtain ⟨us,r2,l2⟩:=h.rm
 exact fin8 r1 r2 l1 l2 (by omega) y0 y1 y2 z0 z1 z2 z3 z4
end
def RErr (c:Int) (e:Ending):Prop := ∃ (A B:Option Addr) (n q c1 c2:Nat) (lp k x y s:Int) (o:Bool),e = .returned (.tuple #[.agg #[.slice A n c1,.slice B q c2,.int .i64 lp],.agg #[.int .i64 k,.int .i64 x,.int .i64 y,.int .i64 s,.bool o],.int .i64 c])
def RC (base:Nat) (c:Int) (r:Pl.Dg) (mv:Mv) (w:World) (e:Ending) (w':World):Prop := (c ≠ 0 → RErr c e) ∧ (c = 0 → ResOk r mv e w') ∧ Below base w w'
structure Own2 (base:Nat) (w:World) (vS vM:Value) (n q:Nat) (ss:List Int) (l:List Nat):Prop where
 s:w.ownsRow base 3 1 vS n (ss.map (.int .i64))
 o:w.ownsRow base 3 1 vM q (l.map (fun k:Nat => Value.int .i64 k))
 ne:∀ k,vS.ownBlock = some k → vM.ownBlock ≠ some k
 le:base ≤ w.heap.size
theorem RK.start {base:Nat} {w:World} {vS vM:Value} {n q:Nat} {ss:List Int} {l:List Nat} (h:Own2 base w vS vM n q ss l) (lp:Int) (y0 y1 y2 y3 y4:Value):RK base w vS vM n q lp [y0,y1,y2,y3,y4] ss l (W4 w vS vM (.int .i64 lp) y0 y1 y2 y3 y4) := by
 obtain ⟨x0,x1,x2,x3,b0,_⟩:=boxes4 w vS vM (.int .i64 lp) y0 y1 y2 y3 y4
 exact ⟨x0,x1,⟨_,x2,rfl⟩,⟨_,x3,rfl⟩,own_keep h.s b0 (Nat.le_refl _),own_keep h.o b0 (Nat.le_refl _),h.ne,b0.mono h.le,h.le⟩
end Go.Proofs.Ytghdiolnonejaaa
end
section
namespace Go.Proofs.Ytghdiolnonejaaa
open Go Go.RowKit
attribute [local go_sem ↓] Go.wp_at_zero Go.wp_at_succ
theorem rc_err {base:Nat} {c:Int} {r:Pl.Dg} {mv:Mv} {w w':World} {e:Ending} (hc:c ≠ 0) (h:RErr c e) (hb:Below base w w'):RC base c r mv w e w' := ⟨fun _ => h,fun h0 => absurd h0 hc,hb⟩
end Go.Proofs.Ytghdiolnonejaaa
end
section
namespace Go.Proofs.Ytghdiolnonejaaa
open Go Go.RowKit
attribute [local go_sem ↓] Go.wp_at_zero Go.wp_at_succ
theorem own_intsR {w:World} {base:Nat} {A:Option Addr} {n c:Nat} {zs:List Int} (h:w.ownsRow base 3 1 (.slice A n c) n (zs.map (.int .i64))):IntsAt w A n zs := (own_intsT h).row
end Go.Proofs.Ytghdiolnonejaaa
end
section
namespace Go.Proofs.Ytghdiolnonejaaa
open Go Go.RowKit
attribute [local go_sem ↓] Go.wp_at_zero Go.wp_at_succ
set_option maxRecDepth 100000 in
set_option maxHeartbeats 4000000 in
theorem runpoke_range (base n q cp cq:Nat) (A B:Option Addr) (lp k x y s:Int) (o:Bool) (ss:List Int) (l:List Nat) (r:Pl.Dg) (mv:Mv) (w:World) (h:Own2 base w (.slice A n cp) (.slice B q cq) n q ss l) (hn:n ≤ 1000) (hin:¬ inR n ⟨4,x,y,s,o⟩) :
 Calls Try.prog 73 #[.agg #[.slice A n cp,.slice B q cq,.int .i64 lp],.agg #[.int .i64 k,.int .i64 x,.int .i64 y,.int .i64 s,.bool o]] w (RC base 2 r mv w) := by
 have hin':¬ (0 ≤ x ∧ x < y ∧ y < n ∧ s = 0 ∧ o = false):=fun e => hin (by unfold inR; simp; exact e)
 have BE:=hide (show Below base w ((((w.alloc (.cells #[.slice A n cp,.slice B q cq,.int .i64 lp] 24)).alloc (.cells #[.int .i64 k,.int .i64 x,.int .i64 y,.int .i64 s,.bool o] 37)).alloc (.cells #[.slice A n cp,.slice B q cq,.int .i64 lp] 24)).alloc (.cells #[.int .i64 k,.int .i64 x,.int .i64 y,.int .i64 s,.bool o] 37)).drew from (((((Below.refl w.heap.size w).alloc (Nat.le_refl _) _).alloc (by simp) _).alloc (by simp; omega) _).alloc (by simp; omega) _).drew.mono h.le)
 clear hin h
 by_cases h1:0 ≤ x
 ·skip
  have t1:decide (x < 0) = false:=by simp; omega
  by_cases h2:y < n
  ·skip
   have t2:decide ((n:Int) ≤ y) = false:=by simp; omega
   by_cases h3:x < y
   ·skip
    have t3:decide (y ≤ x) = false:=by simp; omega
    by_cases h4:s = 0
    ·skip
     have t4:(s != 0) = false:=by simpa using h4
     cases o with
     | false => exact absurd (by refine ⟨?_,?_,?_,?_,?_⟩ <;> first | omega | rfl | assumption) hin'
     | true =>
       clear h1 h2 h3 h4 hin'
       go_enter Try.func73,Try.ntmps73
       go_wp2_with fail
       go_region
       go_wp2_with fail
       refine bodyPost_ret (v := .tuple #[.agg #[.slice A n cp,.slice B q cq,.int .i64 lp],.agg #[.int .i64 k,.int .i64 x,.int .i64 y,.int .i64 s,.bool true],.int .i64 2]) (by simp [results,Try.results73,go_sem]) rfl ?_
       exact rc_err (by decide) ⟨A,B,n,q,cp,cq,lp,k,x,y,s,true,rfl⟩ BE.out
    ·have t4:(s != 0) = true:=by rw [bne_iff_ne]; exact h4
     clear h1 h2 h3 h4 hin'
     go_enter Try.func73,Try.ntmps73
     go_wp2_with fail
     go_region
     go_wp2_with fail
     refine bodyPost_ret (v := .tuple #[.agg #[.slice A n cp,.slice B q cq,.int .i64 lp],.agg #[.int .i64 k,.int .i64 x,.int .i64 y,.int .i64 s,.bool o],.int .i64 2]) (by simp [results,Try.results73,go_sem]) rfl ?_
     exact rc_err (by decide) ⟨A,B,n,q,cp,cq,lp,k,x,y,s,o,rfl⟩ BE.out
   ·have t3:decide (y ≤ x) = true:=by simp; omega
    clear h1 h2 h3 hin'
    go_enter Try.func73,Try.ntmps73
    go_wp2_with fail
    go_region
    go_wp2_with fail
    refine bodyPost_ret (v := .tuple #[.agg #[.slice A n cp,.slice B q cq,.int .i64 lp],.agg #[.int .i64 k,.int .i64 x,.int .i64 y,.int .i64 s,.bool o],.int .i64 2]) (by simp [results,Try.results73,go_sem]) rfl ?_
    exact rc_err (by decide) ⟨A,B,n,q,cp,cq,lp,k,x,y,s,o,rfl⟩ BE.out
  ·have t2:decide ((n:Int) ≤ y) = true:=by simp; omega
   clear h1 h2 hin'
   go_enter Try.func73,Try.ntmps73
   go_wp2_with fail
   go_region
   go_wp2_with fail
   refine bodyPost_ret (v := .tuple #[.agg #[.slice A n cp,.slice B q cq,.int .i64 lp],.agg #[.int .i64 k,.int .i64 x,.int .i64 y,.int .i64 s,.bool o],.int .i64 2]) (by simp [results,Try.results73,go_sem]) rfl ?_
   exact rc_err (by decide) ⟨A,B,n,q,cp,cq,lp,k,x,y,s,o,rfl⟩ BE.out
 ·have t1:decide (x < 0) = true:=by simp; omega
  clear h1 hin'
  go_enter Try.func73,Try.ntmps73
  go_wp2_with fail
  go_region
  go_wp2_with fail
  refine bodyPost_ret (v := .tuple #[.agg #[.slice A n cp,.slice B q cq,.int .i64 lp],.agg #[.int .i64 k,.int .i64 x,.int .i64 y,.int .i64 s,.bool o],.int .i64 2]) (by simp [results,Try.results73,go_sem]) rfl ?_
  exact rc_err (by decide) ⟨A,B,n,q,cp,cq,lp,k,x,y,s,o,rfl⟩ BE.out
end Go.Proofs.Ytghdiolnonejaaa
end
section
namespace Go.Proofs.Ytghdiolnonejaaa
open Go Go.RowKit
attribute [local go_sem ↓] Go.wp_at_zero Go.wp_at_succ
def fE (E:Nat → Nat) (x k:Nat):Bool := (List.range k).any (fun j => E (2 * j) == x || E (2 * j + 1) == x)
end Go.Proofs.Ytghdiolnonejaaa
end
section
namespace Go.Proofs.Ytghdiolnonejaaa.Pl
variable {d:Dg}
def lstep (d:Dg) (ps:List Int) (h:Nat):List Int := (ps.set (h / 4) (min (pv ps (h / 4)) (pv ps (d.m h / 4)))).set (d.m h / 4) (min (pv ps (h / 4)) (pv ps (d.m h / 4)))
def lrun (d:Dg) (ps:List Int):Nat → List Int
 | 0 => ps
 | h + 1 => lstep d (lrun d ps h) h
def lpass (d:Dg):Nat → List Int
 | 0 => ids d.n d.n
 | p + 1 => lrun d (lpass d p) (4 * d.n)
theorem lstep_pv (hd:Wf d) {ps:List Int} (hl:ps.length = d.n) {h c:Nat} (hh:h < 4 * d.n):pv (lstep d ps h) c = if c = h / 4 ∨ c = d.m h / 4 then min (pv ps (h / 4)) (pv ps (d.m h / 4)) else pv ps c := by
 have hm:=hd.lt h hh
 unfold lstep
 rw [pv_set (by rw [List.length_set]; omega),pv_set (by omega)]
 by_cases e1:c = d.m h / 4
 ·rw [if_pos e1,if_pos (.inr e1)]
 ·rw [if_neg e1]
  by_cases e2:c = h / 4
  ·rw [if_pos e2,if_pos (.inl e2)]
  ·rw [if_neg e2,if_neg (fun e => e.elim e2 e1)]
theorem comp_sym (hd:Wf d) {a b:Nat} (ha:a < d.n) (e:Comp d a b):Comp d b a := hd.hm.con_symm (by unfold dart; omega) e
theorem PI.lstep (hd:Wf d) {ps:List Int} (h:PI d ps) {x:Nat} (hx:x < 4 * d.n):PI d (lstep d ps x) ∧ (∀ c,c < d.n → pv (Pl.lstep d ps x) c ≤ pv ps c) ∧ pv (Pl.lstep d ps x) (d.m x / 4) ≤ pv ps (x / 4) := by
 have hm:=hd.lt x hx
 have cm:=comp_m hd hx
 have cm':=comp_sym hd (show x / 4 < d.n by omega) cm
 refine ⟨⟨by unfold Pl.lstep; rw [List.length_set,List.length_set]; exact h.len,fun c hc => ?_⟩,fun c hc => ?_,?_⟩
 ·rw [lstep_pv hd h.len hx]
  by_cases e:c = x / 4 ∨ c = d.m x / 4
  ·rw [if_pos e]
   obtain ⟨b,e1,e2,e3⟩:=h.is (x / 4) (by omega)
   obtain ⟨b',f1,f2,f3⟩:=h.is (d.m x / 4) (by omega)
   rcases Int.le_total (pv ps (x / 4)) (pv ps (d.m x / 4)) with g | g
   ·rw [Int.min_eq_left g]
    refine ⟨b,e1,?_,?_⟩
    ·rcases e with e | e <;> omega
    ·rcases e with e | e
     ·rw [e]; exact e3
     ·rw [e]; exact cm'.trans e3
   ·rw [Int.min_eq_right g]
    refine ⟨b',f1,?_,?_⟩
    ·rcases e with e | e <;> omega
    ·rcases e with e | e
     ·rw [e]; exact cm.trans f3
     ·rw [e]; exact f3
  ·rw [if_neg e]; exact h.is c hc
 ·rw [lstep_pv hd h.len hx]
  by_cases e:c = x / 4 ∨ c = d.m x / 4
  ·rw [if_pos e]
   rcases e with e | e
   ·rw [e]; exact Int.min_le_left _ _
   ·rw [e]; exact Int.min_le_right _ _
  ·rw [if_neg e]; exact Int.le_refl _
 ·rw [lstep_pv hd h.len hx,if_pos (.inr rfl)]
  exact Int.min_le_left _ _
def Gd (d:Dg) (ps:List Int) (c:Nat):Prop := ∀ b,b < d.n → Comp d c b → pv ps c ≤ (b:Int)
theorem PI.lrun (hd:Wf d) {ps:List Int} (h:PI d ps):∀ k,k ≤ 4 * d.n → PI d (lrun d ps k) ∧ (∀ c,c < d.n → pv (Pl.lrun d ps k) c ≤ pv ps c) ∧ (∀ x,x < k → Gd d ps (x / 4) → Gd d (Pl.lrun d ps k) (d.m x / 4))
 | 0,_ => ⟨h,fun c hc => Int.le_refl _,fun x hx => absurd hx (by omega)⟩
 | k + 1, hk => by
   obtain ⟨h1,h2,h3⟩:=PI.lrun hd h k (by omega)
   obtain ⟨g1,g2,g3⟩:=h1.lstep hd (x := k) (by omega)
   refine ⟨g1,fun c hc => Int.le_trans (g2 c hc) (h2 c hc),fun x hx hg => ?_⟩
   have hx4:x < 4 * d.n:=by omega
   have hmx:=hd.lt x hx4
   by_cases e:x = k
   ·subst e
    intro b hb hc
    have a1:=hg b hb ((comp_m hd hx4).trans hc)
    have a2:=h2 (x / 4) (by omega)
    exact Int.le_trans g3 (Int.le_trans a2 a1)
   ·intro b hb hc
    have a1:=h3 x (by omega) hg b hb hc
    exact Int.le_trans (g2 _ (by omega)) a1
theorem PI.lpass (hd:Wf d):∀ p,PI d (lpass d p)
 | 0 => PI.start d
 | p + 1 => (PI.lrun hd (PI.lpass hd p) _ (Nat.le_refl _)).1
theorem cnt_all {p:Nat → Prop}:∀ N,cnt p N = N → ∀ x,x < N → p x
 | 0,_,x,hx => absurd hx (by omega)
 | N + 1, h, x, hx => by
   have t:=cnt_top p N
   by_cases e:p N
   ·rw [cnt_step_pos e] at h
    by_cases e2:x = N
    ·rw [e2]; exact e
    ·exact cnt_all N (by omega) x (by omega)
   ·rw [cnt_step_neg e] at h; omega
theorem cnt_imp {p q:Nat → Prop}:∀ N,(∀ x,x < N → p x → q x) → cnt p N ≤ cnt q N
 | 0,_ => Nat.le_refl _
 | N + 1, h => by
   have a:=cnt_imp N (fun x hx => h x (by omega))
   by_cases e:p N
   ·rw [cnt_step_pos e,cnt_step_pos (h N (by omega) e)]; omega
   ·rw [cnt_step_neg e]
    have:=cnt_mono q (Nat.le_succ N)
    exact Nat.le_trans a this
theorem cnt_imp_lt {p q:Nat → Prop}:∀ N,(∀ x,x < N → p x → q x) → ∀ y,y < N → ¬ p y → q y → cnt p N < cnt q N
 | 0,_,y,hy,_,_ => absurd hy (by omega)
 | N + 1, h, y, hy, h1, h2 => by
   by_cases e:y = N
   ·subst e
    rw [cnt_step_neg h1,cnt_step_pos h2]
    have:=cnt_imp y (fun x hx => h x (by omega))
    omega
   ·have a:=cnt_imp_lt N (fun x hx => h x (by omega)) y (by omega) h1 h2
    by_cases e:p N
    ·rw [cnt_step_pos e,cnt_step_pos (h N (by omega) e)]; omega
    ·rw [cnt_step_neg e]
     have:=cnt_mono q (Nat.le_succ N)
     exact Nat.lt_of_lt_of_le a this
theorem comp_least {c:Nat} (hc:c < d.n):∃ r,r < d.n ∧ Comp d c r ∧ ∀ b,b < d.n → Comp d c b → r ≤ b := by
 have:∀ k c',c' < k → c' < d.n → Comp d c c' → ∃ r,r < d.n ∧ Comp d c r ∧ ∀ b,b < d.n → Comp d c b → r ≤ b:=by
  intro k
  induction k with
  | zero => intro c' h; omega
  | succ k ih =>
    intro c' h1 h2 h3
    rcases Classical.em (∃ b,b < c' ∧ b < d.n ∧ Comp d c b) with ⟨b,e1,e2,e3⟩ | e
    ·exact ih b (by omega) e2 e3
    ·exact ⟨c',h2,h3,fun b hb hcb => Classical.byContradiction fun q => e ⟨b,by omega,hb,hcb⟩⟩
 exact this (c + 1) c (by omega) hc .refl
theorem Gd.closed (hd:Wf d) {ps:List Int} (h:PI d ps) (hcl:∀ x,x < 4 * d.n → Gd d ps (x / 4) → Gd d ps (d.m x / 4)):∀ c,c < d.n → Gd d ps c := by
 intro c hc
 obtain ⟨r,r1,r2,r3⟩:=comp_least hc
 have gr:Gd d ps r:=fun b hb hcb => by
  have a:=(h.nat r1).2
  have b':=r3 b hb (r2.trans hcb)
  omega
 have:=con_sub hd.hm (R := fun x y => Gd d ps (x / 4) ↔ Gd d ps (y / 4)) ⟨fun _ _ => Iff.rfl,fun _ _ _ _ e => e.symm,fun _ _ _ _ _ _ e e' => e.trans e'⟩
  (fun x _ => by show Gd d ps (x / 4) ↔ Gd d ps (rot x / 4); unfold rot; rw [tn_div]) (fun x hx => ⟨hcl x hx, fun g => by
    have:=hcl (d.m x) (hd.lt x hx) g
    rwa [hd.inv x hx] at this⟩) (x := 4 * r) (y := 4 * c) (by unfold dart; omega) (comp_sym hd hc r2)
 simp only [Nat.mul_div_cancel_left _ (show 0 < 4 by omega)] at this
 exact this.1 gr
theorem Gd.count (hd:Wf d):∀ p,p ≤ d.n → p ≤ cnt (Gd d (lpass d p)) d.n ∨ ∀ c,c < d.n → Gd d (lpass d p) c
 | 0,_ => .inl (Nat.zero_le _)
 | p + 1, hp => by
   have h:=PI.lpass hd p
   obtain ⟨h1,h2,h3⟩:=h.lrun hd (4 * d.n) (Nat.le_refl _)
   have hk:∀ c,c < d.n → Gd d (lpass d p) c → Gd d (lpass d (p + 1)) c:=fun c hc g b hb hcb => Int.le_trans (h2 c hc) (g b hb hcb)
   rcases Gd.count hd p (by omega) with a | a
   ·rcases Classical.em (∀ x,x < 4 * d.n → Gd d (lpass d p) (x / 4) → Gd d (lpass d p) (d.m x / 4)) with e | e
    ·exact .inr fun c hc => hk c hc (Gd.closed hd h e c hc)
    ·have:∃ x,x < 4 * d.n ∧ Gd d (lpass d p) (x / 4) ∧ ¬ Gd d (lpass d p) (d.m x / 4):=Classical.byContradiction fun q => e fun x hx g => Classical.byContradiction fun q' => q ⟨x,hx,g,q'⟩
     obtain ⟨x,x1,x2,x3⟩:=this
     have hm:=hd.lt x x1
     have:=cnt_imp_lt (p := Gd d (lpass d p)) (q := Gd d (lpass d (p + 1))) d.n hk (d.m x / 4) (by omega) x3 (h3 x x1 x2)
     exact .inl (by omega)
   ·exact .inr fun c hc => hk c hc (a c hc)
theorem lpass_done (hd:Wf d):PB d (lpass d d.n) := by
 have h:=PI.lpass hd d.n
 have hg:∀ c,c < d.n → Gd d (lpass d d.n) c:=by
  rcases Gd.count hd d.n (Nat.le_refl _) with a | a
  ·exact cnt_all d.n (Nat.le_antisymm (cnt_top _ _) a)
  ·exact a
 refine h.done hd fun x hx => ?_
 have hm:=hd.lt x hx
 obtain ⟨b,e1,e2,e3⟩:=h.is (d.m x / 4) (by omega)
 have:=hg (x / 4) (by omega) b (by omega) ((comp_m hd hx).trans e3)
 omega
end Go.Proofs.Ytghdiolnonejaaa.Pl
end
section
namespace Go.Proofs.Ytghdiolnonejaaa.Pl
open Classical in
noncomputable def cl (p:Nat → Prop):List Nat → Nat
 | [] => 0
 | x :: l => (if p x then 1 else 0) + cl p l
open Classical in
theorem cl_append (p:Nat → Prop):∀ l m:List Nat,cl p (l ++ m) = cl p l + cl p m
 | [],m => by simp [cl]
 | x :: l, m => by
   have:=cl_append p l m
   show (if p x then 1 else 0) + cl p (l ++ m) = (if p x then 1 else 0) + cl p l + cl p m
   omega
open Classical in
theorem cl_le (p:Nat → Prop):∀ l:List Nat,cl p l ≤ l.length
 | [] => Nat.le_refl _
 | x :: l => by
   have:=cl_le p l
   show (if p x then 1 else 0) + cl p l ≤ l.length + 1
   split <;> omega
open Classical in
theorem cl_pos {p:Nat → Prop} {x:Nat} (h:p x):cl p [x] = 1 := by show (if p x then 1 else 0) + 0 = 1; rw [if_pos h]
open Classical in
theorem cl_neg {p:Nat → Prop} {x:Nat} (h:¬ p x):cl p [x] = 0 := by show (if p x then 1 else 0) + 0 = 0; rw [if_neg h]
theorem cl_take {p:Nat → Prop} {l:List Nat} {i:Nat} (hi:i < l.length):cl p (l.take (i + 1)) = cl p (l.take i) + cl p [l.getD i 0] := by
 rw [List.take_succ_eq_append_getElem hi,cl_append,List.getD_eq_getElem?_getD,List.getElem?_eq_getElem hi]
 rfl
open Classical in
noncomputable def hds (d:Dg):Nat → List Nat
 | 0 => []
 | k + 1 => if Least (nx d) k then hds d k ++ [k] else hds d k
theorem hds_pos {d:Dg} {k:Nat} (h:Least (nx d) k):hds d (k + 1) = hds d k ++ [k] := if_pos h
theorem hds_neg {d:Dg} {k:Nat} (h:¬ Least (nx d) k):hds d (k + 1) = hds d k := if_neg h
theorem hds_lt (d:Dg):∀ k x,x ∈ hds d k → x < k
 | 0,x,h => by simp [hds] at h
 | k + 1, x, h => by
   by_cases e:Least (nx d) k
   ·rw [hds_pos e] at h
    rcases List.mem_append.1 h with h | h
    ·have:=hds_lt d k x h; omega
    ·rw [List.mem_singleton] at h; omega
   ·rw [hds_neg e] at h
    have:=hds_lt d k x h; omega
theorem hds_len (d:Dg):∀ k,(hds d k).length ≤ k
 | 0 => Nat.le_refl _
 | k + 1 => by
   have:=hds_len d k
   by_cases e:Least (nx d) k
   ·rw [hds_pos e,List.length_append]; simp; omega
   ·rw [hds_neg e]; omega
theorem hds_nf (d:Dg) (ps:List Int) (c:Nat):∀ k,cl (fun h => pv ps (h / 4) = c) (hds d k) = nf d ps c k
 | 0 => by show 0 = cnt _ 0; rfl
 | k + 1 => by
   have ih:=hds_nf d ps c k
   by_cases e:Least (nx d) k
   ·rw [hds_pos e,cl_append,ih]
    by_cases e2:pv ps (k / 4) = c
    ·rw [cl_pos e2]; unfold nf; rw [cnt_step_pos ⟨e,e2⟩]
    ·rw [cl_neg e2]; unfold nf; rw [cnt_step_neg (fun h => e2 h.2)]; omega
   ·rw [hds_neg e,ih]; unfold nf; rw [cnt_step_neg (fun h => e h.1)]
theorem least_cyc {d:Dg} (hd:Wf d) {h p:Nat} (hh:h < 4 * d.n) (hp:Per (nx d) h p):Least (nx d) h ↔ ∀ i,i < p → h ≤ it (nx d) i h := by
 constructor
 ·intro hl i _
  exact hl i
 ·intro hi i
  have hm:it (nx d) i h ∈ cyc (nx d) h p:=(mem_cyc hp).2 ⟨i,rfl⟩
  unfold cyc at hm
  obtain ⟨j,h1,h2⟩:=List.mem_map.1 hm
  rw [← h2]
  exact hi j (List.mem_range.1 h1)
theorem lrun_pi {d:Dg} (hd:Wf d) (p k:Nat) (hk:k ≤ 4 * d.n):PI d (lrun d (lpass d p) k) := ((PI.lpass hd p).lrun hd k hk).1
end Go.Proofs.Ytghdiolnonejaaa.Pl
end
section
namespace Go.Proofs.Ytghdiolnonejaaa
open Go Go.RowKit
attribute [local go_sem ↓] Go.wp_at_zero Go.wp_at_succ
structure CB (W:World) (g1 g2:Nat) (n:Nat) (most:Int):Prop where
 n:Row W g1 3 [.int .i64 (n:Int)]
 m:Row W g2 3 [.int .i64 most]
end Go.Proofs.Ytghdiolnonejaaa
end
section
namespace Go.Proofs.Ytghdiolnonejaaa
open Go Go.RowKit
theorem r1turn3 (h:Nat) (w:World) (hh:h ≤ 1000000) :
 Calls Try.prog 111 #[.int .i64 (h:Int),.int .i64 (-1)] w fun e w' => e = .returned (.int .i64 (Pl.tn h 3:Nat)) ∧ w' = w := by
 have t1:decide ((h:Int) < 0) = false:=by simp
 have h4:h % 4 = 0 ∨ h % 4 = 1 ∨ h % 4 = 2 ∨ h % 4 = 3:=by omega
 go_enter Try.func111,Try.ntmps111
 go_wp2
 go_ret
 refine ⟨ret_int ?_,rfl⟩
 rcases h4 with h4 | h4 | h4 | h4
 ·have e:(h:Int) % 4 = 0:=by omega
  rw [e,show (wrap64 (((0:Int) + -1).tmod 4 + 4)).tmod 4 = 3 by simp [wrap64]]
  unfold Pl.tn wrap64; omega
 ·have e:(h:Int) % 4 = 1:=by omega
  rw [e,show (wrap64 (((1:Int) + -1).tmod 4 + 4)).tmod 4 = 0 by simp [wrap64]]
  unfold Pl.tn wrap64; omega
 ·have e:(h:Int) % 4 = 2:=by omega
  rw [e,show (wrap64 (((2:Int) + -1).tmod 4 + 4)).tmod 4 = 1 by simp [wrap64]]
  unfold Pl.tn wrap64; omega
 ·have e:(h:Int) % 4 = 3:=by omega
  rw [e,show (wrap64 (((3:Int) + -1).tmod 4 + 4)).tmod 4 = 2 by simp [wrap64]]
  unfold Pl.tn wrap64; omega
set_option maxRecDepth 100000 in
set_option maxHeartbeats 2000000 in
theorem r1face_any (d:Pl.Dg) (hd:Pl.Wf d) (B:Option Addr) (cq m:Nat) (h p:Nat) (w:World) (hm:m = 4 * d.n) (hb:IntsAt w B m (nats d.mt)) (hh:h < 4 * d.n) (hp:Pl.Per (Pl.nx d) h p) (hpN:p ≤ 4 * d.n) :
 Calls Try.prog 66 #[.slice B m cq,.int .i64 (h:Int)] w (fun e w' => ∃ (A5:Option Addr) (c5:Nat),e = .returned (.slice A5 p c5) ∧ w'.ownsRow w.heap.size 3 1 (.slice A5 p c5) p ((Pl.cyc (Pl.nx d) h p).map (fun k:Nat => Value.int .i64 k)) ∧ Below w.heap.size w w') := by
 have hn:=hd.few
 have HD:=hide hd
 have HP:=hide hp
 have HM:=hide hm
 have HB:=hide hb
 have hp0:=hp.1
 have HPN:=hide hpN
 have hp4:p ≤ 256:=by omega
 have hm4:m ≤ 256:=by omega
 have hpm:p ≤ m:=by omega
 clear hp hm hb hd hpN
 obtain ⟨W1,hW1⟩:∃ W1:World,W1 = w.alloc (.cells #[.int .i64 (h:Int)] 3) := ⟨_,rfl⟩
 have B1:=hide (show Below w.heap.size w W1 by rw [hW1]; exact (Below.refl _ _).alloc (Nat.le_refl _) _)
 have O1:=hide (show W1.ownsRow w.heap.size 3 1 (.slice (some ⟨w.heap.size,0,none⟩) 1 1) 1 [.int .i64 (h:Int)] by
  rw [hW1]
  have:=own_one w (.int .i64 (h:Int))
  simpa using this)
 have lth:=HD.out.lt h hh
 obtain ⟨mb,mo,rfl,mc⟩:=mate_at (by rw [← HM.out]; exact HB.out.keep B1.out) hh
 obtain ⟨u,hu⟩:∃ u,u = d.m h := ⟨_,rfl⟩
 have HU:=hide hu
 rw [← hu] at mc lth
 clear hu
 have hhm:h < m:=by rw [HM.out]; exact hh
 go_enter Try.func66,Try.ntmps66
 rw [hW1] at mc
 go_wp2_with fail
 rw [← hW1]
 clear hW1 mc
 refine (r1turn3 u _ (by omega)).mono ?_
 rintro e w2 ⟨rfl,rfl⟩
 go_wp2_with fail
 go_loopg [5,6] (p - 1) (fun g v i wx => ∃ j:Nat,j + 1 + g = p ∧ i = .int .i64 (Pl.it (Pl.nx d) (j + 1) h:Nat) ∧ wx.ownsRow w.heap.size 3 1 v (j + 1) ((Pl.cyc (Pl.nx d) h (j + 1)).map (fun k:Nat => Value.int .i64 k)) ∧ Below w.heap.size w wx)
 case atStart => exact ⟨0,by omega,by rw [HU.out]; rfl,O1.out,B1.out⟩
 case round =>
  clear B1 O1
  obtain ⟨j,hjg,rfl,own,hb⟩:=hrel
  have HJ:=hide hjg
  have hjp:j + 1 ≤ p:=by omega
  have OWN:=hide own
  have HBL:=hide hb
  have hbs:=hb.size
  obtain ⟨x,hx⟩:∃ x,x = Pl.it (Pl.nx d) (j + 1) h := ⟨_,rfl⟩
  rw [← hx]
  have HX:=hide hx
  have hxN:x < 4 * d.n:=by rw [hx]; exact it_lt (fun y hy => HD.out.nxb.maps y hy) hh (j + 1)
  clear hjg own hb hx
  obtain ⟨A0,c0,hv0⟩:=owns_slice OWN.out
  by_cases he:x = h
  ·have hjj:¬ j + 1 < p:=fun hlt => HP.out.2.2 (j + 1) (by omega) hlt (by rw [← HX.out,he])
   have t1:((x:Int) != (h:Int)) = false:=by rw [bne_eq_false_iff_eq]; omega
   have HE:=hide he
   obtain rfl:j + 1 = p := by omega
   subst hv0
   clear he hjj
   go_wp2
   go_ret
   exact ⟨A0,c0,rfl,own_keep OWN.out (Below.refl _ _) (by omega),HBL.out⟩
  ·have t1:((x:Int) != (h:Int)) = true:=by rw [bne_iff_ne]; omega
   have hjj:j + 1 < p:=by
    rcases Nat.lt_or_ge (j + 1) p with h1 | h1
    ·exact h1
    ·have:j + 1 = p:=by omega
     exact absurd (by rw [HX.out,this]; exact HP.out.2.1) he
   clear he
   subst hv0
   obtain ⟨i0,hi0,hz0,hz1,hz2⟩:=info_parts intInfo
   have hwz1:w.heap.size ≤ wr.heap.size:=hbs
   go_wp2_with (at_builtin; refine wpList_append_lies _ (by rfl) _ _ 22 (by rfl) w.heap.size 3 i0 (.int .i64 0) 1 8 Try.underlying22 hi0 hz0 hz1 hz2 rfl (by omega) _ (j + 1) _ (by rfl) (OWN.out.alloc _) ⟨wr.heap.size,0,none⟩ 1 1 [.int .i64 (x:Int)] (by rfl) (by rfl) (one_news wr (.int .i64 (x:Int))) (by simp [Value.oneCell']) (by omega) (by unfold maxLen; omega) (by omega) (by simp; omega) (wr.heap.size + 1) (by simp) ?_; intro g3 c3 w3 own3 grow3 at3 lt3; have OWN3 := hide own3; have GR3 := hide grow3; have B3 := hide ((HBL.out.alloc hbs (.cells #[.int .i64 (x:Int)] 3)).grown GR3.out (by simp; omega) (fun k hk => by have := (OWN.out.lt k hk).1; omega)); obtain ⟨mb',mo',e',mc⟩:=mate_at (by rw [← HM.out]; exact HB.out.keep B3.out) hxN; injection e' with e'; injection e' with e1' e2'; subst e1'; subst e2'; have ltx := HD.out.lt x hxN; obtain ⟨y,hy⟩:∃ y,y = d.m x := ⟨_,rfl⟩; have HY := hide hy; rw [← hy] at mc ltx; have hxm:x < m := (by rw [HM.out]; exact hxN); clear own3 grow3 at3 hy)
   refine (r1turn3 y _ (by omega)).mono ?_
   rintro e w4 ⟨rfl,rfl⟩
   clear mc
   go_wp2_with fail
   go_roundg (gk - 1)
   case measure => have := HJ.out; omega
   case rel =>
    refine ⟨j + 1,by have := HJ.out; omega,?_,?_,B3.out⟩
    ·rw [HY.out,HX.out]; rfl
    ·have:=OWN3.out
     rw [Pl.cyc_succ,List.map_append,← HX.out]
     exact this
def FcL (d:Pl.Dg) (k:Nat) (fs:List (List Nat)):Prop := fs.map (fun l => l.getD 0 0) = Pl.hds d k ∧ ∀ l,l ∈ fs → 0 < l.length
theorem FcL.len {d:Pl.Dg} {k:Nat} {fs:List (List Nat)} (h:FcL d k fs):fs.length = (Pl.hds d k).length := by rw [← h.1,List.length_map]
theorem FcL.add {d:Pl.Dg} {k p:Nat} {fs:List (List Nat)} (h:FcL d k fs) (hl:Pl.Least (Pl.nx d) k) (hp:0 < p):FcL d (k + 1) (fs ++ [Pl.cyc (Pl.nx d) k p]) := by
 refine ⟨?_,fun l hl2 => ?_⟩
 ·rw [List.map_append,h.1,Pl.hds_pos hl,List.map_singleton,Pl.cyc_get hp]
  rfl
 ·rcases List.mem_append.1 hl2 with h2 | h2
  ·exact h.2 l h2
  ·rw [List.mem_singleton] at h2; subst h2; rw [Pl.cyc_len]; exact hp
theorem FcL.skip {d:Pl.Dg} {k:Nat} {fs:List (List Nat)} (h:FcL d k fs) (hl:¬ Pl.Least (Pl.nx d) k):FcL d (k + 1) fs := ⟨by rw [h.1,Pl.hds_neg hl],h.2⟩
set_option maxRecDepth 100000 in
set_option maxHeartbeats 4000000 in
theorem r1faces_any (d:Pl.Dg) (hd:Pl.Wf d) (B:Option Addr) (cq m:Nat) (w:World) (hm:m = 4 * d.n) (hb:IntsAt w B m (nats d.mt)) :
 Calls Try.prog 40 #[.slice B m cq] w (fun e w' => ∃ (A5:Option Addr) (c5:Nat) (vs:List Value) (fs:List (List Nat)),e = .returned (.slice A5 fs.length c5) ∧ FcL d (4 * d.n) fs ∧ RowT w' 22 A5 fs.length vs ∧ Vs w' vs fs ∧ Below w.heap.size w w') := by
 have hn:=hd.few
 have HD:=hide hd
 have HM:=hide hm
 have HB:=hide hb
 have hm4:m ≤ 256:=by omega
 clear hm hb hd
 go_enter Try.func40,Try.ntmps40
 go_wp2
 go_loopg [3,4] m (fun g v i wx => ∃ (k:Nat) (vs:List Value) (fs:List (List Nat)),k + g = m ∧ i = .int .i64 k ∧ FcL d k fs ∧ wx.ownsRow w.heap.size 22 1 v fs.length vs ∧ Vs wx vs fs ∧ Below w.heap.size w wx)
 case atStart => exact ⟨0,[],[],by omega,rfl,⟨rfl,fun l h => by simp at h⟩,World.ownsRow_nil _ _ _ _,Vs.nil _,Below.refl _ _⟩
 case round =>
  obtain ⟨k,vs,fs,hkg,rfl,hfl,hown,hvs,hb⟩:=hrel
  have HKG:=hide hkg
  have hkm:k ≤ m:=by omega
  have HFL:=hide hfl
  have OWN:=hide hown
  have HVS:=hide hvs
  have HBL:=hide hb
  have hbs:=hb.size
  obtain ⟨A7,c7,rfl⟩:=owns_slice hown
  have hfn:fs.length ≤ 256:=by have := hfl.len; have := Pl.hds_len d k; omega
  clear hkg hfl hown hvs hb
  by_cases hlt:k < m
  ·have hk4:k < 4 * d.n:=by have := HM.out; omega
   obtain ⟨p,hpN,hper⟩:=HD.out.nxb.per (x := k) hk4
   have HPER:=hide hper
   have HL:=hide (Pl.least_cyc HD.out hk4 hper)
   have hp0:=hper.1
   clear hper
   go_wp2_with fail
   refine (r1face_any d HD.out B cq m k p _ HM.out (HB.out.keep HBL.out) hk4 HPER.out hpN).mono ?_
   rintro e w2 ⟨A5,c5,rfl,own5,hb5⟩
   have FA:=hide (show FaceAt w2 (.slice A5 p c5) (Pl.cyc (Pl.nx d) k p) from ⟨A5,c5,by rw [Pl.cyc_len],by rw [Pl.cyc_len]; exact own_rowT own5⟩)
   have O2:=hide (own_keep OWN.out hb5 (Nat.le_refl _))
   have V2:=hide (HVS.out.below hb5)
   have B2:=hide (HBL.out.trans (hb5.mono hbs))
   clear own5 hb5
   go_wp2_with fail
   obtain ⟨b5,o5,rfl,_⟩:=nats_at FA.out.ints.2 (k := 0) hp0
   go_loopg [6,7] p (fun g b i wx => ∃ j:Nat,j + g = p ∧ i = .int .i64 j ∧ b = .bool (Pl.vb (∀ i,i < j → k ≤ Pl.it (Pl.nx d) i k)) ∧ wx = w2)
   case atStart => exact ⟨0,by omega,rfl,by rw [Pl.vb_true (fun i hi => absurd hi (by omega))],rfl⟩
   case round =>
    obtain ⟨j,hjg,rfl,rfl,rfl⟩:=hrel
    have HJG:=hide hjg
    have hjp:j ≤ p:=by omega
    clear hjg
    by_cases hlj:j < p
    ·obtain ⟨b',o',e',hcj⟩:=nats_at FA.out.ints.2 (k := j) hlj
     injection e' with e'
     injection e' with e1 e2
     subst e1
     subst e2
     rw [Pl.cyc_get hlj] at hcj
     obtain ⟨y,hy⟩:∃ y,y = Pl.it (Pl.nx d) j k := ⟨_,rfl⟩
     rw [← hy] at hcj
     have HS:=hide (vb_step (P := fun i => k ≤ Pl.it (Pl.nx d) i k) j)
     have HY:=hide hy
     clear hy
     cases hv:Pl.vb (∀ i,i < j → k ≤ Pl.it (Pl.nx d) i k) with
     | false =>
       have HV:=hide hv
       clear hv
       go_wp2
       go_roundg (gk - 1)
       case measure => have := HJG.out; omega
       case rel => exact ⟨j + 1,by have := HJG.out; omega,by go_num,by rw [HS.out,HV.out]; rfl,rfl⟩
     | true =>
       have HV:=hide hv
       clear hv
       by_cases hky:k ≤ y
       ·have t1:decide ((k:Int) ≤ (y:Int)) = true:=by simp; omega
        go_wp2
        go_roundg (gk - 1)
        case measure => have := HJG.out; omega
        case rel => exact ⟨j + 1,by have := HJG.out; omega,by go_num,by rw [HS.out,HV.out,Pl.vb_true (show k ≤ Pl.it (Pl.nx d) j k by rw [← HY.out]; exact hky)]; rfl,rfl⟩
       ·have t1:decide ((k:Int) ≤ (y:Int)) = false:=by simp; omega
        go_wp2
        go_roundg (gk - 1)
        case measure => have := HJG.out; omega
        case rel => exact ⟨j + 1,by have := HJG.out; omega,by go_num,by rw [HS.out,HV.out,Pl.vb_false (show ¬ k ≤ Pl.it (Pl.nx d) j k by rw [← HY.out]; exact hky)]; rfl,rfl⟩
    ·have hjj:j = p:=by omega
     have HE:=hide hjj
     obtain ⟨b,hb⟩:∃ b,b = Pl.vb (∀ i,i < j → k ≤ Pl.it (Pl.nx d) i k) := ⟨_,rfl⟩
     rw [← hb]
     have HBB:=hide (show (b = true ↔ Pl.Least (Pl.nx d) k) by rw [hb,Pl.vb_iff,HE.out]; exact HL.out.symm)
     clear hb hjj
     cases b with
     | false =>
       have HN:=hide (HFL.out.skip (fun h => absurd (HBB.out.2 h) (by decide)))
       go_wp2
       go_roundg (m - (k + 1))
       case measure => have := HKG.out; omega
       case rel => exact ⟨k + 1,vs,fs,by have := HKG.out; omega,by go_num,HN.out,O2.out,V2.out,B2.out⟩
     | true =>
       have HN:=hide (HFL.out.add (HBB.out.1 rfl) hp0)
       obtain ⟨i0,hi0,hz0,hz1,hz2⟩:=info_parts rowInfo
       have P1:∀ u ∈ [Value.slice (some ⟨b5,o5,none⟩) p c5],u.oneCell' = true:=by simp [Value.oneCell']
       have hb2s:=B2.out.size
       go_wp2_with (at_builtin; refine wpList_append_lies _ (by rfl) _ _ 56 (by rfl) w.heap.size 22 i0 (.slice none 0 0) 1 24 Try.underlying56 hi0 hz0 hz1 hz2 rfl (by omega) _ fs.length vs (by rfl) (O2.out.alloc _) ⟨wr.heap.size,0,none⟩ 1 1 [.slice (some ⟨b5,o5,none⟩) p c5] (by rfl) (by rfl) (World.news_of_block (cs := #[.slice (some ⟨b5,o5,none⟩) p c5]) (t := 22) (fr := (0,0)) (heap_alloc_new wr _)) P1 (by omega) (by unfold maxLen; omega) (by omega) (by simp; omega) (wr.heap.size + 1) (by simp) ?_; intro g3 c3 w3 own3 grow3 at3 lt3)
       go_roundg (m - (k + 1))
       case measure => have := HKG.out; omega
       case rel =>
        have hbk:=fun g (hg:(Value.slice A7 fs.length c7).ownBlock = some g) => ownsRow_block (O2.out.alloc (.cells #[.slice (some ⟨b5,o5,none⟩) p c5] 22)) g hg
        have hba:Below wr.heap.size wr (wr.alloc (.cells #[.slice (some ⟨b5,o5,none⟩) p c5] 22)):=(Below.refl _ _).alloc (Nat.le_refl _) _
        refine ⟨k + 1,vs ++ [.slice (some ⟨b5,o5,none⟩) p c5],fs ++ [Pl.cyc (Pl.nx d) k p],by have := HKG.out; omega,by go_num,HN.out,by simpa using own3,?_,?_⟩
        ·exact ((V2.out.below hba).grown grow3 hbk (by decide)).add ((FA.out.below hba).grown grow3 hbk (by decide))
        ·exact (B2.out.alloc hb2s _).grown grow3 (by simp; omega) (fun k hk => by have := (O2.out.lt k hk).1; omega)
  ·have hkm':k = m:=by omega
   have E:=hide (show FcL d (4 * d.n) fs by rw [← HM.out,← hkm']; exact HFL.out)
   go_wp2
   go_ret
   exact ⟨A7,c7,vs,fs,rfl,E.out,own_rowT OWN.out,HVS.out,HBL.out⟩
end Go.Proofs.Ytghdiolnonejaaa
end
section
namespace Go.Proofs.Ytghdiolnonejaaa
open Go Go.RowKit
set_option maxRecDepth 100000 in
set_option maxHeartbeats 4000000 in
theorem rlabel_any (d:Pl.Dg) (hd:Pl.Wf d) (B:Option Addr) (cq m:Nat) (w:World) (hm:m = 4 * d.n) (hb:IntsAt w B m (nats d.mt)) :
 Calls Try.prog 39 #[.slice B m cq] w fun e w' =>
  e = .returned (.slice (some ⟨w.heap.size,0,none⟩) d.n d.n) ∧ IRow w' w.heap.size (Pl.lpass d d.n) ∧ Below w.heap.size w w' := by
 have hn:=hd.few
 have HF:=hide hd
 have HM:=hide hm
 have hm2:m ≤ 256:=by omega
 have HB:=hide hb
 have hdiv:(m:Int) / 4 = (d.n:Int):=by omega
 have hdiv2:(m:Int).tdiv 4 = (d.n:Int):=by rw [hm]; show ((4 * d.n:Nat):Int).tdiv 4 = _; rw [Int.tdiv_eq_ediv_of_nonneg (by omega)]; omega
 clear hd hm hb
 have hmk:=run_ints d.n (by omega) w
 go_enter Try.func39,Try.ntmps39
 go_wp2
 clear hmk
 obtain ⟨W1,hW1⟩:∃ W1:World,W1 = w.alloc (.cells (Array.replicate d.n (Value.int .i64 0)) 3) := ⟨_,rfl⟩
 have B1:=hide (show Below w.heap.size w W1 by rw [hW1]; exact (Below.refl _ _).alloc (Nat.le_refl _) _)
 have R1:=hide (show IRow W1 w.heap.size (Pl.ids d.n 0) by
  rw [hW1,Pl.ids_zero]
  exact IRow.made w d.n)
 rw [← hW1]
 clear hW1
 go_loopg [5] d.n (fun g i wx => ∃ k:Nat,k + g = d.n ∧ i = .int .i64 k ∧ Below w.heap.size w wx ∧ IRow wx w.heap.size (Pl.ids d.n k))
 case atStart => exact ⟨0,by omega,rfl,B1.out,R1.out⟩
 case round =>
  obtain ⟨k,hkg,rfl,b2,r2⟩:=hrel
  have HK:=hide hkg
  have hks:k ≤ d.n:=by omega
  clear hkg
  by_cases hlt:k < d.n
  ·have c1:=r2.cell (i := k) (by rw [Pl.ids_len]; exact hlt)
   have f1:=Row.free r2 k
   have B2:=hide b2
   have R2:=hide r2
   clear b2 r2
   go_wp2
   go_roundg (gk - 1)
   case measure => have := HK.out; omega
   case rel =>
    refine ⟨k + 1,by have := HK.out; omega,by go_num,?_,?_⟩
    ·exact B2.out.setCell (Nat.le_refl _) _
    ·have:=R2.out.set k k
     rwa [Pl.ids_set hlt] at this
  ·have hkn:k = d.n:=by omega
   have B2:=hide b2
   have R2:=hide (show IRow wr w.heap.size (Pl.lpass d 0) by subst hkn; exact r2)
   clear b2 r2 hkn
   go_wp2
   go_loopg [6] d.n (fun g p wx => ∃ k:Nat,k + g = d.n ∧ p = .int .i64 k ∧ Below w.heap.size w wx ∧ IRow wx w.heap.size (Pl.lpass d k))
   case atStart => exact ⟨0,by omega,rfl,B2.out,R2.out⟩
   case round =>
    clear B2 R2 B1 R1 HK hks hlt
    obtain ⟨p,hkg,rfl,b3,r3⟩:=hrel
    have HP:=hide hkg
    have hpn:p ≤ d.n:=by omega
    have B3:=hide b3
    have R3:=hide r3
    clear hkg b3 r3
    by_cases hlt:p < d.n
    ·go_wp2
     go_loopg [7] m (fun g i wx => ∃ k:Nat,k + g = m ∧ i = .int .i64 k ∧ Below w.heap.size w wx ∧ IRow wx w.heap.size (Pl.lrun d (Pl.lpass d p) k))
     case atStart => exact ⟨0,by omega,rfl,B3.out,R3.out⟩
     case round =>
      clear B3 R3
      obtain ⟨k,hkg,rfl,b4,r4⟩:=hrel
      have HK:=hide hkg
      have hkm:k ≤ m:=by omega
      have B4:=hide b4
      have R4:=hide r4
      clear hkg b4 r4
      by_cases hlk:k < m
      ·have hk4:k < 4 * d.n:=by have := HM.out; omega
       have hmk4:=HF.out.lt k hk4
       have HI:=hide (Pl.lrun_pi HF.out p k (by omega))
       obtain ⟨bb,bo,rfl,hmc⟩:=mate_at (by rw [← HM.out]; exact HB.out.keep B4.out) hk4
       obtain ⟨qs,hqs⟩:∃ qs,qs = Pl.lrun d (Pl.lpass d p) k := ⟨_,rfl⟩
       have HQS:=hide hqs
       rw [← hqs] at R4 HI
       clear hqs
       have hk5:k / 4 < d.n:=by omega
       have c1:=R4.out.cell (i := k / 4) (by rw [HI.out.len]; exact hk5)
       obtain ⟨u,hu⟩:∃ u,u = d.m k := ⟨_,rfl⟩
       rw [← hu] at hmc hmk4
       have HU:=hide hu
       have hu5:u / 4 < d.n:=by omega
       have c2:=R4.out.cell (i := u / 4) (by rw [HI.out.len]; exact hu5)
       have f1:=Row.free R4.out (k / 4)
       have f2:=Row.free R4.out (u / 4)
       have l1:=HI.out.nat hk5
       have l2:=HI.out.nat hu5
       obtain ⟨x,hx⟩:∃ x,x = Pl.pv qs (k / 4) := ⟨_,rfl⟩
       obtain ⟨y,hy⟩:∃ y,y = Pl.pv qs (u / 4) := ⟨_,rfl⟩
       have HX:=hide hx
       have HY:=hide hy
       rw [← hx] at c1 l1
       rw [← hy] at c2 l2
       clear hu hx hy
       go_wp2
       go_quiet (fail)
       go_wp2
       go_cut [10] from 43 to 51 (fun s10 wx => s10 = .int .i64 (min x y) ∧ IRow wx w.heap.size qs ∧ Below w.heap.size w wx)
       case first =>
        go_region
        all_goals (go_wp2_with fail; go_meet)
        all_goals exact ⟨rfl,Row.drewN R4.out _,Below.drewN' B4.out _⟩
       case rest =>
        obtain ⟨rfl,r6,b6⟩:=hcut
        have c1:=r6.cell (i := k / 4) (by rw [HI.out.len]; exact hk5)
        have c2:=r6.cell (i := u / 4) (by rw [HI.out.len]; exact hu5)
        have f1:=Row.free r6 (k / 4)
        have f2:=Row.free r6 (u / 4)
        have R6:=hide r6
        have B6:=hide b6
        have MU:=hide (rfl:min x y = min x y)
        obtain ⟨z,hz⟩:∃ z,z = min x y := ⟨_,rfl⟩
        rw [← hz]
        have HZ:=hide hz
        have f3:=Row.free (R6.out.set (k / 4) z) (u / 4)
        have c3:=(R6.out.set (k / 4) z).cell (i := u / 4) (by rw [List.length_set,HI.out.len]; exact hu5)
        clear r6 b6 hz MU
        go_wp2
        go_roundg (gk - 1)
        case measure => have := HK.out; omega
        case rel =>
         refine ⟨k + 1,by have := HK.out; omega,by go_num,(B6.out.setCell (Nat.le_refl _) _).setCell (Nat.le_refl _) _,?_⟩
         have h:=(R6.out.set (k / 4) z).set (u / 4) z
         have e:Pl.lrun d (Pl.lpass d p) (k + 1) = (qs.set (k / 4) z).set (u / 4) z:=by
          show Pl.lstep d (Pl.lrun d (Pl.lpass d p) k) k = _
          unfold Pl.lstep
          rw [← HQS.out,← HU.out,← HX.out,← HY.out,← HZ.out]
         rw [e]
         exact h
      ·have hkm':k = m:=by omega
       have R5:=hide (show IRow wr w.heap.size (Pl.lpass d (p + 1)) by
        have h:=R4.out
        rw [hkm',HM.out] at h
        exact h)
       clear hkm'
       go_wp2
       go_roundg (d.n - (p + 1))
       case measure => have := HP.out; omega
       case rel => exact ⟨p + 1,by omega,by go_num,B4.out,R5.out⟩
    ·have hpn':p = d.n:=by omega
     have E:=hide (show IRow wr w.heap.size (Pl.lpass d d.n) by rw [← hpn']; exact R3.out)
     clear hpn'
     go_wp2
     go_ret
     exact ⟨rfl,E.out,B3.out⟩
end Go.Proofs.Ytghdiolnonejaaa
end
section
namespace Go.Proofs.Ytghdiolnonejaaa
open Go Go.RowKit
attribute [local go_sem ↓] Go.wp_at_zero Go.wp_at_succ
section
variable {w W W':World} {ga k:Nat} {most:Int} {d r:Pl.Dg} {cs:List Int} {l:List Mv} {v:Value} {A9 B9:Option Addr} {n c8 m c9 lp:Nat}
end
theorem own_row_neM {W:World} {base b n:Nat} {t:TypeId} {v:Value} {xs vs:List Value} (h:W.ownsRow base 37 5 v n xs) (hr:Row W b t vs) (ht:37 ≠ t):some b ≠ v.ownBlock := by
 intro e
 obtain ⟨cs,fr,h3⟩:=ownsRow_block h b e.symm
 rw [hr] at h3
 injection h3 with h3
 injection h3 with _ h4
 exact ht h4.symm
theorem DgT.grownM {w w':World} {A B:Option Addr} {d:Pl.Dg} {base n:Nat} {v:Value} {xs:List Value} (h:DgT w A B d) (ho:w.ownsRow base 37 5 v n xs) (hg:w.grownBy w' v.ownBlock):DgT w' A B d :=
 ⟨h.s.grown hg (fun g e => ownsRow_block ho g e) (by decide),h.m.grown hg (fun g e => ownsRow_block ho g e) (by decide)⟩
end Go.Proofs.Ytghdiolnonejaaa
end
