/-
 The texts Xj, Xo, Rz, Xp.
-/
import Derived.Test.YtobbepmlmbbamaaE04
import Derived.Test.YtobbepmlmbbamaaE06
set_option linter.unusedVariables false
set_option linter.unusedSimpArgs false
section
namespace Go.Proofs.Ytobbepmlmbbamaa
open Go Go.RowKit
attribute [local go_sem ↓] Go.wp_at_zero Go.wp_at_succ
def sb (d:Pl.Dg) (h k:Nat):Nat := Pl.tn (eo d (th d h k)) 2
def so (d:Pl.Dg) (h k:Nat):Nat := eo d (th d h k)
def si (d:Pl.Dg) (h k:Nat):Nat := ei d (th d h k)
def sf (d:Pl.Dg) (h k:Nat):Nat := Pl.tn (ei d (th d h k)) 2
def sTo (d:Pl.Dg) (h:Nat):Nat → List Nat
 | 0 => List.range (4 * d.n)
 | k + 1 => ((sTo d h k).set (sb d h k) (si d h k)).set (sf d h k) (so d h k)
def sOu (d:Pl.Dg) (h:Nat):Nat → List Bool
 | 0 => List.replicate (4 * d.n) false
 | k + 1 => ((sOu d h k).set (sb d h k) true).set (sf d h k) true
def sM (d:Pl.Dg) (h:Nat):Nat → List Nat
 | 0 => d.mt
 | u + 1 => if (sOu d h 3).getD u false = true then jn (sM d h u) ((sTo d h 3).getD u 0) ((sTo d h 3).getD (d.m u) 0) else sM d h u
def sF (d:Pl.Dg) (h:Nat):Nat → List Nat
 | 0 => sM d h (4 * d.n)
 | k + 1 => jn (sF d h k) (sb d h k) (sf d h k)
def lnx (l:List Nat) (u:Nat):Nat := Pl.tn (l.getD u 0) 3
def sC (d:Pl.Dg) (h u:Nat):Bool := (sOu d h 3).getD u false && (sOu d h 3).getD (lnx (sF d h 3) u) false && (sOu d h 3).getD (lnx (sF d h 3) (lnx (sF d h 3) u)) false && lnx (sF d h 3) (lnx (sF d h 3) (lnx (sF d h 3) u)) == u
def sX (d:Pl.Dg) (h:Nat):Nat → Nat
 | 0 => 0
 | g + 1 => if sC d h (4 * d.n - (g + 1)) then 4 * d.n - (g + 1) else sX d h g
open Classical in
noncomputable def sldC (d:Pl.Dg) (h:Nat):Int := if isT d h then 0 else 6
def sldD (d:Pl.Dg) (h:Nat):Pl.Dg := ⟨d.sg,sF d h 3,d.lp⟩
def sldI (d:Pl.Dg) (h:Nat):Mv := ⟨5,sX d h (4 * d.n),0,0,false⟩
theorem jn_len0 (l:List Nat) (a b:Nat):(jn l a b).length = l.length := by unfold jn; simp
theorem sTo_len (d:Pl.Dg) (h:Nat):∀ k,(sTo d h k).length = 4 * d.n
 | 0 => by simp [sTo]
 | k + 1 => by simp [sTo,sTo_len d h k]
theorem sOu_len (d:Pl.Dg) (h:Nat):∀ k,(sOu d h k).length = 4 * d.n
 | 0 => by simp [sOu]
 | k + 1 => by simp [sOu,sOu_len d h k]
theorem sM_len {d:Pl.Dg} (hd:Pl.Wf d) (h:Nat):∀ u,(sM d h u).length = 4 * d.n
 | 0 => hd.len
 | u + 1 => by unfold sM; split <;> simp [jn_len0,sM_len hd h u]
theorem sF_len {d:Pl.Dg} (hd:Pl.Wf d) (h:Nat):∀ k,(sF d h k).length = 4 * d.n
 | 0 => sM_len hd h _
 | k + 1 => by unfold sF; simp [jn_len0,sF_len hd h k]
theorem tri_v (d:Pl.Dg) (hd:Pl.Wf d) (A B:Option Addr) (cp cq m h:Nat) (w:World) (hm:m = 4 * d.n) (hg:DgAt w A B d) (hh:h < 4 * d.n) :
 Calls Try.prog 94 #[.agg #[.slice A d.n cp,.slice B m cq,.int .i64 d.lp],.int .i64 (h:Int)] w fun e w' => ∃ b0 o0 i0 f0 b1 o1 i1 f1 b2 o2 i2 f2:Nat,
  e = .returned (.tuple #[.agg #[.int .i64 (b0:Int),.int .i64 (o0:Int),.int .i64 (i0:Int),.int .i64 (f0:Int),.int .i64 (b1:Int),.int .i64 (o1:Int),.int .i64 (i1:Int),.int .i64 (f1:Int),.int .i64 (b2:Int),.int .i64 (o2:Int),.int .i64 (i2:Int),.int .i64 (f2:Int)],.bool (Pl.vb (isT d h))]) ∧
  (isT d h → b0 = sb d h 0 ∧ o0 = so d h 0 ∧ i0 = si d h 0 ∧ f0 = sf d h 0 ∧ b1 = sb d h 1 ∧ o1 = so d h 1 ∧ i1 = si d h 1 ∧ f1 = sf d h 1 ∧ b2 = sb d h 2 ∧ o2 = so d h 2 ∧ i2 = si d h 2 ∧ f2 = sf d h 2) ∧ Below w.heap.size w w' := by
 refine (triangle_any d hd A B cp cq m h w hm hg hh).mono ?_
 rintro e w' ⟨h1,h2,hb⟩
 by_cases h3:is3 d h
 ·exact ⟨_,_,_,_,_,_,_,_,_,_,_,_,h1 h3,fun _ => ⟨rfl,rfl,rfl,rfl,rfl,rfl,rfl,rfl,rfl,rfl,rfl,rfl⟩,hb⟩
 ·refine ⟨0,0,0,0,0,0,0,0,0,0,0,0,?_,fun h => absurd h.1 h3,hb⟩
  rw [h2 h3,Pl.vb_false (fun h => h3 h.1)]
  rfl
theorem s_lt {d:Pl.Dg} (hd:Pl.Wf d) {h:Nat} (hh:h < 4 * d.n) (k:Nat):sb d h k < 4 * d.n ∧ so d h k < 4 * d.n ∧ si d h k < 4 * d.n ∧ sf d h k < 4 * d.n := by
 have h1:=eo_lt hd (th_lt hd hh k)
 have h2:=hd.lt _ h1
 exact ⟨Pl.tn_lt h1,h1,h2,Pl.tn_lt h2⟩
theorem sTo_lt {d:Pl.Dg} (hd:Pl.Wf d) {h:Nat} (hh:h < 4 * d.n):∀ k u,u < 4 * d.n → (sTo d h k).getD u 0 < 4 * d.n
 | 0,u,hu => by simp [sTo,List.getD_eq_getElem?_getD,hu]
 | k + 1, u, hu => by
   obtain ⟨h1,h2,h3,h4⟩:=s_lt hd hh k
   have ih:=sTo_lt hd hh k u hu
   have key:∀ (l:List Nat) (a b:Nat),l.getD u 0 < 4 * d.n → b < 4 * d.n → (l.set a b).getD u 0 < 4 * d.n:=by
    intro l a b hl hb
    rw [List.getD_eq_getElem?_getD,List.getElem?_set] at *
    split
    ·split
     ·simpa using hb
     ·simp; omega
    ·exact hl
   exact key _ _ _ (key _ _ _ ih h3) h2
theorem jn_lt' {N:Nat} {l:List Nat} {a b:Nat} (h:∀ k,k < N → l.getD k 0 < N) (ha:a < N) (hb:b < N):∀ k,k < N → (jn l a b).getD k 0 < N := by
 intro k hk
 have key:∀ (l:List Nat) (a b:Nat),l.getD k 0 < N → b < N → (l.set a b).getD k 0 < N:=by
  intro l a b hl hb
  rw [List.getD_eq_getElem?_getD,List.getElem?_set] at *
  split
  ·split
   ·simpa using hb
   ·simp; omega
  ·exact hl
 exact key _ _ _ (key _ _ _ (h k hk) hb) ha
theorem sM_lt {d:Pl.Dg} (hd:Pl.Wf d) {h:Nat} (hh:h < 4 * d.n):∀ u,u ≤ 4 * d.n → ∀ k,k < 4 * d.n → (sM d h u).getD k 0 < 4 * d.n
 | 0, _, k, hk => by
   have:=hd.lt k hk
   rw [← getD_m (by rw [hd.len]; exact hk)] at this
   exact this
 | u + 1, hu, k, hk => by
   unfold sM
   split
   ·exact jn_lt' (sM_lt hd hh u (by omega)) (sTo_lt hd hh 3 u (by omega)) (sTo_lt hd hh 3 _ (hd.lt u (by omega))) k hk
   ·exact sM_lt hd hh u (by omega) k hk
theorem sF_lt {d:Pl.Dg} (hd:Pl.Wf d) {h:Nat} (hh:h < 4 * d.n):∀ j k,k < 4 * d.n → (sF d h j).getD k 0 < 4 * d.n
 | 0,k,hk => sM_lt hd hh _ (Nat.le_refl _) k hk
 | j + 1, k, hk => by
   obtain ⟨h1,h2,h3,h4⟩:=s_lt hd hh j
   unfold sF
   exact jn_lt' (sF_lt hd hh j) h1 h4 k hk
theorem nats_set0 (F:List Nat) (y v:Nat):nats (F.set y v) = (nats F).set y (v:Int) := by unfold nats; rw [List.map_set]
theorem nats_len (F:List Nat):(nats F).length = F.length := by unfold nats; simp
theorem s_ne {d:Pl.Dg} (hd:Pl.Wf d) {h:Nat} (hh:h < 4 * d.n) (hi:isT d h) (k:Nat) (hk:k < 3):sb d h k ≠ sf d h k := by
 have hl:=th_lt hd hh k
 obtain ⟨⟨e3,c01,c12,c02⟩,_⟩:=hi
 have key:d.m (th d h k) / 4 ≠ th d h k / 4:=by
  have hk3:k = 0 ∨ k = 1 ∨ k = 2:=by omega
  have nd:∀ z,Pl.nx d z / 4 = d.m z / 4:=fun z => by unfold Pl.nx; rw [Pl.tn_div]
  rcases hk3 with rfl | rfl | rfl
  ·rw [← nd]; show th d h 1 / 4 ≠ h / 4; omega
  ·rw [← nd]; show th d h 2 / 4 ≠ th d h 1 / 4; omega
  ·rw [← nd,e3]; omega
 intro e
 have:=congrArg (· / 4) e
 unfold sb sf ei eo at this
 simp only [Pl.tn_div] at this
 by_cases ho:Pl.out d (th d h k) = true
 ·rw [if_pos ho] at this; omega
 ·rw [if_neg ho,hd.inv _ hl] at this; omega
section
variable {w W W':World} {ge:Nat} {dv mv ev:List Value}
end
section
variable {w W W2:World} {ge gt gu gr g1 c1 g2 c2 base m n:Nat} {dv mv ev:List Value} {tl:List Int} {ou:List Bool} {ss:List Value} {lp:Int} {L L':List Nat}
end
theorem getD_natsS {l:List Nat} {i:Nat}:Pl.pv (nats l) i = ((l.getD i 0:Nat):Int) := by
 unfold Pl.pv nats
 rw [List.getD_eq_getElem?_getD,List.getD_eq_getElem?_getD,List.getElem?_map]
 cases l[i]? <;> rfl
def tk (m k:Nat):List Nat := (List.range m).map (fun j => if j < k then j else 0)
theorem tk_len (m k:Nat):(tk m k).length = m := by simp [tk]
theorem tk_zero (m:Nat):nats (tk m 0) = List.replicate m 0 := by
 apply List.ext_getElem (by simp [nats,tk])
 intro i h1 h2
 simp [nats,tk]
theorem tk_set {m k:Nat} (h:k < m):(nats (tk m k)).set k (k:Int) = nats (tk m (k + 1)) := by
 apply List.ext_getElem (by simp [nats,tk])
 intro i h1 h2
 simp only [nats,tk,List.getElem_set,List.getElem_map,List.getElem_range]
 by_cases h3:k = i
 ·subst h3; simp
 ·rw [if_neg h3]
  by_cases h4:i < k
  ·rw [if_pos h4,if_pos (by omega)]
  ·rw [if_neg h4,if_neg (by omega)]
theorem tk_all (m:Nat):tk m m = List.range m := by
 apply List.ext_getElem (by simp [tk])
 intro i h1 h2
 simp [tk] at h1 ⊢
 omega
end Go.Proofs.Ytobbepmlmbbamaa
end
section
namespace Go.Proofs.Ytobbepmlmbbamaa
open Go Go.RowKit
theorem tr_of {d:Pl.Dg} {h:Nat} (hh:h < 4 * d.n) (hi:is3 d h):Pl.Tr d (th d h 0) (th d h 1) (th d h 2) :=
 ⟨hh,rfl,rfl,hi.1,hi.2.1,hi.2.2.1,hi.2.2.2⟩
def sT (d:Pl.Dg) (h x:Nat):Nat := Pl.tu (th d h 0) (th d h 1) (th d h 2) x
def sO (d:Pl.Dg) (h x:Nat):Prop := x = Pl.tn (th d h 0) 2 ∨ x = Pl.tn (th d h 1) 2 ∨ x = Pl.tn (th d h 2) 2 ∨ x = Pl.tn (th d h 0) 3 ∨ x = Pl.tn (th d h 1) 3 ∨ x = Pl.tn (th d h 2) 3
def sI (d:Pl.Dg) (h x:Nat):Prop := x = th d h 0 ∨ x = th d h 1 ∨ x = th d h 2 ∨ x = Pl.tn (th d h 0) 1 ∨ x = Pl.tn (th d h 1) 1 ∨ x = Pl.tn (th d h 2) 1
abbrev TriAt (d:Pl.Dg) (h0 h1 h2:Nat) (m t:Nat → Nat):Prop :=
 Pl.Tri (Pl.dart d) Pl.rot m t h0 h1 h2 (Pl.tn h0 1) (Pl.tn h1 1) (Pl.tn h2 1) (Pl.tn h0 2) (Pl.tn h1 2) (Pl.tn h2 2) (Pl.tn h0 3) (Pl.tn h1 3) (Pl.tn h2 3)
theorem tri_at {d:Pl.Dg} (hd:Pl.Wf d) {h:Nat} (hh:h < 4 * d.n) (hi:is3 d h):TriAt d (th d h 0) (th d h 1) (th d h 2) d.m (sT d h) := (tr_of hh hi).tri hd
theorem sj_at {d:Pl.Dg} (hd:Pl.Wf d) {h:Nat} (hh:h < 4 * d.n) (hi:is3 d h):Pl.Sj (4 * d.n) d.m (sT d h) (sO d h) (sI d h) := by
 have T:=tri_at hd hh hi
 refine ⟨hd.lt,hd.inv,fun x hx => ?_,T.tt,?_,?_,?_,?_,?_⟩
 ·exact T.tS x hx
 ·rintro x (e | e | e | e | e | e) <;> rw [e]
  ·rw [T.tu0]; simp [sI]
  ·rw [T.tu1]; simp [sI]
  ·rw [T.tu2]; simp [sI]
  ·rw [T.tv0]; simp [sI]
  ·rw [T.tv1]; simp [sI]
  ·rw [T.tv2]; simp [sI]
 ·intro x h1 h2
  unfold sO at h1
  unfold sI at h2
  refine T.tx x ?_
  simp only [List.mem_cons,List.not_mem_nil,or_false]
  intro h3
  rcases h3 with e | e | e | e | e | e | e | e | e | e | e | e <;> first | (apply h1; simp [e]; done) | (apply h2; simp [e]; done)
 ·rintro x (e | e | e | e | e | e) <;> rw [e]
  ·rw [T.th0]; simp [sO]
  ·rw [T.th1]; simp [sO]
  ·rw [T.th2]; simp [sO]
  ·rw [T.tp0]; simp [sO]
  ·rw [T.tp1]; simp [sO]
  ·rw [T.tp2]; simp [sO]
 ·rintro x (e | e | e | e | e | e) <;> rw [e]
  ·rw [T.ah0]; simp [sI]
  ·rw [T.ah1]; simp [sI]
  ·rw [T.ah2]; simp [sI]
  ·rw [T.ap0]; simp [sI]
  ·rw [T.ap1]; simp [sI]
  ·rw [T.ap2]; simp [sI]
 ·obtain ⟨_,c1,c2,c3⟩:=hi
  intro x h1 h2
  unfold sO at h1
  unfold sI at h2
  have e0:th d h 0 = h:=rfl
  rw [e0] at h1 h2
  unfold Pl.tn at h1 h2
  rcases h1 with e | e | e | e | e | e <;> rcases h2 with e' | e' | e' | e' | e' | e' <;> omega
theorem ends {d:Pl.Dg} (hd:Pl.Wf d) {h k q:Nat} (hl:th d h k < 4 * d.n) (hq:d.m (th d h k) = Pl.tn q 1) :
 (sb d h k = Pl.tn (th d h k) 2 ∧ so d h k = th d h k ∧ si d h k = Pl.tn q 1 ∧ sf d h k = Pl.tn q 3) ∨ (sb d h k = Pl.tn q 3 ∧ so d h k = Pl.tn q 1 ∧ si d h k = th d h k ∧ sf d h k = Pl.tn (th d h k) 2) := by
 have e3:Pl.tn (Pl.tn q 1) 2 = Pl.tn q 3:=Pl.tn_tn _ _ _
 by_cases ho:Pl.out d (th d h k) = true
 ·left
  have e1:eo d (th d h k) = th d h k:=by unfold eo; rw [if_pos ho]
  have e2:ei d (th d h k) = Pl.tn q 1:=by unfold ei; rw [e1,hq]
  exact ⟨by unfold sb; rw [e1],e1,e2,by unfold sf; rw [e2,e3]⟩
 ·right
  have e1:eo d (th d h k) = Pl.tn q 1:=by unfold eo; rw [if_neg ho,hq]
  have e2:ei d (th d h k) = th d h k:=by unfold ei; rw [e1,← hq,hd.inv _ hl]
  exact ⟨by unfold sb; rw [e1,e3],e1,e2,by unfold sf; rw [e2]⟩
theorem sTo_s {d:Pl.Dg} (hd:Pl.Wf d) {h k q:Nat} (hl:th d h k < 4 * d.n) (hq:d.m (th d h k) = Pl.tn q 1) (hql:q < 4 * d.n) (hne:Pl.tn (th d h k) 2 ≠ Pl.tn q 3) (x:Nat) :
 (sTo d h (k + 1)).getD x 0 = if x = Pl.tn (th d h k) 2 then Pl.tn q 1 else if x = Pl.tn q 3 then th d h k else (sTo d h k).getD x 0 := by
 have l1:Pl.tn (th d h k) 2 < (sTo d h k).length:=by rw [sTo_len]; exact Pl.tn_lt hl
 have l2:Pl.tn q 3 < (sTo d h k).length:=by rw [sTo_len]; exact Pl.tn_lt hql
 show (((sTo d h k).set (sb d h k) (si d h k)).set (sf d h k) (so d h k)).getD x 0 = _
 rcases ends hd hl hq with ⟨e1,e2,e3,e4⟩ | ⟨e1,e2,e3,e4⟩ <;> rw [e1,e2,e3,e4]
 ·rw [Pl.set_getD _ _ _ _ (by simpa using l2),Pl.set_getD _ _ _ _ l1]
  by_cases h1:x = Pl.tn q 3
  ·rw [if_pos h1,if_neg (fun h2 => hne (h2.symm.trans h1)),if_pos h1]
  ·rw [if_neg h1,if_neg h1]
 ·rw [Pl.set_getD _ _ _ _ (by simpa using l1),Pl.set_getD _ _ _ _ l2]
theorem setB (l:List Bool) (a x:Nat) (ha:a < l.length):(l.set a true).getD x false = if x = a then true else l.getD x false := by
 rw [List.getD_eq_getElem?_getD,List.getElem?_set,List.getD_eq_getElem?_getD]
 by_cases h:a = x
 ·subst h; simp [ha]
 ·rw [if_neg h,if_neg (Ne.symm h)]
theorem sOu_s {d:Pl.Dg} (hd:Pl.Wf d) {h k q:Nat} (hl:th d h k < 4 * d.n) (hq:d.m (th d h k) = Pl.tn q 1) (hql:q < 4 * d.n) (x:Nat) :
 (sOu d h (k + 1)).getD x false = true ↔ x = Pl.tn (th d h k) 2 ∨ x = Pl.tn q 3 ∨ (sOu d h k).getD x false = true := by
 have l1:Pl.tn (th d h k) 2 < (sOu d h k).length:=by rw [sOu_len]; exact Pl.tn_lt hl
 have l2:Pl.tn q 3 < (sOu d h k).length:=by rw [sOu_len]; exact Pl.tn_lt hql
 show (((sOu d h k).set (sb d h k) true).set (sf d h k) true).getD x false = true ↔ _
 rcases ends hd hl hq with ⟨e1,e2,e3,e4⟩ | ⟨e1,e2,e3,e4⟩ <;> rw [e1,e4]
 ·rw [setB _ _ _ (by simpa using l2),setB _ _ _ l1]
  by_cases h1:x = Pl.tn q 3
  ·simp [h1]
  ·by_cases h2:x = Pl.tn (th d h k) 2 <;> simp [h1,h2]
 ·rw [setB _ _ _ (by simpa using l1),setB _ _ _ l2]
  by_cases h1:x = Pl.tn q 3
  ·simp [h1]
  ·by_cases h2:x = Pl.tn (th d h k) 2 <;> simp [h1,h2]
section
variable {d:Pl.Dg} {h:Nat}
theorem sTo_v (hd:Pl.Wf d) (hh:h < 4 * d.n) (hi:is3 d h) {x:Nat} (hx:x < 4 * d.n):(sO d h x → (sTo d h 3).getD x 0 = sT d h x) ∧ (¬ sO d h x → (sTo d h 3).getD x 0 = x) := by
 have T:=tri_at hd hh hi
 have t0:=th_lt hd hh 0
 have t1:=th_lt hd hh 1
 have t2:=th_lt hd hh 2
 obtain ⟨_,c1,c2,c3⟩:=hi
 have c0:th d h 0 = h:=rfl
 have s2:=sTo_s hd (h := h) (k := 2) (q := th d h 0) t2 T.ah2 t0 (by unfold Pl.tn; omega) x
 have s1:=sTo_s hd (h := h) (k := 1) (q := th d h 2) t1 T.ah1 t2 (by unfold Pl.tn; omega) x
 have s0:=sTo_s hd (h := h) (k := 0) (q := th d h 1) t0 T.ah0 t1 (by unfold Pl.tn; omega) x
 have sz:(sTo d h 0).getD x 0 = x:=by simp [sTo,List.getD_eq_getElem?_getD,hx]
 rw [s2,s1,s0,sz]
 have n:=T.nd
 constructor
 ·rintro (e | e | e | e | e | e) <;> rw [e]
  ·rw [T.tu0,if_neg (by unfold Pl.tn; omega),if_neg (by unfold Pl.tn; omega),if_neg (by unfold Pl.tn; omega),if_neg (by unfold Pl.tn; omega),if_pos rfl]
  ·rw [T.tu1,if_neg (by unfold Pl.tn; omega),if_neg (by unfold Pl.tn; omega),if_pos rfl]
  ·rw [T.tu2,if_pos rfl]
  ·rw [T.tv0,if_neg (by unfold Pl.tn; omega),if_pos rfl]
  ·rw [T.tv1,if_neg (by unfold Pl.tn; omega),if_neg (by unfold Pl.tn; omega),if_neg (by unfold Pl.tn; omega),if_neg (by unfold Pl.tn; omega),if_neg (by unfold Pl.tn; omega),if_pos rfl]
  ·rw [T.tv2,if_neg (by unfold Pl.tn; omega),if_neg (by unfold Pl.tn; omega),if_neg (by unfold Pl.tn; omega),if_pos rfl]
 ·intro hn
  unfold sO at hn
  rw [if_neg (fun e => hn (by simp [e])),if_neg (fun e => hn (by simp [e])),if_neg (fun e => hn (by simp [e])),if_neg (fun e => hn (by simp [e])),if_neg (fun e => hn (by simp [e])),if_neg (fun e => hn (by simp [e]))]
theorem sOu_v (hd:Pl.Wf d) (hh:h < 4 * d.n) (hi:is3 d h) (x:Nat):(sOu d h 3).getD x false = true ↔ sO d h x := by
 have T:=tri_at hd hh hi
 have t0:=th_lt hd hh 0
 have t1:=th_lt hd hh 1
 have t2:=th_lt hd hh 2
 have s2:=sOu_s hd (h := h) (k := 2) (q := th d h 0) t2 T.ah2 t0 x
 have s1:=sOu_s hd (h := h) (k := 1) (q := th d h 2) t1 T.ah1 t2 x
 have s0:=sOu_s hd (h := h) (k := 0) (q := th d h 1) t0 T.ah0 t1 x
 have sz:(sOu d h 0).getD x false = false:=by
  unfold sOu
  rw [List.getD_eq_getElem?_getD,List.getElem?_replicate]
  split <;> rfl
 rw [s2,s1,s0,sz]
 unfold sO
 constructor
 ·rintro (h | h | h | h | h | h | h)
  ·exact .inr (.inr (.inl h))
  ·exact .inr (.inr (.inr (.inl h)))
  ·exact .inr (.inl h)
  ·exact .inr (.inr (.inr (.inr (.inr h))))
  ·exact .inl h
  ·exact .inr (.inr (.inr (.inr (.inl h))))
  ·cases h
 ·rintro (h | h | h | h | h | h) <;> simp [h]
theorem jn_eq (l:List Nat) (a b:Nat):jn l a b = (l.set a b).set b a := rfl
theorem sM_half (hd:Pl.Wf d) (hh:h < 4 * d.n) (hi:is3 d h):∀ k,k ≤ 4 * d.n → Pl.Half (4 * d.n) d.m (Pl.cj (sT d h) d.m) (fun x => ∃ u,u < k ∧ sO d h u ∧ (x = sT d h u ∨ x = sT d h (d.m u))) (sM d h k)
 | 0,_ => ⟨hd.len,fun x hx => .inr ⟨getD_m (by rw [hd.len]; exact hx),fun ⟨u,h,_⟩ => absurd h (by omega)⟩⟩
 | k + 1, hk => by
   have ih:=sM_half hd hh hi k (by omega)
   have J:=sj_at hd hh hi
   have hk2:k < 4 * d.n:=by omega
   show Pl.Half _ _ _ _ (if (sOu d h 3).getD k false = true then jn (sM d h k) ((sTo d h 3).getD k 0) ((sTo d h 3).getD (d.m k) 0) else sM d h k)
   by_cases ho:sO d h k
   ·rw [if_pos ((sOu_v hd hh hi k).2 ho),(sTo_v hd hh hi hk2).1 ho,jn_eq]
    have e:(sTo d h 3).getD (d.m k) 0 = sT d h (d.m k):=by
     by_cases h2:sO d h (d.m k)
     ·exact (sTo_v hd hh hi (hd.lt k hk2)).1 h2
     ·rw [(sTo_v hd hh hi (hd.lt k hk2)).2 h2,J.far hk2 ho h2]
    rw [e]
    exact J.step ih hk2 ho
   ·rw [if_neg (fun h2 => ho ((sOu_v hd hh hi k).1 h2))]
    exact Pl.Sj.skip ih ho
theorem sF_half (hd:Pl.Wf d) (hh:h < 4 * d.n) (hi:is3 d h) {k q:Nat} {W:Nat → Prop} (hl:Pl.Half (4 * d.n) d.m (Pl.cj (sT d h) d.m) W (sF d h k)) (hq:d.m (th d h k) = Pl.tn q 1) (hql:q < 4 * d.n) (e:Pl.cj (sT d h) d.m (Pl.tn (th d h k) 2) = Pl.tn q 3) :
 Pl.Half (4 * d.n) d.m (Pl.cj (sT d h) d.m) (fun x => W x ∨ x = Pl.tn (th d h k) 2 ∨ x = Pl.tn q 3) (sF d h (k + 1)) := by
 have J:=sj_at hd hh hi
 have lh:=th_lt hd hh k
 have l1:Pl.tn (th d h k) 2 < 4 * d.n:=Pl.tn_lt lh
 have l2:Pl.tn q 3 < 4 * d.n:=Pl.tn_lt hql
 have e':Pl.cj (sT d h) d.m (Pl.tn q 3) = Pl.tn (th d h k) 2:=by
  rw [← e]
  unfold Pl.cj
  rw [J.ff,J.inv _ (J.fl _ l1),J.ff]
 show Pl.Half _ _ _ _ (jn (sF d h k) (sb d h k) (sf d h k))
 rw [jn_eq]
 rcases ends hd lh hq with ⟨e1,_,_,e4⟩ | ⟨e1,_,_,e4⟩ <;> rw [e1,e4]
 ·exact hl.join l1 l2 e e'
 ·refine (hl.join l2 l1 e' e).mono ?_
  rintro x (h | h | h)
  ·exact .inl h
  ·exact .inr (.inr h)
  ·exact .inr (.inl h)
theorem sF_v (hd:Pl.Wf d) (hh:h < 4 * d.n) (hi:is3 d h):∀ x,x < 4 * d.n → (sF d h 3).getD x 0 = Pl.cj (sT d h) d.m x := by
 have T:=tri_at hd hh hi
 have T':=T.flip
 have J:=sj_at hd hh hi
 have t0:=th_lt hd hh 0
 have t1:=th_lt hd hh 1
 have t2:=th_lt hd hh 2
 have a0:Pl.Half (4 * d.n) d.m (Pl.cj (sT d h) d.m) _ (sF d h 0):=sM_half hd hh hi (4 * d.n) (Nat.le_refl _)
 have a1:=sF_half hd hh hi (k := 0) (q := th d h 1) a0 T.ah0 t1 T'.ah0
 have a2:=sF_half hd hh hi (k := 1) (q := th d h 2) a1 T.ah1 t2 T'.ah1
 have a3:=sF_half hd hh hi (k := 2) (q := th d h 0) a2 T.ah2 t0 T'.ah2
 refine J.all a3 (fun u hu ho => ⟨?_,?_,?_⟩)
 ·exact .inl (.inl (.inl ⟨u,hu,ho,.inl rfl⟩))
 ·exact .inl (.inl (.inl ⟨u,hu,ho,.inr rfl⟩))
 ·rcases ho with h | h | h | h | h | h <;> simp [h]
theorem sld_m (hd:Pl.Wf d) (hh:h < 4 * d.n) (hi:is3 d h):∀ x,x < 4 * d.n → (sldD d h).m x = Pl.cj (sT d h) d.m x := fun x hx => by
 rw [← sF_v hd hh hi x hx,← getD_m (by show x < (sF d h 3).length; rw [sF_len hd]; exact hx)]
 rfl
theorem sld_valid (hd:Pl.Valid d) (hh:h < 4 * d.n) (hi:is3 d h):Pl.Valid (sldD d h) :=
 have hw:=(Pl.Valid.iff.1 hd).1
 (tr_of hh hi).valid hd rfl rfl (sF_len hw h 3) (sld_m hw hh hi)
theorem tri_new (hd:Pl.Wf d) (hh:h < 4 * d.n) (hi:is3 d h):TriAt d (Pl.tn (th d h 0) 2) (Pl.tn (th d h 1) 2) (Pl.tn (th d h 2) 2) (Pl.cj (sT d h) d.m) (sT d h) := by
 have T:=(tri_at hd hh hi).flip
 have a1:∀ z,Pl.tn (Pl.tn z 2) 1 = Pl.tn z 3:=fun z => Pl.tn_tn _ _ _
 have a2:∀ z,Pl.tn (Pl.tn z 2) 2 = z:=fun z => by rw [Pl.tn_tn,Pl.tn_four]
 have a3:∀ z,Pl.tn (Pl.tn z 2) 3 = Pl.tn z 1:=fun z => by rw [Pl.tn_tn]; exact (Pl.tn_mod4 z 5).symm
 unfold TriAt
 rw [a1,a1,a1,a2,a2,a2,a3,a3,a3]
 exact T
theorem nx_of {f:Nat → Nat} {x y:Nat} (h:f x = Pl.tn y 1):Pl.tn (f x) 3 = y := by rw [h,Pl.tn_tn,Pl.tn_four]
theorem nx_new (hd:Pl.Wf d) (hh:h < 4 * d.n) (hi:is3 d h):Pl.nx (sldD d h) (Pl.tn (th d h 0) 2) = Pl.tn (th d h 1) 2 ∧ Pl.nx (sldD d h) (Pl.tn (th d h 1) 2) = Pl.tn (th d h 2) 2 ∧ Pl.nx (sldD d h) (Pl.tn (th d h 2) 2) = Pl.tn (th d h 0) 2 := by
 have T:=tri_new hd hh hi
 have e:∀ k,Pl.nx (sldD d h) (Pl.tn (th d h k) 2) = Pl.tn (Pl.cj (sT d h) d.m (Pl.tn (th d h k) 2)) 3:=fun k => by
  unfold Pl.nx
  rw [sld_m hd hh hi _ (Pl.tn_lt (th_lt hd hh k))]
 rw [e,e,e]
 exact ⟨nx_of T.ah0,nx_of T.ah1,nx_of T.ah2⟩
theorem lnx_nx (hd:Pl.Wf d) {u:Nat} (hu:u < 4 * d.n):lnx (sF d h 3) u = Pl.nx (sldD d h) u := by
 unfold lnx Pl.nx
 rw [← getD_m (by show u < (sF d h 3).length; rw [sF_len hd]; exact hu)]
 rfl
theorem sC_iff (hd:Pl.Wf d) (hh:h < 4 * d.n) (hi:is3 d h) {u:Nat} (hu:u < 4 * d.n):sC d h u = true ↔ u = Pl.tn (th d h 0) 2 ∨ u = Pl.tn (th d h 1) 2 ∨ u = Pl.tn (th d h 2) 2 := by
 have J:=sj_at hd hh hi
 obtain ⟨n0,n1,n2⟩:=nx_new hd hh hi
 have T:=tri_new hd hh hi
 have l:∀ k,Pl.tn (th d h k) 2 < 4 * d.n:=fun k => Pl.tn_lt (th_lt hd hh k)
 unfold sC
 simp only [Bool.and_eq_true,beq_iff_eq]
 rw [sOu_v hd hh hi,sOu_v hd hh hi,sOu_v hd hh hi]
 constructor
 ·rintro ⟨⟨⟨h1,h2⟩,_⟩,_⟩
  rcases h1 with e | e | e | e | e | e
  ·exact .inl e
  ·exact .inr (.inl e)
  ·exact .inr (.inr e)
  all_goals
   exfalso
   refine J.no _ h2 ?_
   rw [lnx_nx hd hu]
   unfold Pl.nx
   rw [sld_m hd hh hi _ hu,e]
  ·have:=T.ap0
   rw [Pl.tn_tn] at this
   rw [show Pl.tn (th d h 0) 3 = Pl.tn (th d h 0) (2 + 1) from rfl,this,Pl.tn_tn,← Pl.tn_mod4]
   simp [sI]
  ·have:=T.ap1
   rw [Pl.tn_tn] at this
   rw [show Pl.tn (th d h 1) 3 = Pl.tn (th d h 1) (2 + 1) from rfl,this,Pl.tn_tn,← Pl.tn_mod4]
   simp [sI]
  ·have:=T.ap2
   rw [Pl.tn_tn] at this
   rw [show Pl.tn (th d h 2) 3 = Pl.tn (th d h 2) (2 + 1) from rfl,this,Pl.tn_tn,← Pl.tn_mod4]
   simp [sI]
 ·rintro (e | e | e) <;> rw [e]
  ·rw [lnx_nx hd (l 0),n0,lnx_nx hd (l 1),n1,lnx_nx hd (l 2),n2]; simp [sO]
  ·rw [lnx_nx hd (l 1),n1,lnx_nx hd (l 2),n2,lnx_nx hd (l 0),n0]; simp [sO]
  ·rw [lnx_nx hd (l 2),n2,lnx_nx hd (l 0),n0,lnx_nx hd (l 1),n1]; simp [sO]
theorem sX_least (d:Pl.Dg) (h:Nat):∀ g,g ≤ 4 * d.n → (∃ u,4 * d.n - g ≤ u ∧ u < 4 * d.n ∧ sC d h u = true) → sC d h (sX d h g) = true ∧ sX d h g < 4 * d.n ∧ ∀ u,4 * d.n - g ≤ u → u < 4 * d.n → sC d h u = true → sX d h g ≤ u
 | 0,_,⟨u,h1,h2,_⟩ => absurd h1 (by omega)
 | g + 1, hg, ⟨u, h1, h2, h3⟩ => by
   unfold sX
   by_cases hc:sC d h (4 * d.n - (g + 1)) = true
   ·rw [if_pos hc]
    exact ⟨hc,by omega,fun u hu _ _ => hu⟩
   ·rw [if_neg hc]
    have key:∀ u,4 * d.n - (g + 1) ≤ u → sC d h u = true → 4 * d.n - g ≤ u:=fun u hu hs => by
     rcases Nat.lt_or_ge u (4 * d.n - g) with h4 | h4
     ·have:u = 4 * d.n - (g + 1):=by omega
      rw [this] at hs
      exact absurd hs hc
     ·exact h4
    obtain ⟨i1,i2,i3⟩:=sX_least d h g (by omega) ⟨u,key u h1 h3,h2,h3⟩
    exact ⟨i1,i2,fun u hu hl hs => i3 u (key u hu hs) hl hs⟩
theorem sX_v (hd:Pl.Wf d) (hh:h < 4 * d.n) (hi:is3 d h):sX d h (4 * d.n) < 4 * d.n ∧ (sX d h (4 * d.n) = Pl.tn (th d h 0) 2 ∨ sX d h (4 * d.n) = Pl.tn (th d h 1) 2 ∨ sX d h (4 * d.n) = Pl.tn (th d h 2) 2) ∧
 sX d h (4 * d.n) ≤ Pl.tn (th d h 0) 2 ∧ sX d h (4 * d.n) ≤ Pl.tn (th d h 1) 2 ∧ sX d h (4 * d.n) ≤ Pl.tn (th d h 2) 2 := by
 have l:∀ k,Pl.tn (th d h k) 2 < 4 * d.n:=fun k => Pl.tn_lt (th_lt hd hh k)
 obtain ⟨i1,i2,i3⟩:=sX_least d h (4 * d.n) (Nat.le_refl _) ⟨_,by omega,l 0,(sC_iff hd hh hi (l 0)).2 (.inl rfl)⟩
 exact ⟨i2,(sC_iff hd hh hi i2).1 i1,i3 _ (by omega) (l 0) ((sC_iff hd hh hi (l 0)).2 (.inl rfl)),i3 _ (by omega) (l 1) ((sC_iff hd hh hi (l 1)).2 (.inr (.inl rfl))),i3 _ (by omega) (l 2) ((sC_iff hd hh hi (l 2)).2 (.inr (.inr rfl)))⟩
theorem getD_ext {l r:List Nat} (hl:l.length = r.length) (h:∀ x,x < l.length → l.getD x 0 = r.getD x 0):l = r := by
 refine List.ext_getElem hl (fun i h1 h2 => ?_)
 have:=h i h1
 rw [List.getD_eq_getElem?_getD,List.getD_eq_getElem?_getD,List.getElem?_eq_getElem h1,List.getElem?_eq_getElem h2] at this
 exact this
end
end Go.Proofs.Ytobbepmlmbbamaa
end
section
namespace Go.Proofs.Ytobbepmlmbbamaa
open Go Go.RowKit
def sU (d:Pl.Dg) (h j:Nat):Nat := if j % 2 = 0 then sb d h (j / 2) else sf d h (j / 2)
def rSM (d:Pl.Dg) (h:Nat):Nat → List Nat
 | 0 => d.mt
 | j + 1 => jn (rSM d h j) ((sTo d h 3).getD (sU d h j) 0) ((sTo d h 3).getD (d.m (sU d h j)) 0)
def rSF (d:Pl.Dg) (h:Nat):Nat → List Nat
 | 0 => rSM d h 6
 | k + 1 => jn (rSF d h k) (sb d h k) (sf d h k)
def rX (d:Pl.Dg) (h:Nat):Nat → Nat
 | 0 => 4 * d.n
 | j + 1 => if sU d h j < rX d h j ∧ sC d h (sU d h j) = true then sU d h j else rX d h j
section
variable {d:Pl.Dg} {h:Nat}
theorem sU_lt (hd:Pl.Wf d) (hh:h < 4 * d.n) (j:Nat):sU d h j < 4 * d.n := by
 obtain ⟨h1,h2,h3,h4⟩:=s_lt hd hh (j / 2)
 unfold sU; split <;> assumption
theorem rSM_len (hd:Pl.Wf d):∀ j,(rSM d h j).length = 4 * d.n
 | 0 => hd.len
 | j + 1 => by unfold rSM; rw [jn_len0,rSM_len hd j]
theorem rSF_len (hd:Pl.Wf d):∀ k,(rSF d h k).length = 4 * d.n
 | 0 => rSM_len hd 6
 | k + 1 => by unfold rSF; rw [jn_len0,rSF_len hd k]
theorem sU_at (hd:Pl.Wf d) (hh:h < 4 * d.n) (hi:is3 d h) {k q:Nat} (hk:k < 3) (hl:th d h k < 4 * d.n) (hq:d.m (th d h k) = Pl.tn q 1) :
 (sU d h (2 * k) = Pl.tn (th d h k) 2 ∧ sU d h (2 * k + 1) = Pl.tn q 3) ∨ (sU d h (2 * k) = Pl.tn q 3 ∧ sU d h (2 * k + 1) = Pl.tn (th d h k) 2) := by
 have e1:sU d h (2 * k) = sb d h k:=by unfold sU; rw [if_pos (by omega),show 2 * k / 2 = k by omega]
 have e2:sU d h (2 * k + 1) = sf d h k:=by unfold sU; rw [if_neg (by omega),show (2 * k + 1) / 2 = k by omega]
 rcases ends hd hl hq with ⟨a,_,_,b⟩ | ⟨a,_,_,b⟩
 ·exact .inl ⟨by rw [e1,a],by rw [e2,b]⟩
 ·exact .inr ⟨by rw [e1,a],by rw [e2,b]⟩
theorem sU_O (hd:Pl.Wf d) (hh:h < 4 * d.n) (hi:is3 d h) {u:Nat}:sO d h u ↔ ∃ j,j < 6 ∧ u = sU d h j := by
 have T:=tri_at hd hh hi
 have t0:=th_lt hd hh 0
 have t1:=th_lt hd hh 1
 have t2:=th_lt hd hh 2
 have a0:=sU_at hd hh hi (k := 0) (by omega) t0 T.ah0
 have a1:=sU_at hd hh hi (k := 1) (by omega) t1 T.ah1
 have a2:=sU_at hd hh hi (k := 2) (by omega) t2 T.ah2
 constructor
 ·rintro (e | e | e | e | e | e)
  ·rcases a0 with ⟨p,_⟩ | ⟨_,p⟩
   ·exact ⟨0,by omega,e.trans p.symm⟩
   ·exact ⟨1,by omega,e.trans p.symm⟩
  ·rcases a1 with ⟨p,_⟩ | ⟨_,p⟩
   ·exact ⟨2,by omega,e.trans p.symm⟩
   ·exact ⟨3,by omega,e.trans p.symm⟩
  ·rcases a2 with ⟨p,_⟩ | ⟨_,p⟩
   ·exact ⟨4,by omega,e.trans p.symm⟩
   ·exact ⟨5,by omega,e.trans p.symm⟩
  ·rcases a2 with ⟨_,p⟩ | ⟨p,_⟩
   ·exact ⟨5,by omega,e.trans p.symm⟩
   ·exact ⟨4,by omega,e.trans p.symm⟩
  ·rcases a0 with ⟨_,p⟩ | ⟨p,_⟩
   ·exact ⟨1,by omega,e.trans p.symm⟩
   ·exact ⟨0,by omega,e.trans p.symm⟩
  ·rcases a1 with ⟨_,p⟩ | ⟨p,_⟩
   ·exact ⟨3,by omega,e.trans p.symm⟩
   ·exact ⟨2,by omega,e.trans p.symm⟩
 ·rintro ⟨j,hj,rfl⟩
  have hj':j = 0 ∨ j = 1 ∨ j = 2 ∨ j = 3 ∨ j = 4 ∨ j = 5:=by omega
  unfold sO
  rcases hj' with rfl | rfl | rfl | rfl | rfl | rfl
  ·rcases a0 with ⟨p,_⟩ | ⟨p,_⟩ <;> (rw [show sU d h 0 = sU d h (2 * 0) from rfl,p]; simp)
  ·rcases a0 with ⟨_,p⟩ | ⟨_,p⟩ <;> (rw [show sU d h 1 = sU d h (2 * 0 + 1) from rfl,p]; simp)
  ·rcases a1 with ⟨p,_⟩ | ⟨p,_⟩ <;> (rw [show sU d h 2 = sU d h (2 * 1) from rfl,p]; simp)
  ·rcases a1 with ⟨_,p⟩ | ⟨_,p⟩ <;> (rw [show sU d h 3 = sU d h (2 * 1 + 1) from rfl,p]; simp)
  ·rcases a2 with ⟨p,_⟩ | ⟨p,_⟩ <;> (rw [show sU d h 4 = sU d h (2 * 2) from rfl,p]; simp)
  ·rcases a2 with ⟨_,p⟩ | ⟨_,p⟩ <;> (rw [show sU d h 5 = sU d h (2 * 2 + 1) from rfl,p]; simp)
theorem rSM_half (hd:Pl.Wf d) (hh:h < 4 * d.n) (hi:is3 d h):∀ j,j ≤ 6 → Pl.Half (4 * d.n) d.m (Pl.cj (sT d h) d.m) (fun x => ∃ i,i < j ∧ (x = sT d h (sU d h i) ∨ x = sT d h (d.m (sU d h i)))) (rSM d h j)
 | 0,_ => ⟨hd.len,fun x hx => .inr ⟨getD_m (by rw [hd.len]; exact hx),fun ⟨u,h,_⟩ => absurd h (by omega)⟩⟩
 | j + 1, hj => by
   have ih:=rSM_half hd hh hi j (by omega)
   have J:=sj_at hd hh hi
   have hu:=sU_lt hd hh j
   have hm:=hd.lt _ hu
   have ho:sO d h (sU d h j):=(sU_O hd hh hi).2 ⟨j,by omega,rfl⟩
   show Pl.Half _ _ _ _ (jn (rSM d h j) ((sTo d h 3).getD (sU d h j) 0) ((sTo d h 3).getD (d.m (sU d h j)) 0))
   have e:(sTo d h 3).getD (d.m (sU d h j)) 0 = sT d h (d.m (sU d h j)):=by
    by_cases h2:sO d h (d.m (sU d h j))
    ·exact (sTo_v hd hh hi hm).1 h2
    ·rw [(sTo_v hd hh hi hm).2 h2,J.far hu ho h2]
   rw [(sTo_v hd hh hi hu).1 ho,e,jn_eq]
   refine (ih.join (J.fl _ hu) (J.fl _ hm) (by unfold Pl.cj; rw [J.ff]) (by unfold Pl.cj; rw [J.ff,hd.inv _ hu])).mono ?_
   rintro x ⟨i,h1,h2⟩
   by_cases h3:i = j
   ·rw [h3] at h2
    rcases h2 with h2 | h2
    ·exact .inr (.inl h2)
    ·exact .inr (.inr h2)
   ·exact .inl ⟨i,by omega,h2⟩
theorem jn_half (hd:Pl.Wf d) (hh:h < 4 * d.n) (hi:is3 d h) {k q:Nat} {W:Nat → Prop} {l:List Nat} (hl:Pl.Half (4 * d.n) d.m (Pl.cj (sT d h) d.m) W l) (hq:d.m (th d h k) = Pl.tn q 1) (hql:q < 4 * d.n) (e:Pl.cj (sT d h) d.m (Pl.tn (th d h k) 2) = Pl.tn q 3) :
 Pl.Half (4 * d.n) d.m (Pl.cj (sT d h) d.m) (fun x => W x ∨ x = Pl.tn (th d h k) 2 ∨ x = Pl.tn q 3) (jn l (sb d h k) (sf d h k)) := by
 have J:=sj_at hd hh hi
 have lh:=th_lt hd hh k
 have l1:Pl.tn (th d h k) 2 < 4 * d.n:=Pl.tn_lt lh
 have l2:Pl.tn q 3 < 4 * d.n:=Pl.tn_lt hql
 have e':Pl.cj (sT d h) d.m (Pl.tn q 3) = Pl.tn (th d h k) 2:=by
  rw [← e]
  unfold Pl.cj
  rw [J.ff,J.inv _ (J.fl _ l1),J.ff]
 rw [jn_eq]
 rcases ends hd lh hq with ⟨e1,_,_,e4⟩ | ⟨e1,_,_,e4⟩ <;> rw [e1,e4]
 ·exact hl.join l1 l2 e e'
 ·refine (hl.join l2 l1 e' e).mono ?_
  rintro x (h | h | h)
  ·exact .inl h
  ·exact .inr (.inr h)
  ·exact .inr (.inl h)
theorem rSF_eq (hd:Pl.Wf d) (hh:h < 4 * d.n) (hi:is3 d h):rSF d h 3 = sF d h 3 := by
 have T:=tri_at hd hh hi
 have T':=T.flip
 have J:=sj_at hd hh hi
 have t0:=th_lt hd hh 0
 have t1:=th_lt hd hh 1
 have t2:=th_lt hd hh 2
 have a0:Pl.Half (4 * d.n) d.m (Pl.cj (sT d h) d.m) _ (rSF d h 0):=rSM_half hd hh hi 6 (Nat.le_refl _)
 have a1:=jn_half hd hh hi (k := 0) (q := th d h 1) a0 T.ah0 t1 T'.ah0
 have a2:=jn_half hd hh hi (k := 1) (q := th d h 2) a1 T.ah1 t2 T'.ah1
 have a3:=jn_half hd hh hi (k := 2) (q := th d h 0) a2 T.ah2 t0 T'.ah2
 have key:∀ x,x < 4 * d.n → (rSF d h 3).getD x 0 = Pl.cj (sT d h) d.m x:=J.all a3 (fun u hu ho => by
  obtain ⟨j,hj,e⟩:=(sU_O hd hh hi).1 ho
  refine ⟨?_,?_,?_⟩
  ·exact .inl (.inl (.inl ⟨j,hj,.inl (by rw [e])⟩))
  ·exact .inl (.inl (.inl ⟨j,hj,.inr (by rw [e])⟩))
  ·rcases ho with h | h | h | h | h | h <;> simp [h])
 refine getD_ext (by rw [rSF_len hd,sF_len hd]) (fun x hx => ?_)
 rw [rSF_len hd] at hx
 rw [key x hx,sF_v hd hh hi x hx]
theorem rX_le:∀ j i,i < j → sC d h (sU d h i) = true → rX d h j ≤ sU d h i
 | j + 1, i, hi, hc => by
   unfold rX
   by_cases e:i = j
   ·subst e
    split
    ·exact Nat.le_refl _
    ·rename_i q
     exact Nat.not_lt.1 fun h => q ⟨h,hc⟩
   ·have ih:=rX_le j i (by omega) hc
    split
    ·rename_i q; omega
    ·exact ih
theorem rX_of:∀ j,rX d h j = 4 * d.n ∨ ∃ i,i < j ∧ rX d h j = sU d h i ∧ sC d h (sU d h i) = true
 | 0 => .inl rfl
 | j + 1 => by
   unfold rX
   split
   ·rename_i q
    exact .inr ⟨j,by omega,rfl,q.2⟩
   ·rcases rX_of j with h | ⟨i,h1,h2,h3⟩
    ·exact .inl h
    ·exact .inr ⟨i,by omega,h2,h3⟩
theorem rX_eq (hd:Pl.Wf d) (hh:h < 4 * d.n) (hi:is3 d h):rX d h 6 = sX d h (4 * d.n) := by
 obtain ⟨l,v,u0,u1,u2⟩:=sX_v hd hh hi
 have hO:∀ x,sC d h x = true → x < 4 * d.n → ∃ i,i < 6 ∧ x = sU d h i:=fun x hc hx => (sU_O hd hh hi).1 (by
  rcases (sC_iff hd hh hi hx).1 hc with e | e | e <;> simp [sO,e])
 have hs:sC d h (sX d h (4 * d.n)) = true:=(sC_iff hd hh hi l).2 v
 obtain ⟨i,h1,h2⟩:=hO _ hs l
 have a1:rX d h 6 ≤ sX d h (4 * d.n):=by
  rw [h2] at hs ⊢
  exact rX_le 6 i h1 hs
 rcases rX_of (d := d) (h := h) 6 with e | ⟨i,h1,h2,h3⟩
 ·omega
 ·rcases (sC_iff hd hh hi (sU_lt hd hh i)).1 h3 with e | e | e <;> omega
def innerP (d:Pl.Dg) (h u:Nat):Prop := Pl.Per (Pl.nx (sldD d h)) u 3 ∧ ∀ i,i < 3 → ∃ j,j < 6 ∧ Pl.it (Pl.nx (sldD d h)) i u = sU d h j
theorem inner_iff (hd:Pl.Wf d) (hh:h < 4 * d.n) (hi:is3 d h) {u:Nat} (hu:u < 4 * d.n):innerP d h u ↔ sC d h u = true := by
 obtain ⟨n0,n1,n2⟩:=nx_new hd hh hi
 have l:∀ k,Pl.tn (th d h k) 2 < 4 * d.n:=fun k => Pl.tn_lt (th_lt hd hh k)
 have sc:sC d h u = true ↔ sO d h u ∧ sO d h (lnx (sF d h 3) u) ∧ sO d h (lnx (sF d h 3) (lnx (sF d h 3) u)) ∧ lnx (sF d h 3) (lnx (sF d h 3) (lnx (sF d h 3) u)) = u:=by
  unfold sC
  simp only [Bool.and_eq_true,beq_iff_eq]
  rw [sOu_v hd hh hi,sOu_v hd hh hi,sOu_v hd hh hi]
  exact ⟨fun h => ⟨h.1.1.1,h.1.1.2,h.1.2,h.2⟩,fun h => ⟨⟨⟨h.1,h.2.1⟩,h.2.2.1⟩,h.2.2.2⟩⟩
 have bl:∀ x,x < 4 * d.n → lnx (sF d h 3) x < 4 * d.n:=fun x hx => by
  unfold lnx
  exact Pl.tn_lt (sF_lt hd hh 3 x hx)
 have b1:=bl u hu
 have b2:=bl _ b1
 have e1:=lnx_nx (h := h) hd hu
 have e2:=lnx_nx (h := h) hd b1
 have e3:=lnx_nx (h := h) hd b2
 constructor
 ·rintro ⟨hp,hm⟩
  rw [sc]
  have o0:=(sU_O hd hh hi).2 (hm 0 (by omega))
  have o1:=(sU_O hd hh hi).2 (hm 1 (by omega))
  have o2:=(sU_O hd hh hi).2 (hm 2 (by omega))
  have c3:=hp.2.1
  rw [e3,e2,e1]
  exact ⟨o0,o1,o2,c3⟩
 ·intro hc
  have ho:=sc.1 hc
  have hv:=(sC_iff hd hh hi hu).1 hc
  have hi0:=hi
  obtain ⟨_,c1,c2,c3⟩:=hi
  have c0:th d h 0 = h:=rfl
  have dv:∀ k,Pl.tn (th d h k) 2 / 4 = th d h k / 4:=fun k => Pl.tn_div _ _
  have hne:Pl.nx (sldD d h) u ≠ u ∧ Pl.nx (sldD d h) (Pl.nx (sldD d h) u) ≠ u:=by
   rcases hv with e | e | e <;> rw [e]
   ·rw [n0,n1]
    constructor <;> (intro e; have := congrArg (· / 4) e; simp only [dv] at this; omega)
   ·rw [n1,n2]
    constructor <;> (intro e; have := congrArg (· / 4) e; simp only [dv] at this; omega)
   ·rw [n2,n0]
    constructor <;> (intro e; have := congrArg (· / 4) e; simp only [dv] at this; omega)
  refine ⟨⟨by omega,?_,?_⟩,fun i hi' => ?_⟩
  ·show Pl.nx (sldD d h) (Pl.nx (sldD d h) (Pl.nx (sldD d h) u)) = u
   rw [← e1,← e2,← e3]; exact ho.2.2.2
  ·intro i h1 h2
   have:i = 1 ∨ i = 2:=by omega
   rcases this with rfl | rfl
   ·exact hne.1
   ·exact hne.2
  ·refine (sU_O hd hh hi0).1 ?_
   have:i = 0 ∨ i = 1 ∨ i = 2:=by omega
   rcases this with rfl | rfl | rfl
   ·exact ho.1
   ·have:=ho.2.1; rw [e1] at this; exact this
   ·have:=ho.2.2.1; rw [e2,e1] at this; exact this
end
end Go.Proofs.Ytobbepmlmbbamaa
end
section
namespace Go.Proofs.Ytobbepmlmbbamaa
open Go Go.RowKit
attribute [local go_sem ↓] Go.wp_at_zero Go.wp_at_succ
theorem moveInfo:(Try.prog.info? 28).map (fun i => (i.zero,i.size,i.bytes)) = some (some (.agg #[.int .i64 0,.int .i64 0,.int .i64 0,.int .i64 0,.bool false]),5,40) := by kernel_rfl
def Mv.cells (m:Mv):List Value := [.int .i64 m.kind,.int .i64 m.x,.int .i64 m.y,.int .i64 m.sign,.bool m.over]
def mvs (ms:List Mv):List Value := ms.flatMap Mv.cells
theorem mvs_len:∀ ms:List Mv,(mvs ms).length = ms.length * 5
 | [] => rfl
 | m :: ms => by
   have:=mvs_len ms
   unfold mvs at this ⊢
   rw [List.flatMap_cons,List.length_append,this,List.length_cons]
   simp [Mv.cells]
   omega
theorem mvs_app (ms:List Mv) (m:Mv):mvs (ms ++ [m]) = mvs ms ++ m.cells := by unfold mvs; simp
structure ML (w:World) (gd gl:Nat) (dv:List Value) (v:Value) (ms:List Mv) (W:World):Prop where
 d:Row W gd 24 dv
 l:Row W gl 31 [v]
 o:W.ownsRow (gl + 1) 28 5 v ms.length (mvs ms)
 bel:Below w.heap.size w W
 lo:w.heap.size ≤ gd
 lt:gd < gl
section
variable {w W W' W2:World} {gd gl:Nat} {dv:List Value} {v v':Value} {ms:List Mv} {m:Mv}
theorem own_below {base:Nat} {e:TypeId} {size n:Nat} {xs:List Value} (h:W.ownsRow base e size v n xs) (hb:Below W.heap.size W W'):W'.ownsRow base e size v n xs := by
 refine ⟨h.1,?_⟩
 rcases h.2 with hz | ⟨g,cap,cur,r1,r2,r3,r4⟩
 ·exact .inl hz
 ·exact .inr ⟨g,cap,cur,r1,r2,(hb.block g (lt_of_heap r3)).trans r3,r4⟩
theorem ML.below (h:ML w gd gl dv v ms W) (hb:Below W.heap.size W W'):ML w gd gl dv v ms W' :=
 ⟨h.d.below hb,h.l.below hb,own_below h.o hb,h.bel.trans (hb.mono h.bel.size),h.lo,h.lt⟩
theorem ML.alloc (h:ML w gd gl dv v ms W) (o:Obj):ML w gd gl dv v ms (W.alloc o) := h.below ((Below.refl _ _).alloc (Nat.le_refl _) o)
theorem ML.big (h:ML w gd gl dv v ms W):gl < W.heap.size := h.l.lt
theorem ML.far (h:ML w gd gl dv v ms W) {g:Nat} (hg:g ≤ gl):some g ≠ v.ownBlock := fun e => by have := (h.o.lt g e.symm).1; omega
theorem ML.push (h:ML w gd gl dv v ms W) (own:W2.ownsRow (gl + 1) 28 5 v' (ms.length + 1) (mvs ms ++ m.cells)) (gr:W.grownBy W2 v.ownBlock):ML w gd gl dv v' (ms ++ [m]) (W2.setCell ⟨gl,0,none⟩ v') := by
 have a:=h.lo
 have b:=h.lt
 refine ⟨(h.d.grown gr (h.far (by omega))).other (by show gd ≠ gl; omega) _,(h.l.grown gr (h.far (Nat.le_refl _))).set 0 v',?_,?_,h.lo,h.lt⟩
 ·rw [mvs_app,List.length_append]
  exact ownsRow_setCell_below own (by show gl < gl + 1; omega) _
 ·exact (h.bel.grown gr h.bel.size (fun k hk => by have := (h.o.lt k hk).1; omega)).setCell (by show _ ≤ gl; omega) _
end
theorem five_news (W:World) (g:Nat) (hg:W.heap.size = g) (m:Mv):∀ j u,m.cells[j]? = some u → (W.alloc (.cells m.cells.toArray 28)).cell? ((⟨g,0,none⟩:Addr).add j) = some u := by
 subst hg
 intro j u hu
 rw [Addr.add_lit,Nat.zero_add]
 have hj:j < m.cells.length:=by
  rcases Nat.lt_or_ge j m.cells.length with h | h
  ·exact h
  ·rw [List.getElem?_eq_none h] at hu; cases hu
 have:=(Row.new W 28 m.cells).cell hj
 rw [this,← hu,List.getElem?_eq_getElem hj]
theorem box1 {W:World} {g:Nat} {t:TypeId} {a:Value} (h:Row W g t [a]):W.cell? ⟨g,0,none⟩ = some a ∧ ∀ o,W.frozen? ⟨g,o,none⟩ = false := ⟨h.cell (i := 0) (by simp),h.free⟩
def slP (d:Pl.Dg) (h:Nat):Prop := h ≤ th d h 1 ∧ h ≤ th d h 2 ∧ isT d h
open Classical in
noncomputable def slOne (d:Pl.Dg) (h:Nat):List Mv := if slP d h then [⟨5,h,0,0,false⟩] else []
set_option maxRecDepth 100000 in
set_option maxHeartbeats 4000000 in
theorem slTry_any (d:Pl.Dg) (hd:Pl.Wf d) (A B:Option Addr) (cp cq m h gd gl:Nat) (v:Value) (ms:List Mv) (w0 w:World) (hm:m = 4 * d.n) (hg:DgAt w A B d) (hh:h < 4 * d.n) (hms:ms.length ≤ 1000)
 (hp:ML w0 gd gl [.slice A d.n cp,.slice B m cq,.int .i64 (d.lp:Int)] v ms w) :
 Calls Try.prog 110 #[.agg #[.int .i64 5,.int .i64 (h:Int),.int .i64 0,.int .i64 0,.bool false],.pointer (some ⟨gd,0,none⟩),.pointer (some ⟨gl,0,none⟩)] w fun e w' => e = .returned (.tuple #[]) ∧ ∃ v',ML w0 gd gl [.slice A d.n cp,.slice B m cq,.int .i64 (d.lp:Int)] v' (ms ++ slOne d h) w' := by
 have HM:=hide hm
 have HG:=hide hg
 have hn:=hd.few
 have hm2:m ≤ 256:=by omega
 have hHM:h < m:=by omega
 obtain ⟨i,hi⟩:∃ i,i = th d h 1 := ⟨_,rfl⟩
 obtain ⟨j,hj⟩:∃ j,j = th d h 2 := ⟨_,rfl⟩
 have li:i < m:=by have := th_lt hd hh 1; omega
 have lj:j < m:=by have := th_lt hd hh 2; omega
 have HI:=hide (show Pl.nx d h = i from hi.symm)
 have HJ:=hide (show Pl.nx d i = j from by rw [hi,hj]; rfl)
 have HT:=hide (show slP d h ↔ h ≤ i ∧ h ≤ j ∧ isT d h by unfold slP; rw [hi,hj])
 clear hi hj hm
 have ih0:(0:Int) ≤ (h:Int) ∧ (h:Int) < (m:Int):=by omega
 have ii0:(0:Int) ≤ (i:Int) ∧ (i:Int) < (m:Int):=by omega
 have hb0:Below w.heap.size w (w.alloc (.cells #[.int .i64 5,.int .i64 (h:Int),.int .i64 0,.int .i64 0,.bool false] 28)):=(Below.refl _ _).alloc (Nat.le_refl _) _
 have HB0:=hide hb0
 have P1:=hide (hp.below hb0)
 have M1:=hide (row_at (W := w) (g := w.heap.size) (t := 28) (vs := [.int .i64 5,.int .i64 (h:Int),.int .i64 0,.int .i64 0,.bool false]) rfl)
 have hgl:gl < w.heap.size:=hp.big
 have hgd:gd < gl:=hp.lt
 clear hp hb0 hg
 obtain ⟨d0,d1,d2,d3⟩:=box3 P1.out.d
 obtain ⟨e0,e1,e2,e3,e4,e5⟩:=box5 M1.out
 go_enter Try.func110,Try.ntmps110
 go_wp2_with fail
 refine (next_i d hd B cq m (h:Int) _ HM.out ih0 (by rw [HM.out]; exact (HG.out.keep HB0.out).m)).mono ?_
 rintro e w1 ⟨rfl,rfl⟩
 rw [Int.toNat_natCast,HI.out]
 go_wp2_with fail
 refine (next_i d hd B cq m (i:Int) _ HM.out ii0 (by rw [HM.out]; exact (HG.out.keep HB0.out).m)).mono ?_
 rintro e w1 ⟨rfl,rfl⟩
 rw [Int.toNat_natCast,HJ.out]
 by_cases c1:(i:Int) < (h:Int)
 ·have E:=hide (show slOne d h = [] by unfold slOne; rw [if_neg (fun h => by have := HT.out.1 h; omega)])
  go_wp2
  refine bodyPost_ret (results_none rfl _ _ _) rfl ⟨rfl,v,?_⟩
  rw [E.out,List.append_nil]
  exact P1.out
 ·by_cases c2:(j:Int) < (h:Int)
  ·have E:=hide (show slOne d h = [] by unfold slOne; rw [if_neg (fun h => by have := HT.out.1 h; omega)])
   go_wp2
   refine bodyPost_ret (results_none rfl _ _ _) rfl ⟨rfl,v,?_⟩
   rw [E.out,List.append_nil]
   exact P1.out
  ·go_wp2_with fail
   refine (tri_v d hd A B cp cq m h _ HM.out (HG.out.keep HB0.out) hh).mono ?_
   rintro e w1 ⟨b0,o0,i0,f0,b1,o1,i1,f1,b2,o2,i2,f2,rfl,_,hb1⟩
   have P2:=hide (P1.out.below hb1)
   have M2:=hide (M1.out.below hb1)
   have hs1:=hb1.size
   have hs20:w.heap.size + 1 ≤ w1.heap.size:=by simpa using hs1
   have hs2:w.heap.size < w1.heap.size:=by omega
   clear hs20
   have hs3:gl < w1.heap.size:=by omega
   have hs4:gl < w1.heap.size + 1:=by omega
   have hs5:w.heap.size < w1.heap.size + 1:=by omega
   clear hb1 hs1 d0 d1 d2 d3 e0 e1 e2 e3 e4 e5
   obtain ⟨e0,e1,e2,e3,e4,e5⟩:=box5 M2.out
   by_cases hI:isT d h
   ·rw [Pl.vb_true hI]
    have E:=hide (show slOne d h = [⟨5,h,0,0,false⟩] by unfold slOne; rw [if_pos (HT.out.2 ⟨by omega,by omega,hI⟩)])
    clear hI
    obtain ⟨q0,q1⟩:=box1 P2.out.l
    obtain ⟨n0,hn0,hz0,hz1,hz2⟩:=info_parts moveInfo
    have P3:=hide (P2.out.alloc (.cells #[.int .i64 (b0:Int),.int .i64 (o0:Int),.int .i64 (i0:Int),.int .i64 (f0:Int),.int .i64 (b1:Int),.int .i64 (o1:Int),.int .i64 (i1:Int),.int .i64 (f1:Int),.int .i64 (b2:Int),.int .i64 (o2:Int),.int .i64 (i2:Int),.int .i64 (f2:Int)] 99))
    have A0:=hide (P3.out.alloc (.cells (Mv.cells ⟨5,h,0,0,false⟩).toArray 28)).o
    have A1:∀ u ∈ Mv.cells ⟨5,h,0,0,false⟩,u.oneCell' = true:=by simp [Mv.cells,Value.oneCell']
    have A2:ms.length + 1 ≤ maxLen:=by unfold maxLen; omega
    have A3:(ms.length + 1) * 40 ≤ 140737488355328:=by omega
    have A4:gl + 1 ≤ w1.heap.size + 1 + 1:=by omega
    have A5:=five_news (w1.alloc (.cells #[.int .i64 (b0:Int),.int .i64 (o0:Int),.int .i64 (i0:Int),.int .i64 (f0:Int),.int .i64 (b1:Int),.int .i64 (o1:Int),.int .i64 (i1:Int),.int .i64 (f1:Int),.int .i64 (b2:Int),.int .i64 (o2:Int),.int .i64 (i2:Int),.int .i64 (f2:Int)] 99)) (w1.heap.size + 1) (by simp) ⟨5,h,0,0,false⟩
    have A6:=hide A5
    clear A5
    go_wp2_with (at_builtin; refine wpList_append_lies _ (by rfl) _ _ 31 (by rfl) (gl + 1) 28 n0 (.agg #[.int .i64 0,.int .i64 0,.int .i64 0,.int .i64 0,.bool false]) 5 40 Try.underlying31 hn0 hz0 hz1 hz2 rfl (by omega) v ms.length (mvs ms) (by rfl) A0.out ⟨w1.heap.size + 1,0,none⟩ 1 1 (Mv.cells ⟨5,h,0,0,false⟩) (by rfl) (by rfl) A6.out A1 (by omega) A2 A3 (by simp; omega) (w1.heap.size + 1 + 1) (by simp) ?_; intro g2 c2 w2 own2 grow2 at2 lt2; obtain ⟨q2,q3⟩:=box1 ((P3.out.alloc (.cells (Mv.cells ⟨5,h,0,0,false⟩).toArray 28)).l.grown grow2 ((P3.out.alloc (.cells (Mv.cells ⟨5,h,0,0,false⟩).toArray 28)).far (Nat.le_refl _))); have OWN2 := hide own2; have GR2 := hide grow2; clear own2 grow2 at2)
    refine bodyPost_end (results_none rfl _ _ _) rfl ⟨rfl,.slice (some ⟨g2,0,none⟩) (ms.length + 1) c2,?_⟩
    rw [E.out]
    exact (P3.out.alloc _).push OWN2.out GR2.out
   ·rw [Pl.vb_false hI]
    have E:=hide (show slOne d h = [] by unfold slOne; rw [if_neg (fun h => hI (HT.out.1 h).2.2)])
    clear hI
    go_wp2
    refine bodyPost_end (results_none rfl _ _ _) rfl ⟨rfl,v,?_⟩
    rw [E.out,List.append_nil]
    exact P2.out.alloc _
noncomputable def slL (d:Pl.Dg):Nat → List Mv
 | 0 => []
 | k + 1 => slL d k ++ slOne d k
theorem slL_len (d:Pl.Dg):∀ k,(slL d k).length ≤ k
 | 0 => Nat.le_refl _
 | k + 1 => by
   have:=slL_len d k
   unfold slL slOne
   rw [List.length_append]
   split <;> simp <;> omega
def MovesAt (w:World) (v:Value) (ms:List Mv):Prop := ∃ base,w.ownsRow base 28 5 v ms.length (mvs ms)
set_option maxRecDepth 100000 in
set_option maxHeartbeats 4000000 in
theorem slides_any (d:Pl.Dg) (hd:Pl.Wf d) (A B:Option Addr) (cp cq m:Nat) (w:World) (hm:m = 4 * d.n) (hg:DgAt w A B d) :
 Calls Try.prog 61 #[.agg #[.slice A d.n cp,.slice B m cq,.int .i64 d.lp]] w fun e w' => ∃ v,e = .returned v ∧ MovesAt w' v (slL d m) ∧ Below w.heap.size w w' := by
 have HM:=hide hm
 have HG:=hide hg
 have hn:=hd.few
 have hm2:m ≤ 256:=by omega
 have P0:=hide (show ML w w.heap.size (w.heap.size + 1) [.slice A d.n cp,.slice B m cq,.int .i64 (d.lp:Int)] (.slice none 0 0) [] ((w.alloc (.cells #[.slice A d.n cp,.slice B m cq,.int .i64 (d.lp:Int)] 24)).alloc (.cells #[.slice none 0 0] 31)) from
  ⟨(row_at (vs := [_,_,_]) rfl).alloc _,row_at (vs := [_]) (by simp),⟨rfl,.inl ⟨rfl,rfl⟩⟩,((Below.refl _ _).alloc (Nat.le_refl _) _).alloc (by simp) _,Nat.le_refl _,by omega⟩)
 clear hg hm
 go_enter Try.func61,Try.ntmps61
 go_wp2
 go_loopg [5,10] m (fun g s5 s10 wx => ∃ (k:Nat) (v:Value),k + g = m ∧ s10 = .int .i64 (k:Int) ∧ ML w w.heap.size (w.heap.size + 1) [.slice A d.n cp,.slice B m cq,.int .i64 (d.lp:Int)] v (slL d k) wx)
 case atStart => exact ⟨0,_,by omega,rfl,P0.out⟩
 case round =>
  clear P0
  obtain ⟨k,v,hkg,rfl,hp⟩:=hrel
  have HKG:=hide hkg
  have PK:=hide hp
  have hlen:=slL_len d k
  clear hp
  by_cases hk:k < m
  ·have hki:(k:Int) < (m:Int):=by omega
   clear hkg
   go_wp2_with fail
   refine (slTry_any d hd A B cp cq m k w.heap.size (w.heap.size + 1) v (slL d k) w wr HM.out (HG.out.keep PK.out.bel) (by have := HM.out; omega) (by omega) PK.out).mono ?_
   rintro e w1 ⟨rfl,v',hp1⟩
   have P1:=hide hp1
   clear hp1
   go_wp2
   go_roundg (gk - 1)
   case measure => have := HKG.out; omega
   case rel => exact ⟨k + 1,v',by have := HKG.out; omega,by go_num,P1.out⟩
  ·have hki:¬ ((k:Int) < (m:Int)):=by omega
   have e:k = m:=by omega
   subst e
   obtain ⟨q0,q1⟩:=box1 PK.out.l
   clear hkg
   go_wp2
   go_ret
   exact ⟨v,rfl,⟨_,PK.out.o⟩,PK.out.bel⟩
set_option maxRecDepth 100000 in
set_option maxHeartbeats 4000000 in
theorem Slides_any (d:Pl.Dg) (hd:Pl.Valid d) (A B:Option Addr) (cp cq m:Nat) (w:World) (hm:m = 4 * d.n) (hg:DgAt w A B d) :
 Calls Try.prog 28 #[.agg #[.slice A d.n cp,.slice B m cq,.int .i64 d.lp]] w fun e w' => ∃ v,e = .returned v ∧ MovesAt w' v (slL d m) ∧ Below w.heap.size w w' := by
 have HM:=hide hm
 have HG:=hide hg
 have HW:=hide (Pl.Valid.iff.1 hd).1
 clear hg hm
 have hb0:Below w.heap.size w (w.alloc (.cells #[.slice A d.n cp,.slice B m cq,.int .i64 (d.lp:Int)] 24)):=(Below.refl _ _).alloc (Nat.le_refl _) _
 have r0:=row_at (W := w) (g := w.heap.size) (t := 24) (vs := [.slice A d.n cp,.slice B m cq,.int .i64 (d.lp:Int)]) rfl
 have R0:=hide r0
 have B0:=hide hb0
 clear r0 hb0
 go_enter Try.func28,Try.ntmps28
 go_wp2_with fail
 refine (valid_yes d hd A B cp cq m _ HM.out (HG.out.keep B0.out)).mono ?_
 rintro e w1 ⟨rfl,hb1⟩
 have R1:=hide (R0.out.below hb1)
 have B1:=hide (B0.out.trans (hb1.mono B0.out.size))
 have hs1:=hb1.size
 have hs2:w.heap.size < w1.heap.size:=by have h := R1.out.lt; exact h
 clear hb1 hs1
 obtain ⟨d0,d1,d2,d3⟩:=box3 R1.out
 go_wp2_with fail
 refine (slides_any d HW.out A B cp cq m _ HM.out (HG.out.keep B1.out)).mono ?_
 rintro e w2 ⟨v,rfl,hv,hb2⟩
 have HV:=hide hv
 have B2:=hide (B1.out.trans (hb2.mono B1.out.size))
 clear hv hb2
 go_wp2
 go_ret
 exact ⟨v,rfl,HV.out,B2.out⟩
end Go.Proofs.Ytobbepmlmbbamaa
end
