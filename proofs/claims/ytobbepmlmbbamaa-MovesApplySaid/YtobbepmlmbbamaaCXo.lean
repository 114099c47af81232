/-
 The text Xo.
-/
import Derived.Test.YtobbepmlmbbamaaCSlt
import Derived.Test.YtobbepmlmbbamaaCXj
set_option linter.unusedVariables false
set_option linter.unusedSimpArgs false
section
namespace Go.Proofs.Ytobbepmlmbbamaa
open Go Go.RowKit
theorem tr_of {d:Pl.Dg} {h:Nat} (hh:h < 4 * d.n) (hi:is3 d h):Pl.Tr d (th d h 0) (th d h 1) (th d h 2) :=
 ⟨hh,rfl,rfl,hi.1,hi.2.1,hi.2.2.1,hi.2.2.2⟩
def sT (d:Pl.Dg) (h x:Nat):Nat := Pl.tu (th d h 0) (th d h 1) (th d h 2) x
def sO (d:Pl.Dg) (h x:Nat):Prop := x = Pl.tn (th d h 0) 2 ∨ x = Pl.tn (th d h 1) 2 ∨ x = Pl.tn (th d h 2) 2 ∨ x = Pl.tn (th d h 0) 3 ∨ x = Pl.tn (th d h 1) 3 ∨ x = Pl.tn (th d h 2) 3
def sI (d:Pl.Dg) (h x:Nat):Prop := x = th d h 0 ∨ x = th d h 1 ∨ x = th d h 2 ∨ x = Pl.tn (th d h 0) 1 ∨ x = Pl.tn (th d h 1) 1 ∨ x = Pl.tn (th d h 2) 1
abbrev TriAt (d:Pl.Dg) (h0 h1 h2:Nat) (m t:Nat → Nat):Prop :=
 Pl.Tri (Pl.dart d) Pl.rot m t h0 h1 h2 (Pl.tn h0 1) (Pl.tn h1 1) (Pl.tn h2 1) (Pl.tn h0 2) (Pl.tn h1 2) (Pl.tn h2 2) (Pl.tn h0 3) (Pl.tn h1 3) (Pl.tn h2 3)
theorem tri_at {d:Pl.Dg} (hd:Pl.Wf d) {h:Nat} (hh:h < 4 * d.n) (hi:is3 d h):TriAt d (th d h 0) (th d h 1) (th d h 2) d.m (sT d h) := (tr_of hh hi).tri hd
theorem sj_at {d:Pl.Dg} (hd:Pl.Wf d) {h:Nat} (hh:h < 4 * d.n) (hi:is3 d h):Pl.Sj (4 * d.n) d.m (sT d h) (sO d h) (sI d h) := by
 have T:=tri_at hd hh hi
 refine ⟨hd.lt,hd.inv,fun x hx => ?_,T.tt,?_,?_,?_,?_,?_⟩
 ·exact T.tS x hx
 ·rintro x (e | e | e | e | e | e) <;> rw [e]
  ·rw [T.tu0]; simp [sI]
  ·rw [T.tu1]; simp [sI]
  ·rw [T.tu2]; simp [sI]
  ·rw [T.tv0]; simp [sI]
  ·rw [T.tv1]; simp [sI]
  ·rw [T.tv2]; simp [sI]
 ·intro x h1 h2
  unfold sO at h1
  unfold sI at h2
  refine T.tx x ?_
  simp only [List.mem_cons,List.not_mem_nil,or_false]
  intro h3
  rcases h3 with e | e | e | e | e | e | e | e | e | e | e | e <;> first | (apply h1; simp [e]; done) | (apply h2; simp [e]; done)
 ·rintro x (e | e | e | e | e | e) <;> rw [e]
  ·rw [T.th0]; simp [sO]
  ·rw [T.th1]; simp [sO]
  ·rw [T.th2]; simp [sO]
  ·rw [T.tp0]; simp [sO]
  ·rw [T.tp1]; simp [sO]
  ·rw [T.tp2]; simp [sO]
 ·rintro x (e | e | e | e | e | e) <;> rw [e]
  ·rw [T.ah0]; simp [sI]
  ·rw [T.ah1]; simp [sI]
  ·rw [T.ah2]; simp [sI]
  ·rw [T.ap0]; simp [sI]
  ·rw [T.ap1]; simp [sI]
  ·rw [T.ap2]; simp [sI]
 ·obtain ⟨_,c1,c2,c3⟩:=hi
  intro x h1 h2
  unfold sO at h1
  unfold sI at h2
  have e0:th d h 0 = h:=rfl
  rw [e0] at h1 h2
  unfold Pl.tn at h1 h2
  rcases h1 with e | e | e | e | e | e <;> rcases h2 with e' | e' | e' | e' | e' | e' <;> omega
theorem ends {d:Pl.Dg} (hd:Pl.Wf d) {h k q:Nat} (hl:th d h k < 4 * d.n) (hq:d.m (th d h k) = Pl.tn q 1) :
 (sb d h k = Pl.tn (th d h k) 2 ∧ so d h k = th d h k ∧ si d h k = Pl.tn q 1 ∧ sf d h k = Pl.tn q 3) ∨ (sb d h k = Pl.tn q 3 ∧ so d h k = Pl.tn q 1 ∧ si d h k = th d h k ∧ sf d h k = Pl.tn (th d h k) 2) := by
 have e3:Pl.tn (Pl.tn q 1) 2 = Pl.tn q 3:=Pl.tn_tn _ _ _
 by_cases ho:Pl.out d (th d h k) = true
 ·left
  have e1:eo d (th d h k) = th d h k:=by unfold eo; rw [if_pos ho]
  have e2:ei d (th d h k) = Pl.tn q 1:=by unfold ei; rw [e1,hq]
  exact ⟨by unfold sb; rw [e1],e1,e2,by unfold sf; rw [e2,e3]⟩
 ·right
  have e1:eo d (th d h k) = Pl.tn q 1:=by unfold eo; rw [if_neg ho,hq]
  have e2:ei d (th d h k) = th d h k:=by unfold ei; rw [e1,← hq,hd.inv _ hl]
  exact ⟨by unfold sb; rw [e1,e3],e1,e2,by unfold sf; rw [e2]⟩
theorem sTo_s {d:Pl.Dg} (hd:Pl.Wf d) {h k q:Nat} (hl:th d h k < 4 * d.n) (hq:d.m (th d h k) = Pl.tn q 1) (hql:q < 4 * d.n) (hne:Pl.tn (th d h k) 2 ≠ Pl.tn q 3) (x:Nat) :
 (sTo d h (k + 1)).getD x 0 = if x = Pl.tn (th d h k) 2 then Pl.tn q 1 else if x = Pl.tn q 3 then th d h k else (sTo d h k).getD x 0 := by
 have l1:Pl.tn (th d h k) 2 < (sTo d h k).length:=by rw [sTo_len]; exact Pl.tn_lt hl
 have l2:Pl.tn q 3 < (sTo d h k).length:=by rw [sTo_len]; exact Pl.tn_lt hql
 show (((sTo d h k).set (sb d h k) (si d h k)).set (sf d h k) (so d h k)).getD x 0 = _
 rcases ends hd hl hq with ⟨e1,e2,e3,e4⟩ | ⟨e1,e2,e3,e4⟩ <;> rw [e1,e2,e3,e4]
 ·rw [Pl.set_getD _ _ _ _ (by simpa using l2),Pl.set_getD _ _ _ _ l1]
  by_cases h1:x = Pl.tn q 3
  ·rw [if_pos h1,if_neg (fun h2 => hne (h2.symm.trans h1)),if_pos h1]
  ·rw [if_neg h1,if_neg h1]
 ·rw [Pl.set_getD _ _ _ _ (by simpa using l1),Pl.set_getD _ _ _ _ l2]
theorem setB (l:List Bool) (a x:Nat) (ha:a < l.length):(l.set a true).getD x false = if x = a then true else l.getD x false := by
 rw [List.getD_eq_getElem?_getD,List.getElem?_set,List.getD_eq_getElem?_getD]
 by_cases h:a = x
 ·subst h; simp [ha]
 ·rw [if_neg h,if_neg (Ne.symm h)]
theorem sOu_s {d:Pl.Dg} (hd:Pl.Wf d) {h k q:Nat} (hl:th d h k < 4 * d.n) (hq:d.m (th d h k) = Pl.tn q 1) (hql:q < 4 * d.n) (x:Nat) :
 (sOu d h (k + 1)).getD x false = true ↔ x = Pl.tn (th d h k) 2 ∨ x = Pl.tn q 3 ∨ (sOu d h k).getD x false = true := by
 have l1:Pl.tn (th d h k) 2 < (sOu d h k).length:=by rw [sOu_len]; exact Pl.tn_lt hl
 have l2:Pl.tn q 3 < (sOu d h k).length:=by rw [sOu_len]; exact Pl.tn_lt hql
 show (((sOu d h k).set (sb d h k) true).set (sf d h k) true).getD x false = true ↔ _
 rcases ends hd hl hq with ⟨e1,e2,e3,e4⟩ | ⟨e1,e2,e3,e4⟩ <;> rw [e1,e4]
 ·rw [setB _ _ _ (by simpa using l2),setB _ _ _ l1]
  by_cases h1:x = Pl.tn q 3
  ·simp [h1]
  ·by_cases h2:x = Pl.tn (th d h k) 2 <;> simp [h1,h2]
 ·rw [setB _ _ _ (by simpa using l1),setB _ _ _ l2]
  by_cases h1:x = Pl.tn q 3
  ·simp [h1]
  ·by_cases h2:x = Pl.tn (th d h k) 2 <;> simp [h1,h2]
section
variable {d:Pl.Dg} {h:Nat}
theorem sTo_v (hd:Pl.Wf d) (hh:h < 4 * d.n) (hi:is3 d h) {x:Nat} (hx:x < 4 * d.n):(sO d h x → (sTo d h 3).getD x 0 = sT d h x) ∧ (¬ sO d h x → (sTo d h 3).getD x 0 = x) := by
 have T:=tri_at hd hh hi
 have t0:=th_lt hd hh 0
 have t1:=th_lt hd hh 1
 have t2:=th_lt hd hh 2
 obtain ⟨_,c1,c2,c3⟩:=hi
 have c0:th d h 0 = h:=rfl
 have s2:=sTo_s hd (h := h) (k := 2) (q := th d h 0) t2 T.ah2 t0 (by unfold Pl.tn; omega) x
 have s1:=sTo_s hd (h := h) (k := 1) (q := th d h 2) t1 T.ah1 t2 (by unfold Pl.tn; omega) x
 have s0:=sTo_s hd (h := h) (k := 0) (q := th d h 1) t0 T.ah0 t1 (by unfold Pl.tn; omega) x
 have sz:(sTo d h 0).getD x 0 = x:=by simp [sTo,List.getD_eq_getElem?_getD,hx]
 rw [s2,s1,s0,sz]
 have n:=T.nd
 constructor
 ·rintro (e | e | e | e | e | e) <;> rw [e]
  ·rw [T.tu0,if_neg (by unfold Pl.tn; omega),if_neg (by unfold Pl.tn; omega),if_neg (by unfold Pl.tn; omega),if_neg (by unfold Pl.tn; omega),if_pos rfl]
  ·rw [T.tu1,if_neg (by unfold Pl.tn; omega),if_neg (by unfold Pl.tn; omega),if_pos rfl]
  ·rw [T.tu2,if_pos rfl]
  ·rw [T.tv0,if_neg (by unfold Pl.tn; omega),if_pos rfl]
  ·rw [T.tv1,if_neg (by unfold Pl.tn; omega),if_neg (by unfold Pl.tn; omega),if_neg (by unfold Pl.tn; omega),if_neg (by unfold Pl.tn; omega),if_neg (by unfold Pl.tn; omega),if_pos rfl]
  ·rw [T.tv2,if_neg (by unfold Pl.tn; omega),if_neg (by unfold Pl.tn; omega),if_neg (by unfold Pl.tn; omega),if_pos rfl]
 ·intro hn
  unfold sO at hn
  rw [if_neg (fun e => hn (by simp [e])),if_neg (fun e => hn (by simp [e])),if_neg (fun e => hn (by simp [e])),if_neg (fun e => hn (by simp [e])),if_neg (fun e => hn (by simp [e])),if_neg (fun e => hn (by simp [e]))]
theorem sOu_v (hd:Pl.Wf d) (hh:h < 4 * d.n) (hi:is3 d h) (x:Nat):(sOu d h 3).getD x false = true ↔ sO d h x := by
 have T:=tri_at hd hh hi
 have t0:=th_lt hd hh 0
 have t1:=th_lt hd hh 1
 have t2:=th_lt hd hh 2
 have s2:=sOu_s hd (h := h) (k := 2) (q := th d h 0) t2 T.ah2 t0 x
 have s1:=sOu_s hd (h := h) (k := 1) (q := th d h 2) t1 T.ah1 t2 x
 have s0:=sOu_s hd (h := h) (k := 0) (q := th d h 1) t0 T.ah0 t1 x
 have sz:(sOu d h 0).getD x false = false:=by
  unfold sOu
  rw [List.getD_eq_getElem?_getD,List.getElem?_replicate]
  split <;> rfl
 rw [s2,s1,s0,sz]
 unfold sO
 constructor
 ·rintro (h | h | h | h | h | h | h)
  ·exact .inr (.inr (.inl h))
  ·exact .inr (.inr (.inr (.inl h)))
  ·exact .inr (.inl h)
  ·exact .inr (.inr (.inr (.inr (.inr h))))
  ·exact .inl h
  ·exact .inr (.inr (.inr (.inr (.inl h))))
  ·cases h
 ·rintro (h | h | h | h | h | h) <;> simp [h]
theorem jn_eq (l:List Nat) (a b:Nat):jn l a b = (l.set a b).set b a := rfl
theorem sM_half (hd:Pl.Wf d) (hh:h < 4 * d.n) (hi:is3 d h):∀ k,k ≤ 4 * d.n → Pl.Half (4 * d.n) d.m (Pl.cj (sT d h) d.m) (fun x => ∃ u,u < k ∧ sO d h u ∧ (x = sT d h u ∨ x = sT d h (d.m u))) (sM d h k)
 | 0,_ => ⟨hd.len,fun x hx => .inr ⟨getD_m (by rw [hd.len]; exact hx),fun ⟨u,h,_⟩ => absurd h (by omega)⟩⟩
 | k + 1, hk => by
   have ih:=sM_half hd hh hi k (by omega)
   have J:=sj_at hd hh hi
   have hk2:k < 4 * d.n:=by omega
   show Pl.Half _ _ _ _ (if (sOu d h 3).getD k false = true then jn (sM d h k) ((sTo d h 3).getD k 0) ((sTo d h 3).getD (d.m k) 0) else sM d h k)
   by_cases ho:sO d h k
   ·rw [if_pos ((sOu_v hd hh hi k).2 ho),(sTo_v hd hh hi hk2).1 ho,jn_eq]
    have e:(sTo d h 3).getD (d.m k) 0 = sT d h (d.m k):=by
     by_cases h2:sO d h (d.m k)
     ·exact (sTo_v hd hh hi (hd.lt k hk2)).1 h2
     ·rw [(sTo_v hd hh hi (hd.lt k hk2)).2 h2,J.far hk2 ho h2]
    rw [e]
    exact J.step ih hk2 ho
   ·rw [if_neg (fun h2 => ho ((sOu_v hd hh hi k).1 h2))]
    exact Pl.Sj.skip ih ho
theorem sF_half (hd:Pl.Wf d) (hh:h < 4 * d.n) (hi:is3 d h) {k q:Nat} {W:Nat → Prop} (hl:Pl.Half (4 * d.n) d.m (Pl.cj (sT d h) d.m) W (sF d h k)) (hq:d.m (th d h k) = Pl.tn q 1) (hql:q < 4 * d.n) (e:Pl.cj (sT d h) d.m (Pl.tn (th d h k) 2) = Pl.tn q 3) :
 Pl.Half (4 * d.n) d.m (Pl.cj (sT d h) d.m) (fun x => W x ∨ x = Pl.tn (th d h k) 2 ∨ x = Pl.tn q 3) (sF d h (k + 1)) := by
 have J:=sj_at hd hh hi
 have lh:=th_lt hd hh k
 have l1:Pl.tn (th d h k) 2 < 4 * d.n:=Pl.tn_lt lh
 have l2:Pl.tn q 3 < 4 * d.n:=Pl.tn_lt hql
 have e':Pl.cj (sT d h) d.m (Pl.tn q 3) = Pl.tn (th d h k) 2:=by
  rw [← e]
  unfold Pl.cj
  rw [J.ff,J.inv _ (J.fl _ l1),J.ff]
 show Pl.Half _ _ _ _ (jn (sF d h k) (sb d h k) (sf d h k))
 rw [jn_eq]
 rcases ends hd lh hq with ⟨e1,_,_,e4⟩ | ⟨e1,_,_,e4⟩ <;> rw [e1,e4]
 ·exact hl.join l1 l2 e e'
 ·refine (hl.join l2 l1 e' e).mono ?_
  rintro x (h | h | h)
  ·exact .inl h
  ·exact .inr (.inr h)
  ·exact .inr (.inl h)
theorem sF_v (hd:Pl.Wf d) (hh:h < 4 * d.n) (hi:is3 d h):∀ x,x < 4 * d.n → (sF d h 3).getD x 0 = Pl.cj (sT d h) d.m x := by
 have T:=tri_at hd hh hi
 have T':=T.flip
 have J:=sj_at hd hh hi
 have t0:=th_lt hd hh 0
 have t1:=th_lt hd hh 1
 have t2:=th_lt hd hh 2
 have a0:Pl.Half (4 * d.n) d.m (Pl.cj (sT d h) d.m) _ (sF d h 0):=sM_half hd hh hi (4 * d.n) (Nat.le_refl _)
 have a1:=sF_half hd hh hi (k := 0) (q := th d h 1) a0 T.ah0 t1 T'.ah0
 have a2:=sF_half hd hh hi (k := 1) (q := th d h 2) a1 T.ah1 t2 T'.ah1
 have a3:=sF_half hd hh hi (k := 2) (q := th d h 0) a2 T.ah2 t0 T'.ah2
 refine J.all a3 (fun u hu ho => ⟨?_,?_,?_⟩)
 ·exact .inl (.inl (.inl ⟨u,hu,ho,.inl rfl⟩))
 ·exact .inl (.inl (.inl ⟨u,hu,ho,.inr rfl⟩))
 ·rcases ho with h | h | h | h | h | h <;> simp [h]
theorem sld_m (hd:Pl.Wf d) (hh:h < 4 * d.n) (hi:is3 d h):∀ x,x < 4 * d.n → (sldD d h).m x = Pl.cj (sT d h) d.m x := fun x hx => by
 rw [← sF_v hd hh hi x hx,← getD_m (by show x < (sF d h 3).length; rw [sF_len hd]; exact hx)]
 rfl
theorem sld_valid (hd:Pl.Valid d) (hh:h < 4 * d.n) (hi:is3 d h):Pl.Valid (sldD d h) :=
 have hw:=(Pl.Valid.iff.1 hd).1
 (tr_of hh hi).valid hd rfl rfl (sF_len hw h 3) (sld_m hw hh hi)
theorem tri_new (hd:Pl.Wf d) (hh:h < 4 * d.n) (hi:is3 d h):TriAt d (Pl.tn (th d h 0) 2) (Pl.tn (th d h 1) 2) (Pl.tn (th d h 2) 2) (Pl.cj (sT d h) d.m) (sT d h) := by
 have T:=(tri_at hd hh hi).flip
 have a1:∀ z,Pl.tn (Pl.tn z 2) 1 = Pl.tn z 3:=fun z => Pl.tn_tn _ _ _
 have a2:∀ z,Pl.tn (Pl.tn z 2) 2 = z:=fun z => by rw [Pl.tn_tn,Pl.tn_four]
 have a3:∀ z,Pl.tn (Pl.tn z 2) 3 = Pl.tn z 1:=fun z => by rw [Pl.tn_tn]; exact (Pl.tn_mod4 z 5).symm
 unfold TriAt
 rw [a1,a1,a1,a2,a2,a2,a3,a3,a3]
 exact T
theorem nx_of {f:Nat → Nat} {x y:Nat} (h:f x = Pl.tn y 1):Pl.tn (f x) 3 = y := by rw [h,Pl.tn_tn,Pl.tn_four]
theorem nx_new (hd:Pl.Wf d) (hh:h < 4 * d.n) (hi:is3 d h):Pl.nx (sldD d h) (Pl.tn (th d h 0) 2) = Pl.tn (th d h 1) 2 ∧ Pl.nx (sldD d h) (Pl.tn (th d h 1) 2) = Pl.tn (th d h 2) 2 ∧ Pl.nx (sldD d h) (Pl.tn (th d h 2) 2) = Pl.tn (th d h 0) 2 := by
 have T:=tri_new hd hh hi
 have e:∀ k,Pl.nx (sldD d h) (Pl.tn (th d h k) 2) = Pl.tn (Pl.cj (sT d h) d.m (Pl.tn (th d h k) 2)) 3:=fun k => by
  unfold Pl.nx
  rw [sld_m hd hh hi _ (Pl.tn_lt (th_lt hd hh k))]
 rw [e,e,e]
 exact ⟨nx_of T.ah0,nx_of T.ah1,nx_of T.ah2⟩
theorem lnx_nx (hd:Pl.Wf d) {u:Nat} (hu:u < 4 * d.n):lnx (sF d h 3) u = Pl.nx (sldD d h) u := by
 unfold lnx Pl.nx
 rw [← getD_m (by show u < (sF d h 3).length; rw [sF_len hd]; exact hu)]
 rfl
theorem sC_iff (hd:Pl.Wf d) (hh:h < 4 * d.n) (hi:is3 d h) {u:Nat} (hu:u < 4 * d.n):sC d h u = true ↔ u = Pl.tn (th d h 0) 2 ∨ u = Pl.tn (th d h 1) 2 ∨ u = Pl.tn (th d h 2) 2 := by
 have J:=sj_at hd hh hi
 obtain ⟨n0,n1,n2⟩:=nx_new hd hh hi
 have T:=tri_new hd hh hi
 have l:∀ k,Pl.tn (th d h k) 2 < 4 * d.n:=fun k => Pl.tn_lt (th_lt hd hh k)
 unfold sC
 simp only [Bool.and_eq_true,beq_iff_eq]
 rw [sOu_v hd hh hi,sOu_v hd hh hi,sOu_v hd hh hi]
 constructor
 ·rintro ⟨⟨⟨h1,h2⟩,_⟩,_⟩
  rcases h1 with e | e | e | e | e | e
  ·exact .inl e
  ·exact .inr (.inl e)
  ·exact .inr (.inr e)
  all_goals
   exfalso
   refine J.no _ h2 ?_
   rw [lnx_nx hd hu]
   unfold Pl.nx
   rw [sld_m hd hh hi _ hu,e]
  ·have:=T.ap0
   rw [Pl.tn_tn] at this
   rw [show Pl.tn (th d h 0) 3 = Pl.tn (th d h 0) (2 + 1) from rfl,this,Pl.tn_tn,← Pl.tn_mod4]
   simp [sI]
  ·have:=T.ap1
   rw [Pl.tn_tn] at this
   rw [show Pl.tn (th d h 1) 3 = Pl.tn (th d h 1) (2 + 1) from rfl,this,Pl.tn_tn,← Pl.tn_mod4]
   simp [sI]
  ·have:=T.ap2
   rw [Pl.tn_tn] at this
   rw [show Pl.tn (th d h 2) 3 = Pl.tn (th d h 2) (2 + 1) from rfl,this,Pl.tn_tn,← Pl.tn_mod4]
   simp [sI]
 ·rintro (e | e | e) <;> rw [e]
  ·rw [lnx_nx hd (l 0),n0,lnx_nx hd (l 1),n1,lnx_nx hd (l 2),n2]; simp [sO]
  ·rw [lnx_nx hd (l 1),n1,lnx_nx hd (l 2),n2,lnx_nx hd (l 0),n0]; simp [sO]
  ·rw [lnx_nx hd (l 2),n2,lnx_nx hd (l 0),n0,lnx_nx hd (l 1),n1]; simp [sO]
theorem sX_least (d:Pl.Dg) (h:Nat):∀ g,g ≤ 4 * d.n → (∃ u,4 * d.n - g ≤ u ∧ u < 4 * d.n ∧ sC d h u = true) → sC d h (sX d h g) = true ∧ sX d h g < 4 * d.n ∧ ∀ u,4 * d.n - g ≤ u → u < 4 * d.n → sC d h u = true → sX d h g ≤ u
 | 0,_,⟨u,h1,h2,_⟩ => absurd h1 (by omega)
 | g + 1, hg, ⟨u, h1, h2, h3⟩ => by
   unfold sX
   by_cases hc:sC d h (4 * d.n - (g + 1)) = true
   ·rw [if_pos hc]
    exact ⟨hc,by omega,fun u hu _ _ => hu⟩
   ·rw [if_neg hc]
    have key:∀ u,4 * d.n - (g + 1) ≤ u → sC d h u = true → 4 * d.n - g ≤ u:=fun u hu hs => by
     rcases Nat.lt_or_ge u (4 * d.n - g) with h4 | h4
     ·have:u = 4 * d.n - (g + 1):=by omega
      rw [this] at hs
      exact absurd hs hc
     ·exact h4
    obtain ⟨i1,i2,i3⟩:=sX_least d h g (by omega) ⟨u,key u h1 h3,h2,h3⟩
    exact ⟨i1,i2,fun u hu hl hs => i3 u (key u hu hs) hl hs⟩
theorem sX_v (hd:Pl.Wf d) (hh:h < 4 * d.n) (hi:is3 d h):sX d h (4 * d.n) < 4 * d.n ∧ (sX d h (4 * d.n) = Pl.tn (th d h 0) 2 ∨ sX d h (4 * d.n) = Pl.tn (th d h 1) 2 ∨ sX d h (4 * d.n) = Pl.tn (th d h 2) 2) ∧
 sX d h (4 * d.n) ≤ Pl.tn (th d h 0) 2 ∧ sX d h (4 * d.n) ≤ Pl.tn (th d h 1) 2 ∧ sX d h (4 * d.n) ≤ Pl.tn (th d h 2) 2 := by
 have l:∀ k,Pl.tn (th d h k) 2 < 4 * d.n:=fun k => Pl.tn_lt (th_lt hd hh k)
 obtain ⟨i1,i2,i3⟩:=sX_least d h (4 * d.n) (Nat.le_refl _) ⟨_,by omega,l 0,(sC_iff hd hh hi (l 0)).2 (.inl rfl)⟩
 exact ⟨i2,(sC_iff hd hh hi i2).1 i1,i3 _ (by omega) (l 0) ((sC_iff hd hh hi (l 0)).2 (.inl rfl)),i3 _ (by omega) (l 1) ((sC_iff hd hh hi (l 1)).2 (.inr (.inl rfl))),i3 _ (by omega) (l 2) ((sC_iff hd hh hi (l 2)).2 (.inr (.inr rfl)))⟩
theorem getD_ext {l r:List Nat} (hl:l.length = r.length) (h:∀ x,x < l.length → l.getD x 0 = r.getD x 0):l = r := by
 refine List.ext_getElem hl (fun i h1 h2 => ?_)
 have:=h i h1
 rw [List.getD_eq_getElem?_getD,List.getD_eq_getElem?_getD,List.getElem?_eq_getElem h1,List.getElem?_eq_getElem h2] at this
 exact this
end
end Go.Proofs.Ytobbepmlmbbamaa
end
