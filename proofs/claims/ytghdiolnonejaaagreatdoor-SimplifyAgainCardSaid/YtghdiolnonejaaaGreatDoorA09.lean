/-
 The texts Pcs, Va, Num, Pcb, Ins.
-/
import Derived.Test.YtghdiolnonejaaaGreatDoorA03
set_option linter.unusedVariables false
set_option linter.unusedSimpArgs false
section
namespace Go.Proofs.YtghdiolnonejaaaGreatDoor.Pl
def lx:List Int → List Int → Int
 | [],[] => 0
 | [],_ :: _ => -1
 | _ :: _,[] => 1
 | x :: l,y :: m => if x < y then -1 else if y < x then 1 else lx l m
theorem lx_self:∀ l,lx l l = 0
 | [] => rfl
 | x :: l => by unfold lx; rw [if_neg (by omega),if_neg (by omega),lx_self l]
theorem lx_eq:∀ {l m:List Int},lx l m = 0 → l = m
 | [],[],_ => rfl
 | [],_ :: _,h => by simp [lx] at h
 | _ :: _,[],h => by simp [lx] at h
 | x :: l, y :: m, h => by
   unfold lx at h
   by_cases h1:x < y
   ·rw [if_pos h1] at h; omega
   ·by_cases h2:y < x
    ·rw [if_neg h1,if_pos h2] at h; omega
    ·rw [if_neg h1,if_neg h2] at h
     rw [lx_eq h,show x = y by omega]
theorem lx_neg:∀ (l m:List Int),lx m l = - lx l m
 | [],[] => rfl
 | [],_ :: _ => rfl
 | _ :: _,[] => rfl
 | x :: l, y :: m => by
   unfold lx
   by_cases h1:x < y
   ·rw [if_pos h1,if_neg (by omega),if_pos h1]; rfl
   ·by_cases h2:y < x
    ·rw [if_pos h2,if_neg h1,if_pos h2]
    ·rw [if_neg h1,if_neg h2,if_neg h1,if_neg h2,lx_neg l m]
theorem lx_trans:∀ {l m k:List Int},lx l m ≤ 0 → lx m k ≤ 0 → lx l k ≤ 0
 | [],[],k,_,h => h
 | [],_ :: _,[],_,_ => by simp [lx]
 | [],_ :: _,_ :: _,_,_ => by simp [lx]
 | _ :: _,[],_,h,_ => by simp [lx] at h
 | _ :: _,_ :: _,[],_,h => by simp [lx] at h
 | x :: l, y :: m, z :: k, h1, h2 => by
   unfold lx at h1 h2 ⊢
   by_cases a1:x < y
   ·by_cases b1:y < z
    ·rw [if_pos (by omega)]; omega
    ·by_cases b2:z < y
     ·rw [if_neg b1,if_pos b2] at h2; omega
     ·rw [if_pos (by omega)]; omega
   ·by_cases a2:y < x
    ·rw [if_neg a1,if_pos a2] at h1; omega
    ·rw [if_neg a1,if_neg a2] at h1
     by_cases b1:y < z
     ·rw [if_pos (by omega)]; omega
     ·by_cases b2:z < y
      ·rw [if_neg b1,if_pos b2] at h2; omega
      ·rw [if_neg b1,if_neg b2] at h2
       rw [if_neg (by omega),if_neg (by omega)]; exact lx_trans h1 h2
theorem lx_anti {l m:List Int} (h1:lx l m ≤ 0) (h2:lx m l ≤ 0):l = m := lx_eq (by rw [lx_neg l m] at h2; omega)
theorem lx_app:∀ {l m:List Int},l.length = m.length → ∀ l' m',lx (l ++ l') (m ++ m') = if lx l m = 0 then lx l' m' else lx l m
 | [],[],_,l',m' => by simp [lx]
 | [],_ :: _,h,_,_ => by simp at h
 | _ :: _,[],h,_,_ => by simp at h
 | x :: l, y :: m, h, l', m' => by
   have ih:=lx_app (l := l) (m := m) (by simpa using h) l' m'
   have e:∀ (x y:Int) (l m:List Int),lx (x :: l) (y :: m) = if x < y then -1 else if y < x then 1 else lx l m:=fun _ _ _ _ => rfl
   rw [List.cons_append,List.cons_append,e,e]
   by_cases h1:x < y
   ·rw [if_pos h1,if_pos h1,if_neg (by omega)]
   ·by_cases h2:y < x
    ·rw [if_neg h1,if_pos h2,if_neg h1,if_pos h2,if_neg (by omega)]
    ·rw [if_neg h1,if_neg h2,if_neg h1,if_neg h2,ih]
def kle (c c':List Int):Prop := c.length < c'.length ∨ (c.length = c'.length ∧ lx c c' ≤ 0)
theorem kle_anti {c c':List Int} (h1:kle c c') (h2:kle c' c):c = c' := by
 rcases h1 with h1 | ⟨h1,h1'⟩ <;> rcases h2 with h2 | ⟨h2,h2'⟩
 ·omega
 ·omega
 ·omega
 ·exact lx_anti h1' h2'
theorem kle_trans {c c' c'':List Int} (h1:kle c c') (h2:kle c' c''):kle c c'' := by
 rcases h1 with h1 | ⟨h1,h1'⟩ <;> rcases h2 with h2 | ⟨h2,h2'⟩
 ·exact .inl (by omega)
 ·exact .inl (by omega)
 ·exact .inl (by omega)
 ·exact .inr ⟨by omega,lx_trans h1' h2'⟩
theorem kle_total (c c':List Int):kle c c' ∨ kle c' c := by
 rcases Nat.lt_trichotomy c.length c'.length with h | h | h
 ·exact .inl (.inl h)
 ·rcases Int.le_total (lx c c') 0 with h1 | h1
  ·exact .inl (.inr ⟨h,h1⟩)
  ·exact .inr (.inr ⟨h.symm,by rw [lx_neg c c']; omega⟩)
 ·exact .inr (.inl h)
structure Pc where
 code:List Int
 order:List Nat
 roots:Int
def PcOk (d:Dg) (p:Pc):Prop := ∃ r,r < d.n ∧ p.code = code d r ∧ p.order = ord d r ∧ ∀ q,Comp d r q → lx (code d r) (code d q) ≤ 0
structure Pcs (d:Dg) (ps:List Pc):Prop where
 ok:∀ p,p ∈ ps → PcOk d p
 nd:(ps.flatMap Pc.order).Nodup
 all:∀ c,c < d.n → ∃ p,p ∈ ps ∧ c ∈ p.order
def Srt (ps:List Pc):Prop := ps.Pairwise (fun p q => kle p.code q.code)
def pcode (lp:Nat) (ps:List Pc):List Int := (lp:Int) :: (ps.length:Int) :: ps.flatMap (fun p => (p.order.length:Int) :: p.code)
theorem Pcs.uniq {d:Dg} {ps:List Pc} (h:Pcs d ps) {i j c:Nat} {p q:Pc} (hi:ps[i]? = some p) (hj:ps[j]? = some q) (hp:c ∈ p.order) (hq:c ∈ q.order):i = j := by
 have h1:=(List.pairwise_flatMap.1 h.nd).2
 rw [List.pairwise_iff_getElem] at h1
 obtain ⟨li,ei⟩:=List.getElem?_eq_some_iff.1 hi
 obtain ⟨lj,ej⟩:=List.getElem?_eq_some_iff.1 hj
 rcases Nat.lt_trichotomy i j with e | e | e
 ·exact absurd rfl (h1 i j li lj e c (by rw [ei]; exact hp) c (by rw [ej]; exact hq))
 ·exact e
 ·exact absurd rfl (h1 j i lj li e c (by rw [ej]; exact hq) c (by rw [ei]; exact hp))
theorem Pcs.at_ {d:Dg} {ps:List Pc} (h:Pcs d ps) {c:Nat} (hc:c < d.n):∃ (i:Nat) (p:Pc),ps[i]? = some p ∧ c ∈ p.order := by
 obtain ⟨p,hp,hm⟩:=h.all c hc
 obtain ⟨i,hi,rfl⟩:=List.getElem_of_mem hp
 exact ⟨i,_,List.getElem?_eq_getElem hi,hm⟩
theorem PcOk.len {d:Dg} {p:Pc} (h:PcOk d p):p.code.length = 5 * p.order.length := by
 obtain ⟨r,_,e1,e2,_⟩:=h
 rw [e1,e2,code_len]
theorem perm_of_corr {α:Type}:∀ (K L:List α) (π:Nat → Nat),(∀ i,i < K.length → π i < L.length ∧ L[π i]? = K[i]?) → (∀ i j,i < K.length → j < K.length → π i = π j → i = j) → ∃ r,L.Perm (K ++ r)
 | [],L,_,_,_ => ⟨L,by simp⟩
 | k :: K, L, π, h, hinj => by
   obtain ⟨hl,he⟩:=h 0 (by simp)
   have he':L[π 0] = k:=by
    rw [List.getElem?_eq_getElem hl] at he
    simpa using he
   have hL:L.Perm (k :: L.eraseIdx (π 0)):=by
    have h1:L = L.take (π 0) ++ k :: L.drop (π 0 + 1):=by
     conv => lhs; rw [← List.take_append_drop (π 0) L]
     rw [List.drop_eq_getElem_cons hl,he']
    have h2:L.eraseIdx (π 0) = L.take (π 0) ++ L.drop (π 0 + 1):=List.eraseIdx_eq_take_drop_succ _ _
    rw [h2]
    conv => lhs; rw [h1]
    exact List.perm_middle
   have hlen:(L.eraseIdx (π 0)).length + 1 = L.length:=by rw [List.length_eraseIdx,if_pos hl]; omega
   have key:∀ i,i < K.length → π (i + 1) ≠ π 0:=fun i hi e => by
    have:=hinj (i + 1) 0 (by simp; omega) (by simp) e
    omega
   obtain ⟨r,hr⟩:=perm_of_corr K (L.eraseIdx (π 0)) (fun i => if π (i + 1) < π 0 then π (i + 1) else π (i + 1) - 1) (fun i hi => by
    obtain ⟨h1,h2⟩:=h (i + 1) (by simp; omega)
    have hne:=key i hi
    rw [List.getElem?_cons_succ] at h2
    by_cases e:π (i + 1) < π 0
    ·simp only [if_pos e]
     exact ⟨by omega,by rw [List.getElem?_eraseIdx_of_lt e,h2]⟩
    ·simp only [if_neg e]
     refine ⟨by omega,?_⟩
     rw [List.getElem?_eraseIdx_of_ge (by omega),show π (i + 1) - 1 + 1 = π (i + 1) by omega,h2]) (fun i j hi hj e => by
    have hne1:=key i hi
    have hne2:=key j hj
    have:π (i + 1) = π (j + 1):=by
     split at e <;> split at e <;> omega
    have:=hinj (i + 1) (j + 1) (by simp; omega) (by simp; omega) this
    omega)
   exact ⟨r,hL.trans (hr.cons k)⟩
section
variable {a b:Dg} {ps qs:List Pc} {σ:Nat → Nat}
theorem Pcs.corr (I:Iso a b σ) (ha:Wf a) (hb:Wf b) (hp:Pcs a ps) (hq:Pcs b qs):ps.length ≤ qs.length ∧ ∃ r,(qs.map Pc.code).Perm (ps.map Pc.code ++ r) := by
 obtain ⟨τ,J,t1,t2⟩:=I.symm ha
 have hw:∀ i,∃ j,i < ps.length → ∃ (p q:Pc),ps[i]? = some p ∧ qs[j]? = some q ∧ p.code = q.code ∧ ∃ r,r ∈ p.order ∧ σ r ∈ q.order ∧ r < a.n:=fun i => by
  by_cases hi:i < ps.length
  ·obtain ⟨r,hr,e1,e2,hl⟩:=hp.ok _ (List.getElem_mem hi)
   have hsr:σ r < b.n:=by rw [← I.n]; exact I.lt r hr
   obtain ⟨j,q,hj,hm⟩:=hq.at_ hsr
   refine ⟨j,fun _ => ⟨_,q,List.getElem?_eq_getElem hi,hj,?_,r,by rw [e2]; exact (ord_ok ha hr).root,hm,hr⟩⟩
   obtain ⟨r',hr',f1,f2,fl⟩:=hq.ok q (List.mem_of_getElem? hj)
   rw [f2,ord_mem hb hr'] at hm
   have k1:lx (code b r') (code b (σ r)) ≤ 0:=fl _ hm
   have ht:τ r' < a.n:=by rw [I.n]; exact J.lt r' hr'
   have k2:Comp a r (τ r'):=by
    have:Comp b (σ r) (σ (τ r')):=by rw [t2 r' (by rw [I.n]; exact hr')]; exact comp_symm hb hr' hm
    exact (I.comp ha hb hr ht).1 this
   have k3:=hl _ k2
   rw [I.code ha hr] at k1
   rw [J.code hb hr'] at k3
   rw [e1,f1]
   exact lx_anti k3 k1
  ·exact ⟨0,fun h => absurd h hi⟩
 let π := fun i => Classical.choose (hw i)
 have h1:∀ i,i < ps.length → ∃ (p q:Pc),ps[i]? = some p ∧ qs[π i]? = some q ∧ p.code = q.code ∧ ∃ r,r ∈ p.order ∧ σ r ∈ q.order ∧ r < a.n:=fun i hi => Classical.choose_spec (hw i) hi
 have hlt:∀ i,i < ps.length → π i < qs.length:=fun i hi => by
  obtain ⟨p,q,_,h,_⟩:=h1 i hi
  exact (List.getElem?_eq_some_iff.1 h).1
 have hinj:∀ i j,i < ps.length → j < ps.length → π i = π j → i = j:=fun i j hi hj e => by
  obtain ⟨p,q,e1,e2,_,r,m1,m2,hr⟩:=h1 i hi
  obtain ⟨p',q',f1,f2,_,r',n1,n2,hr'⟩:=h1 j hj
  rw [e] at e2
  rw [e2] at f2
  injection f2 with f2
  subst f2
  obtain ⟨x,hx,x1,x2,_⟩:=hq.ok q (List.mem_of_getElem? e2)
  rw [x2,ord_mem hb hx] at m2 n2
  have k1:Comp a r r':=(I.comp ha hb hr hr').1 ((comp_symm hb hx m2).trans n2)
  obtain ⟨y,hy,y1,y2,_⟩:=hp.ok p (List.mem_of_getElem? e1)
  refine hp.uniq (c := r') e1 f1 ?_ n1
  rw [y2,ord_mem ha hy] at m1 ⊢
  exact m1.trans k1
 refine ⟨pigeon _ _ π hlt hinj,perm_of_corr _ _ π (fun i hi => ?_) (fun i j hi hj e => hinj i j (by simpa using hi) (by simpa using hj) e)⟩
 rw [List.length_map] at hi
 obtain ⟨p,q,e1,e2,e3,_⟩:=h1 i hi
 refine ⟨by rw [List.length_map]; exact hlt i hi,?_⟩
 rw [List.getElem?_map,List.getElem?_map,e1,e2]
 simp [e3]
theorem codes_eq (I:Iso a b σ) (ha:Wf a) (hb:Wf b) (hp:Pcs a ps) (hq:Pcs b qs) (sp:Srt ps) (sq:Srt qs):ps.map Pc.code = qs.map Pc.code := by
 obtain ⟨τ,J,_,_⟩:=I.symm ha
 obtain ⟨l1,r,hr⟩:=hp.corr I ha hb hq
 obtain ⟨l2,_⟩:=hq.corr J hb ha hp
 have:r = []:=by
  have:=hr.length_eq
  rw [List.length_append,List.length_map,List.length_map] at this
  exact List.length_eq_zero_iff.1 (by omega)
 subst this
 rw [List.append_nil] at hr
 exact (List.Perm.eq_of_pairwise (le := kle) (fun x y _ _ h1 h2 => kle_anti h1 h2) (by rw [List.pairwise_map]; exact sq) (by rw [List.pairwise_map]; exact sp) hr).symm
theorem pcode_of {d:Dg} {ps:List Pc} (h:Pcs d ps) (lp:Nat):pcode lp ps = (lp:Int) :: ((ps.map Pc.code).length:Int) :: (ps.map Pc.code).flatMap (fun c => ((c.length / 5:Nat):Int) :: c) := by
 unfold pcode
 rw [List.length_map]
 congr 2
 have:∀ (l:List Pc),(∀ p,p ∈ l → PcOk d p) → l.flatMap (fun p => (p.order.length:Int) :: p.code) = (l.map Pc.code).flatMap (fun c => ((c.length / 5:Nat):Int) :: c):=by
  intro l
  induction l with
  | nil => intro _; rfl
  | cons p l ih =>
    intro hl
    rw [List.map_cons,List.flatMap_cons,List.flatMap_cons,ih (fun q hq => hl q (by simp [hq])),(hl p (by simp)).len,show 5 * p.order.length / 5 = p.order.length by omega]
 exact this ps h.ok
theorem Iso.pcode (I:Iso a b σ) (ha:Wf a) (hb:Wf b) (hp:Pcs a ps) (hq:Pcs b qs) (sp:Srt ps) (sq:Srt qs):Pl.pcode a.lp ps = Pl.pcode b.lp qs := by
 rw [pcode_of hp,pcode_of hq,codes_eq I ha hb hp hq sp sq,I.lp]
end
end Go.Proofs.YtghdiolnonejaaaGreatDoor.Pl
end
section
namespace Go.Proofs.YtghdiolnonejaaaGreatDoor
open Go Go.RowKit
theorem drop_at {xs:List Int} {k:Nat} (h:k < xs.length):xs.drop k = xs.getD k 0 :: xs.drop (k + 1) := by
 rw [List.drop_eq_getElem_cons h,List.getD_eq_getElem?_getD,List.getElem?_eq_getElem h]; rfl
set_option maxRecDepth 100000 in
set_option maxHeartbeats 4000000 in
theorem compare_any (xs ys:List Int) (A B:Option Addr) (n m c c2:Nat) (w:World) (hA:IntsAt w A n xs) (hB:IntsAt w B m ys) (hn:n ≤ 1000000) (hm:m ≤ 1000000) :
 Calls Tryz.prog 117 #[.slice A n c,.slice B m c2] w fun e w' => e = .returned (.int .i64 (Pl.lx xs ys)) ∧ w' = w := by
 have HA:=hide hA
 have HB:=hide hB
 have LA:=hide hA.len
 have LB:=hide hB.len
 clear hA hB
 go_enter Tryz.func117,Tryz.ntmps117
 go_wp2
 go_loopg [5,6,7,8,11] n (fun g s5 s6 s7 s8 i wx => ∃ k:Nat,k + g = n ∧ i = .int .i64 k ∧ k ≤ m ∧ Pl.lx xs ys = Pl.lx (xs.drop k) (ys.drop k) ∧ wx = w)
 case atStart => exact ⟨0,by omega,rfl,by omega,rfl,rfl⟩
 case round =>
  obtain ⟨k,hkg,rfl,hkm,hlx,rfl⟩:=hrel
  have HKG:=hide hkg
  have HLX:=hide hlx
  clear hlx
  by_cases hk:k < n
  ·have hki:(k:Int) < (n:Int):=by omega
   have k0:(0:Int) ≤ (k:Int):=by omega
   obtain ⟨b,o,rfl,x1⟩:=HA.out.at_ hk
   have e1:=drop_at (xs := xs) (k := k) (by rw [LA.out]; exact hk)
   obtain ⟨u,hu⟩:∃ u,u = xs.getD k 0 := ⟨_,rfl⟩
   rw [← hu] at x1 e1
   have E1:=hide e1
   clear hu hkg e1
   by_cases hk2:k < m
   ·have hk2i:(k:Int) < (m:Int):=by omega
    have hk2j:¬ ((m:Int) ≤ (k:Int)):=by omega
    obtain ⟨b2,o2,rfl,y1⟩:=HB.out.at_ hk2
    have e2:=drop_at (xs := ys) (k := k) (by rw [LB.out]; exact hk2)
    obtain ⟨v,hv⟩:∃ v,v = ys.getD k 0 := ⟨_,rfl⟩
    rw [← hv] at y1 e2
    have E2:=hide e2
    clear hv e2
    go_wp2_with fail
    refine (Tryz.cmp_Compare_int u v _).mono ?_
    rintro e w1 ⟨rfl,rfl⟩
    unfold Lib.compareInt
    have HL:=hide HLX.out
    rcases Int.lt_trichotomy u v with h | h | h
    ·have hne:¬ v < u:=by omega
     have HR:=hide (show Pl.lx xs ys = -1 by rw [HLX.out,E1.out,E2.out,Pl.lx,if_pos h])
     rw [if_pos h]
     clear h hne
     go_wp2
     go_ret
     exact ⟨by rw [HR.out]; rfl,rfl⟩
    ·have HR:=hide (show Pl.lx xs ys = Pl.lx (xs.drop (k + 1)) (ys.drop (k + 1)) by rw [HLX.out,E1.out,E2.out,Pl.lx,if_neg (by omega),if_neg (by omega)])
     rw [if_neg (show ¬ u < v by omega),if_neg (show ¬ v < u by omega)]
     clear h
     go_wp2
     go_roundg (gk - 1)
     case measure => have := HKG.out; omega
     case rel => exact ⟨k + 1,by have := HKG.out; omega,by go_num,by omega,HR.out,rfl⟩
    ·have hne:¬ u < v:=by omega
     have HR:=hide (show Pl.lx xs ys = 1 by rw [HLX.out,E1.out,E2.out,Pl.lx,if_neg hne,if_pos h])
     rw [if_neg hne,if_pos h]
     clear h hne
     go_wp2
     go_ret
     exact ⟨by rw [HR.out]; rfl,rfl⟩
   ·have hk2i:(m:Int) ≤ (k:Int):=by omega
    have HR:=hide (show Pl.lx xs ys = 1 by rw [HLX.out,E1.out,List.drop_eq_nil_of_le (show ys.length ≤ k by rw [LB.out]; omega)]; rfl)
    go_wp2
    go_ret
    exact ⟨by rw [HR.out]; rfl,rfl⟩
  ·have hki:¬ ((k:Int) < (n:Int)):=by omega
   have hkn:k = n:=by omega
   subst hkn
   clear hkg
   by_cases hnm:(k:Int) < (m:Int)
   ·have HR := hide (show Pl.lx xs ys = -1 by
     rw [HLX.out,List.drop_eq_nil_of_le (show xs.length ≤ k by rw [LA.out]; exact Nat.le_refl _),drop_at (xs := ys) (k := k) (by rw [LB.out]; omega)]; rfl)
    go_wp2
    go_ret
    exact ⟨by rw [HR.out]; rfl,rfl⟩
   ·have HR := hide (show Pl.lx xs ys = 0 by
     rw [HLX.out,List.drop_eq_nil_of_le (show xs.length ≤ k by rw [LA.out]; exact Nat.le_refl _),List.drop_eq_nil_of_le (show ys.length ≤ k by rw [LB.out]; omega)]; rfl)
    go_wp2
    go_ret
    exact ⟨by rw [HR.out]; rfl,rfl⟩
end Go.Proofs.YtghdiolnonejaaaGreatDoor
end
section
namespace Go.Proofs.YtghdiolnonejaaaGreatDoor.Pl
variable {d:Dg}
def nums (n:Nat) (o:List Nat):List Int := (List.range n).map (fun c => if c ∈ o then ((o.idxOf c:Nat):Int) else -1)
theorem nums_len (n:Nat) (o:List Nat):(nums n o).length = n := by unfold nums; simp
theorem nums_get {n c:Nat} (o:List Nat) (hc:c < n):(nums n o)[c]? = some (if c ∈ o then ((o.idxOf c:Nat):Int) else -1) := by
 unfold nums
 rw [List.getElem?_map,List.getElem?_range hc]
 rfl
theorem nums_nil (n:Nat):nums n [] = List.replicate n (-1) := by
 unfold nums
 refine List.ext_getElem? fun i => ?_
 rw [List.getElem?_map,List.getElem?_replicate]
 by_cases h:i < n
 ·rw [List.getElem?_range h,if_pos h]; simp
 ·rw [List.getElem?_eq_none (by simp; omega),if_neg h]; rfl
theorem nums_add {n b:Nat} {o:List Nat} (hb:b < n) (hn:b ∉ o):nums n (o ++ [b]) = (nums n o).set b (o.length:Int) := by
 refine List.ext_getElem? fun i => ?_
 rw [List.getElem?_set]
 by_cases hi:i < n
 ·rw [nums_get _ hi]
  by_cases e:b = i
  ·subst e
   have h1:b ∈ o ++ [b]:=by simp
   have h2:b < (nums n o).length:=by rw [nums_len]; exact hi
   rw [if_pos h1,if_pos rfl,if_pos h2,List.idxOf_append,if_neg hn]
   simp
  ·rw [if_neg e,nums_get _ hi]
   by_cases hm:i ∈ o
   ·rw [if_pos (by simp [hm]),if_pos hm,List.idxOf_append,if_pos hm]
   ·rw [if_neg (by simp [hm]; exact fun h => e h.symm),if_neg hm]
 ·have h1:(nums n (o ++ [b])).length ≤ i:=by rw [nums_len]; omega
  rw [List.getElem?_eq_none h1,if_neg (by omega),List.getElem?_eq_none (by rw [nums_len]; omega)]
theorem nums_one {n r:Nat} (hr:r < n):nums n [r] = (List.replicate n (-1)).set r 0 := by
 have:=nums_add (o := []) hr (by simp)
 rw [nums_nil] at this
 exact this
theorem flat5_at {o:List Nat}:∀ {l:List Nat} {i c:Nat},l[i]? = some c → ∀ j,j < 5 → (l.flatMap (chk d o))[5 * i + j]? = (chk d o c)[j]?
 | [],i,c,h,_,_ => by simp at h
 | x :: l, 0, c, h, j, hj => by
   obtain rfl:x = c := by simpa using h
   rw [List.flatMap_cons,Nat.mul_zero,Nat.zero_add,List.getElem?_append_left (by rw [chk_len]; exact hj)]
 | x :: l, i + 1, c, h, j, hj => by
   have ih:=flat5_at (o := o) (l := l) (i := i) (c := c) (by simpa using h) j hj
   rw [List.flatMap_cons,List.getElem?_append_right (by rw [chk_len]; omega),chk_len,← ih]
   congr 1
   omega
theorem code_sgn {r i c:Nat} (h:(ord d r)[i]? = some c):(code d r)[5 * i]? = some (d.s c) := by
 have:=flat5_at (d := d) (o := ord d r) h 0 (by omega)
 exact this
theorem code_nb {r i c s:Nat} (h:(ord d r)[i]? = some c) (hs:s < 4):(code d r)[5 * i + 1 + s]? = some (((4 * (ord d r).idxOf (nb d c s) + d.m (4 * c + s) % 4:Nat)):Int) := by
 have:=flat5_at (d := d) (o := ord d r) h (1 + s) (by omega)
 rw [Nat.add_assoc]
 refine this.trans ?_
 have h4:s = 0 ∨ s = 1 ∨ s = 2 ∨ s = 3:=by omega
 rcases h4 with rfl | rfl | rfl | rfl <;> rfl
theorem take_one {α:Type} {l:List α} {k:Nat} {x:α} (h:l[k]? = some x):l.take (k + 1) = l.take k ++ [x] := by
 rw [List.take_add_one,h]; rfl
def vdt (best:Option (List Int)) (c:List Int) (k:Nat):Int := match best with
 | none => -1
 | some b => lx (c.take k) (b.take k)
theorem vdt_step {b c:List Int} {k:Nat} (hc:k + 5 ≤ c.length) (hb:k + 5 ≤ b.length):vdt (some b) c (k + 5) = if vdt (some b) c k = 0 then lx ((c.drop k).take 5) ((b.drop k).take 5) else vdt (some b) c k := by
 unfold vdt
 simp only
 rw [List.take_add,List.take_add]
 exact lx_app (by rw [List.length_take,List.length_take]; omega) _ _
theorem vdt_keep {b c:List Int} {k:Nat} (hl:c.length = b.length) (h:vdt (some b) c k ≠ 0):lx c b = vdt (some b) c k := by
 unfold vdt at h ⊢
 simp only at h ⊢
 have:=lx_app (l := c.take k) (m := b.take k) (by rw [List.length_take,List.length_take,hl]) (c.drop k) (b.drop k)
 rw [List.take_append_drop,List.take_append_drop,if_neg h] at this
 exact this
def vall (best:Option (List Int)) (c:List Int):Int := match best with | none => -1 | some b => lx c b
theorem vall_some (b c:List Int):vall (some b) c = lx c b := rfl
theorem vall_none (c:List Int):vall none c = -1 := rfl
theorem vdt_all {best:Option (List Int)} {c:List Int} {k:Nat} (hk:c.length ≤ k) (hb:∀ b,best = some b → b.length ≤ k):vdt best c k = vall best c := by
 unfold vdt vall
 cases best with
 | none => rfl
 | some b => simp only; rw [List.take_of_length_le hk,List.take_of_length_le (hb b rfl)]
theorem pre_get {o o':List Nat} (h:o <+: o') {i c:Nat} (hc:o[i]? = some c):o'[i]? = some c := by
 obtain ⟨l,rfl⟩:=h
 rw [List.getElem?_append_left (List.getElem?_eq_some_iff.1 hc).1,hc]
theorem add_ord {r i c s:Nat} (hi:i + 1 ≤ d.n) (hc:(ordK d r i)[i]? = some c) (hs:s ≤ 4):addS d (ordK d r i) c s <+: ord d r := by
 have h1:=addS_mono (d := d) (ordK d r i) c s (4 - s)
 rw [show s + (4 - s) = 4 by omega,← ordK_some hc] at h1
 exact h1.trans (ordK_ord r hi)
theorem code_step {r i c s:Nat} (hi:i + 1 ≤ d.n) (hc:(ordK d r i)[i]? = some c) (hs:s < 4):(code d r)[5 * i + 1 + s]? = some (((4 * (addS d (ordK d r i) c (s + 1)).idxOf (nb d c s) + d.m (4 * c + s) % 4:Nat)):Int) := by
 rw [code_nb (pre_get (ordK_ord r (by omega)) hc) hs,idx_pre (add_ord (s := s + 1) hi hc (by omega)) (addN_mem (addS d (ordK d r i) c s) (nb d c s))]
theorem order_lt {r i:Nat} (hi:i ≤ d.n) (h:i < (ord d r).length):i < (ordK d r i).length := by
 rcases Nat.lt_or_ge i (ordK d r i).length with h1 | h1
 ·exact h1
 ·rw [ord_eq hi h1] at h1; omega
end Go.Proofs.YtghdiolnonejaaaGreatDoor.Pl
end
section
namespace Go.Proofs.YtghdiolnonejaaaGreatDoor.Pl
variable {d:Dg}
theorem ord_len_eq (hd:Wf d) {r q:Nat} (hr:r < d.n) (hq:q < d.n) (h:Comp d r q):(ord d r).length = (ord d q).length := by
 refine List.Perm.length_eq ((List.perm_ext_iff_of_nodup (ord_ok hd hr).nd (ord_ok hd hq).nd).2 fun x => ?_)
 rw [ord_mem hd hr,ord_mem hd hq]
 exact ⟨fun e => (comp_symm hd hr h).trans e,fun e => h.trans e⟩
theorem code_len_eq (hd:Wf d) {r q:Nat} (hr:r < d.n) (hq:q < d.n) (h:Comp d r q):(code d r).length = (code d q).length := by
 rw [code_len,code_len,ord_len_eq hd hr hq h]
structure Lst5 (d:Dg) (l:List Nat) (p:Pc):Prop where
 is:∃ r,r ∈ l ∧ p.code = code d r ∧ p.order = ord d r
 min:∀ q,q ∈ l → lx p.code (code d q) ≤ 0
theorem Lst5.one (r:Nat) (x:Int):Lst5 d [r] ⟨code d r,ord d r,x⟩:=by
 refine ⟨⟨r,by simp,rfl,rfl⟩,fun q hq => ?_⟩
 obtain rfl:q = r := by simpa using hq
 have:=lx_self (code d q)
 show lx (code d q) (code d q) ≤ 0
 omega
theorem Lst5.less {l:List Nat} {p:Pc} (h:Lst5 d l p) {q:Nat} (hq:lx (code d q) p.code < 0) (x:Int):Lst5 d (l ++ [q]) ⟨code d q,ord d q,x⟩:=by
 refine ⟨⟨q,by simp,rfl,rfl⟩,fun y hy => ?_⟩
 rcases List.mem_append.1 hy with hy | hy
 ·exact lx_trans (l := code d q) (m := p.code) (by omega) (h.min y hy)
 ·obtain rfl:y = q := by simpa using hy
  have:=lx_self (code d y)
  show lx (code d y) (code d y) ≤ 0
  omega
theorem Lst5.more {l:List Nat} {p:Pc} (h:Lst5 d l p) {q:Nat} (hq:¬ lx (code d q) p.code < 0) (x:Int):Lst5 d (l ++ [q]) ⟨p.code,p.order,x⟩:=by
 obtain ⟨r,h1,h2,h3⟩:=h.is
 refine ⟨⟨r,by simp [h1],h2,h3⟩,fun y hy => ?_⟩
 rcases List.mem_append.1 hy with hy | hy
 ·exact h.min y hy
 ·obtain rfl:y = q := by simpa using hy
  show lx p.code (code d y) ≤ 0
  rw [lx_neg]
  omega
theorem Lst5.ok (hd:Wf d) {l:List Nat} {p:Pc} {r:Nat} (h:Lst5 d l p) (hr:r < d.n) (hl:∀ c,c ∈ l ↔ c < d.n ∧ Comp d r c):PcOk d p := by
 obtain ⟨q,h1,h2,h3⟩:=h.is
 obtain ⟨hq,hc⟩:=(hl q).1 h1
 refine ⟨q,hq,h2,h3,fun y hy => ?_⟩
 rw [← h2]
 have hyn:y < d.n:=((ord_ok hd hq).mem y ((ord_mem hd hq y).2 hy)).1
 exact h.min y ((hl y).2 ⟨hyn,hc.trans hy⟩)
end Go.Proofs.YtghdiolnonejaaaGreatDoor.Pl
end
section
namespace Go.Proofs.YtghdiolnonejaaaGreatDoor.Pl
def leP (p q:Pc):Prop := kle p.code q.code
theorem leP_trans {p q r:Pc} (h:leP p q) (h':leP q r):leP p r := kle_trans h h'
theorem leP_total (p q:Pc):leP p q ∨ leP q p := kle_total _ _
structure Ins (qs ps:List Pc) (i j:Nat):Prop where
 ex:∃ (pre:List Pc) (x:Pc) (mid suf:List Pc),ps = pre ++ x :: (mid ++ suf) ∧ pre.length = j ∧ pre.length + mid.length = i ∧ (pre ++ mid).Pairwise leP ∧ ∀ m,m ∈ mid → leP x m
 perm:ps.Perm qs
theorem Ins.start {qs ps:List Pc} {i:Nat} (hp:ps.Perm qs) (hs:(ps.take i).Pairwise leP) (hi:i < ps.length):Ins qs ps i i := by
 refine ⟨⟨ps.take i,ps[i],[],ps.drop (i + 1),?_,by rw [List.length_take]; omega,by rw [List.length_take]; simp; omega,by simpa using hs,fun m h => by simp at h⟩,hp⟩
 rw [List.nil_append,← List.drop_eq_getElem_cons hi,List.take_append_drop]
theorem snoc_of {l:List Pc} {j:Nat} (h:l.length = j + 1):∃ (l':List Pc) (y:Pc),l = l' ++ [y] ∧ l'.length = j := by
 have hne:l ≠ []:=by intro e; rw [e] at h; simp at h
 refine ⟨l.dropLast,l.getLast hne,(List.dropLast_concat_getLast hne).symm,by rw [List.length_dropLast]; omega⟩
theorem get_mid {a:List Pc} {x:Pc} {b:List Pc} {j:Nat} (h:a.length = j):(a ++ x :: b)[j]? = some x := by
 subst h
 rw [List.getElem?_append_right (Nat.le_refl _),Nat.sub_self]; rfl
theorem Ins.step {qs ps:List Pc} {i j:Nat} (h:Ins qs ps i (j + 1)) {x y:Pc} (hx:ps[j + 1]? = some x) (hy:ps[j]? = some y) (hn:¬ leP y x):Ins qs ((ps.set (j + 1) y).set j x) i j := by
 obtain ⟨pre,x',mid,suf,e,h1,h2,h3,h4⟩:=h.ex
 obtain ⟨l,y',rfl,hl⟩:=snoc_of h1
 rw [e,get_mid h1] at hx
 injection hx with hx
 subst hx
 have e2:l ++ [y'] ++ x' :: (mid ++ suf) = l ++ y' :: x' :: (mid ++ suf):=by simp
 rw [e,e2,get_mid hl] at hy
 injection hy with hy
 subst hy
 have e3:(ps.set (j + 1) y').set j x' = l ++ x' :: (y' :: mid ++ suf):=by
  rw [e,e2,List.set_append_right _ _ (by omega),List.set_append_right _ _ (by omega),hl,show j + 1 - j = 1 by omega,Nat.sub_self]
  rfl
 have hle:leP x' y':=(leP_total x' y').resolve_right hn
 refine ⟨⟨l,x',y' :: mid,suf,e3,hl,by simp at h2 ⊢; omega,by simpa using h3,fun m hm => ?_⟩,?_⟩
 ·rcases List.mem_cons.1 hm with rfl | hm
  ·exact hle
  ·exact h4 m hm
 ·rw [e3]
  refine List.Perm.trans ?_ h.perm
  rw [e,e2]
  exact List.Perm.append_left _ (List.Perm.swap _ _ _)
theorem Ins.stop {qs ps:List Pc} {i j:Nat} (h:Ins qs ps i j) (hs:j = 0 ∨ ∃ x y,ps[j]? = some x ∧ ps[j - 1]? = some y ∧ leP y x):(ps.take (i + 1)).Pairwise leP := by
 obtain ⟨pre,x,mid,suf,e,h1,h2,h3,h4⟩:=h.ex
 have ht:ps.take (i + 1) = pre ++ x :: mid:=by
  have e2:pre ++ x :: (mid ++ suf) = (pre ++ x :: mid) ++ suf:=by simp
  rw [e,e2,List.take_append_of_le_length (by simp; omega),List.take_of_length_le (by simp; omega)]
 have hpre:∀ a,a ∈ pre → leP a x:=by
  intro a ha
  rcases hs with h0 | ⟨x',y,hx,hy,hle⟩
  ·rw [h0] at h1
   rw [List.eq_nil_of_length_eq_zero h1] at ha
   simp at ha
  ·rw [e,get_mid h1] at hx
   injection hx with hx
   subst hx
   cases j with
   | zero => rw [List.eq_nil_of_length_eq_zero h1] at ha; simp at ha
   | succ j =>
     obtain ⟨l,y',rfl,hl⟩:=snoc_of h1
     have e2:l ++ [y'] ++ x :: (mid ++ suf) = l ++ y' :: x :: (mid ++ suf):=by simp
     rw [e,e2,show j + 1 - 1 = j by omega,get_mid hl] at hy
     injection hy with hy
     subst hy
     rcases List.mem_append.1 ha with ha | ha
     ·have h5:(l ++ y' :: mid).Pairwise leP:=by simpa using h3
      exact leP_trans ((List.pairwise_append.1 h5).2.2 a ha y' (by simp)) hle
     ·obtain rfl:a = y' := by simpa using ha
      exact hle
 rw [ht]
 have h6:=List.pairwise_append.1 h3
 refine List.pairwise_append.2 ⟨h6.1,List.pairwise_cons.2 ⟨h4,h6.2.1⟩,fun a ha b hb => ?_⟩
 rcases List.mem_cons.1 hb with rfl | hb
 ·exact hpre a ha
 ·exact h6.2.2 a ha b hb
end Go.Proofs.YtghdiolnonejaaaGreatDoor.Pl
end
