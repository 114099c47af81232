/-
 The texts Pcs.
-/
import Derived.Test.YtghdiolnonejaaaGreatDoorS00
import Derived.Test.YtghdiolnonejaaaGreatDoorS01
set_option linter.unusedVariables false
set_option linter.unusedSimpArgs false
section
namespace Go.Proofs.YtghdiolnonejaaaGreatDoor.Pl
def lx:List Int → List Int → Int
 | [],[] => 0
 | [],_ :: _ => -1
 | _ :: _,[] => 1
 | x :: l,y :: m => if x < y then -1 else if y < x then 1 else lx l m
theorem lx_self:∀ l,lx l l = 0
 | [] => rfl
 | x :: l => by unfold lx; rw [if_neg (by omega),if_neg (by omega),lx_self l]
theorem lx_eq:∀ {l m:List Int},lx l m = 0 → l = m
 | [],[],_ => rfl
 | [],_ :: _,h => by simp [lx] at h
 | _ :: _,[],h => by simp [lx] at h
 | x :: l, y :: m, h => by
   unfold lx at h
   by_cases h1:x < y
   ·rw [if_pos h1] at h; omega
   ·by_cases h2:y < x
    ·rw [if_neg h1,if_pos h2] at h; omega
    ·rw [if_neg h1,if_neg h2] at h
     rw [lx_eq h,show x = y by omega]
theorem lx_neg:∀ (l m:List Int),lx m l = - lx l m
 | [],[] => rfl
 | [],_ :: _ => rfl
 | _ :: _,[] => rfl
 | x :: l, y :: m => by
   unfold lx
   by_cases h1:x < y
   ·rw [if_pos h1,if_neg (by omega),if_pos h1]; rfl
   ·by_cases h2:y < x
    ·rw [if_pos h2,if_neg h1,if_pos h2]
    ·rw [if_neg h1,if_neg h2,if_neg h1,if_neg h2,lx_neg l m]
theorem lx_trans:∀ {l m k:List Int},lx l m ≤ 0 → lx m k ≤ 0 → lx l k ≤ 0
 | [],[],k,_,h => h
 | [],_ :: _,[],_,_ => by simp [lx]
 | [],_ :: _,_ :: _,_,_ => by simp [lx]
 | _ :: _,[],_,h,_ => by simp [lx] at h
 | _ :: _,_ :: _,[],_,h => by simp [lx] at h
 | x :: l, y :: m, z :: k, h1, h2 => by
   unfold lx at h1 h2 ⊢
   by_cases a1:x < y
   ·by_cases b1:y < z
    ·rw [if_pos (by omega)]; omega
    ·by_cases b2:z < y
     ·rw [if_neg b1,if_pos b2] at h2; omega
     ·rw [if_pos (by omega)]; omega
   ·by_cases a2:y < x
    ·rw [if_neg a1,if_pos a2] at h1; omega
    ·rw [if_neg a1,if_neg a2] at h1
     by_cases b1:y < z
     ·rw [if_pos (by omega)]; omega
     ·by_cases b2:z < y
      ·rw [if_neg b1,if_pos b2] at h2; omega
      ·rw [if_neg b1,if_neg b2] at h2
       rw [if_neg (by omega),if_neg (by omega)]; exact lx_trans h1 h2
theorem lx_anti {l m:List Int} (h1:lx l m ≤ 0) (h2:lx m l ≤ 0):l = m := lx_eq (by rw [lx_neg l m] at h2; omega)
theorem lx_app:∀ {l m:List Int},l.length = m.length → ∀ l' m',lx (l ++ l') (m ++ m') = if lx l m = 0 then lx l' m' else lx l m
 | [],[],_,l',m' => by simp [lx]
 | [],_ :: _,h,_,_ => by simp at h
 | _ :: _,[],h,_,_ => by simp at h
 | x :: l, y :: m, h, l', m' => by
   have ih:=lx_app (l := l) (m := m) (by simpa using h) l' m'
   have e:∀ (x y:Int) (l m:List Int),lx (x :: l) (y :: m) = if x < y then -1 else if y < x then 1 else lx l m:=fun _ _ _ _ => rfl
   rw [List.cons_append,List.cons_append,e,e]
   by_cases h1:x < y
   ·rw [if_pos h1,if_pos h1,if_neg (by omega)]
   ·by_cases h2:y < x
    ·rw [if_neg h1,if_pos h2,if_neg h1,if_pos h2,if_neg (by omega)]
    ·rw [if_neg h1,if_neg h2,if_neg h1,if_neg h2,ih]
def kle (c c':List Int):Prop := c.length < c'.length ∨ (c.length = c'.length ∧ lx c c' ≤ 0)
theorem kle_anti {c c':List Int} (h1:kle c c') (h2:kle c' c):c = c' := by
 rcases h1 with h1 | ⟨h1,h1'⟩ <;> rcases h2 with h2 | ⟨h2,h2'⟩
 ·omega
 ·omega
 ·omega
 ·exact lx_anti h1' h2'
theorem kle_trans {c c' c'':List Int} (h1:kle c c') (h2:kle c' c''):kle c c'' := by
 rcases h1 with h1 | ⟨h1,h1'⟩ <;> rcases h2 with h2 | ⟨h2,h2'⟩
 ·exact .inl (by omega)
 ·exact .inl (by omega)
 ·exact .inl (by omega)
 ·exact .inr ⟨by omega,lx_trans h1' h2'⟩
theorem kle_total (c c':List Int):kle c c' ∨ kle c' c := by
 rcases Nat.lt_trichotomy c.length c'.length with h | h | h
 ·exact .inl (.inl h)
 ·rcases Int.le_total (lx c c') 0 with h1 | h1
  ·exact .inl (.inr ⟨h,h1⟩)
  ·exact .inr (.inr ⟨h.symm,by rw [lx_neg c c']; omega⟩)
 ·exact .inr (.inl h)
structure Pc where
 code:List Int
 order:List Nat
 roots:Int
def PcOk (d:Dg) (p:Pc):Prop := ∃ r,r < d.n ∧ p.code = code d r ∧ p.order = ord d r ∧ ∀ q,Comp d r q → lx (code d r) (code d q) ≤ 0
structure Pcs (d:Dg) (ps:List Pc):Prop where
 ok:∀ p,p ∈ ps → PcOk d p
 nd:(ps.flatMap Pc.order).Nodup
 all:∀ c,c < d.n → ∃ p,p ∈ ps ∧ c ∈ p.order
def Srt (ps:List Pc):Prop := ps.Pairwise (fun p q => kle p.code q.code)
def pcode (lp:Nat) (ps:List Pc):List Int := (lp:Int) :: (ps.length:Int) :: ps.flatMap (fun p => (p.order.length:Int) :: p.code)
theorem Pcs.uniq {d:Dg} {ps:List Pc} (h:Pcs d ps) {i j c:Nat} {p q:Pc} (hi:ps[i]? = some p) (hj:ps[j]? = some q) (hp:c ∈ p.order) (hq:c ∈ q.order):i = j := by
 have h1:=(List.pairwise_flatMap.1 h.nd).2
 rw [List.pairwise_iff_getElem] at h1
 obtain ⟨li,ei⟩:=List.getElem?_eq_some_iff.1 hi
 obtain ⟨lj,ej⟩:=List.getElem?_eq_some_iff.1 hj
 rcases Nat.lt_trichotomy i j with e | e | e
 ·exact absurd rfl (h1 i j li lj e c (by rw [ei]; exact hp) c (by rw [ej]; exact hq))
 ·exact e
 ·exact absurd rfl (h1 j i lj li e c (by rw [ej]; exact hq) c (by rw [ei]; exact hp))
theorem Pcs.at_ {d:Dg} {ps:List Pc} (h:Pcs d ps) {c:Nat} (hc:c < d.n):∃ (i:Nat) (p:Pc),ps[i]? = some p ∧ c ∈ p.order := by
 obtain ⟨p,hp,hm⟩:=h.all c hc
 obtain ⟨i,hi,rfl⟩:=List.getElem_of_mem hp
 exact ⟨i,_,List.getElem?_eq_getElem hi,hm⟩
theorem PcOk.len {d:Dg} {p:Pc} (h:PcOk d p):p.code.length = 5 * p.order.length := by
 obtain ⟨r,_,e1,e2,_⟩:=h
 rw [e1,e2,code_len]
theorem perm_of_corr {α:Type}:∀ (K L:List α) (π:Nat → Nat),(∀ i,i < K.length → π i < L.length ∧ L[π i]? = K[i]?) → (∀ i j,i < K.length → j < K.length → π i = π j → i = j) → ∃ r,L.Perm (K ++ r)
 | [],L,_,_,_ => ⟨L,by simp⟩
 | k :: K, L, π, h, hinj => by
   obtain ⟨hl,he⟩:=h 0 (by simp)
   have he':L[π 0] = k:=by
    rw [List.getElem?_eq_getElem hl] at he
    simpa using he
   have hL:L.Perm (k :: L.eraseIdx (π 0)):=by
    have h1:L = L.take (π 0) ++ k :: L.drop (π 0 + 1):=by
     conv => lhs; rw [← List.take_append_drop (π 0) L]
     rw [List.drop_eq_getElem_cons hl,he']
    have h2:L.eraseIdx (π 0) = L.take (π 0) ++ L.drop (π 0 + 1):=List.eraseIdx_eq_take_drop_succ _ _
    rw [h2]
    conv => lhs; rw [h1]
    exact List.perm_middle
   have hlen:(L.eraseIdx (π 0)).length + 1 = L.length:=by rw [List.length_eraseIdx,if_pos hl]; omega
   have key:∀ i,i < K.length → π (i + 1) ≠ π 0:=fun i hi e => by
    have:=hinj (i + 1) 0 (by simp; omega) (by simp) e
    omega
   obtain ⟨r,hr⟩:=perm_of_corr K (L.eraseIdx (π 0)) (fun i => if π (i + 1) < π 0 then π (i + 1) else π (i + 1) - 1) (fun i hi => by
    obtain ⟨h1,h2⟩:=h (i + 1) (by simp; omega)
    have hne:=key i hi
    rw [List.getElem?_cons_succ] at h2
    by_cases e:π (i + 1) < π 0
    ·simp only [if_pos e]
     exact ⟨by omega,by rw [List.getElem?_eraseIdx_of_lt e,h2]⟩
    ·simp only [if_neg e]
     refine ⟨by omega,?_⟩
     rw [List.getElem?_eraseIdx_of_ge (by omega),show π (i + 1) - 1 + 1 = π (i + 1) by omega,h2]) (fun i j hi hj e => by
    have hne1:=key i hi
    have hne2:=key j hj
    have:π (i + 1) = π (j + 1):=by
     split at e <;> split at e <;> omega
    have:=hinj (i + 1) (j + 1) (by simp; omega) (by simp; omega) this
    omega)
   exact ⟨r,hL.trans (hr.cons k)⟩
section
variable {a b:Dg} {ps qs:List Pc} {σ:Nat → Nat}
theorem Pcs.corr (I:Iso a b σ) (ha:Wf a) (hb:Wf b) (hp:Pcs a ps) (hq:Pcs b qs):ps.length ≤ qs.length ∧ ∃ r,(qs.map Pc.code).Perm (ps.map Pc.code ++ r) := by
 obtain ⟨τ,J,t1,t2⟩:=I.symm ha
 have hw:∀ i,∃ j,i < ps.length → ∃ (p q:Pc),ps[i]? = some p ∧ qs[j]? = some q ∧ p.code = q.code ∧ ∃ r,r ∈ p.order ∧ σ r ∈ q.order ∧ r < a.n:=fun i => by
  by_cases hi:i < ps.length
  ·obtain ⟨r,hr,e1,e2,hl⟩:=hp.ok _ (List.getElem_mem hi)
   have hsr:σ r < b.n:=by rw [← I.n]; exact I.lt r hr
   obtain ⟨j,q,hj,hm⟩:=hq.at_ hsr
   refine ⟨j,fun _ => ⟨_,q,List.getElem?_eq_getElem hi,hj,?_,r,by rw [e2]; exact (ord_ok ha hr).root,hm,hr⟩⟩
   obtain ⟨r',hr',f1,f2,fl⟩:=hq.ok q (List.mem_of_getElem? hj)
   rw [f2,ord_mem hb hr'] at hm
   have k1:lx (code b r') (code b (σ r)) ≤ 0:=fl _ hm
   have ht:τ r' < a.n:=by rw [I.n]; exact J.lt r' hr'
   have k2:Comp a r (τ r'):=by
    have:Comp b (σ r) (σ (τ r')):=by rw [t2 r' (by rw [I.n]; exact hr')]; exact comp_symm hb hr' hm
    exact (I.comp ha hb hr ht).1 this
   have k3:=hl _ k2
   rw [I.code ha hr] at k1
   rw [J.code hb hr'] at k3
   rw [e1,f1]
   exact lx_anti k3 k1
  ·exact ⟨0,fun h => absurd h hi⟩
 let π := fun i => Classical.choose (hw i)
 have h1:∀ i,i < ps.length → ∃ (p q:Pc),ps[i]? = some p ∧ qs[π i]? = some q ∧ p.code = q.code ∧ ∃ r,r ∈ p.order ∧ σ r ∈ q.order ∧ r < a.n:=fun i hi => Classical.choose_spec (hw i) hi
 have hlt:∀ i,i < ps.length → π i < qs.length:=fun i hi => by
  obtain ⟨p,q,_,h,_⟩:=h1 i hi
  exact (List.getElem?_eq_some_iff.1 h).1
 have hinj:∀ i j,i < ps.length → j < ps.length → π i = π j → i = j:=fun i j hi hj e => by
  obtain ⟨p,q,e1,e2,_,r,m1,m2,hr⟩:=h1 i hi
  obtain ⟨p',q',f1,f2,_,r',n1,n2,hr'⟩:=h1 j hj
  rw [e] at e2
  rw [e2] at f2
  injection f2 with f2
  subst f2
  obtain ⟨x,hx,x1,x2,_⟩:=hq.ok q (List.mem_of_getElem? e2)
  rw [x2,ord_mem hb hx] at m2 n2
  have k1:Comp a r r':=(I.comp ha hb hr hr').1 ((comp_symm hb hx m2).trans n2)
  obtain ⟨y,hy,y1,y2,_⟩:=hp.ok p (List.mem_of_getElem? e1)
  refine hp.uniq (c := r') e1 f1 ?_ n1
  rw [y2,ord_mem ha hy] at m1 ⊢
  exact m1.trans k1
 refine ⟨pigeon _ _ π hlt hinj,perm_of_corr _ _ π (fun i hi => ?_) (fun i j hi hj e => hinj i j (by simpa using hi) (by simpa using hj) e)⟩
 rw [List.length_map] at hi
 obtain ⟨p,q,e1,e2,e3,_⟩:=h1 i hi
 refine ⟨by rw [List.length_map]; exact hlt i hi,?_⟩
 rw [List.getElem?_map,List.getElem?_map,e1,e2]
 simp [e3]
theorem codes_eq (I:Iso a b σ) (ha:Wf a) (hb:Wf b) (hp:Pcs a ps) (hq:Pcs b qs) (sp:Srt ps) (sq:Srt qs):ps.map Pc.code = qs.map Pc.code := by
 obtain ⟨τ,J,_,_⟩:=I.symm ha
 obtain ⟨l1,r,hr⟩:=hp.corr I ha hb hq
 obtain ⟨l2,_⟩:=hq.corr J hb ha hp
 have:r = []:=by
  have:=hr.length_eq
  rw [List.length_append,List.length_map,List.length_map] at this
  exact List.length_eq_zero_iff.1 (by omega)
 subst this
 rw [List.append_nil] at hr
 exact (List.Perm.eq_of_pairwise (le := kle) (fun x y _ _ h1 h2 => kle_anti h1 h2) (by rw [List.pairwise_map]; exact sq) (by rw [List.pairwise_map]; exact sp) hr).symm
theorem pcode_of {d:Dg} {ps:List Pc} (h:Pcs d ps) (lp:Nat):pcode lp ps = (lp:Int) :: ((ps.map Pc.code).length:Int) :: (ps.map Pc.code).flatMap (fun c => ((c.length / 5:Nat):Int) :: c) := by
 unfold pcode
 rw [List.length_map]
 congr 2
 have:∀ (l:List Pc),(∀ p,p ∈ l → PcOk d p) → l.flatMap (fun p => (p.order.length:Int) :: p.code) = (l.map Pc.code).flatMap (fun c => ((c.length / 5:Nat):Int) :: c):=by
  intro l
  induction l with
  | nil => intro _; rfl
  | cons p l ih =>
    intro hl
    rw [List.map_cons,List.flatMap_cons,List.flatMap_cons,ih (fun q hq => hl q (by simp [hq])),(hl p (by simp)).len,show 5 * p.order.length / 5 = p.order.length by omega]
 exact this ps h.ok
theorem Iso.pcode (I:Iso a b σ) (ha:Wf a) (hb:Wf b) (hp:Pcs a ps) (hq:Pcs b qs) (sp:Srt ps) (sq:Srt qs):Pl.pcode a.lp ps = Pl.pcode b.lp qs := by
 rw [pcode_of hp,pcode_of hq,codes_eq I ha hb hp hq sp sq,I.lp]
theorem codes_of {ps qs:List Pc} (h:∀ p,p ∈ ps → p.code.length = 5 * p.order.length) (h':∀ p,p ∈ qs → p.code.length = 5 * p.order.length):ps.flatMap (fun p => (p.order.length:Int) :: p.code) = qs.flatMap (fun p => (p.order.length:Int) :: p.code) → ps.length = qs.length → ps.map Pc.code = qs.map Pc.code := by
 induction ps generalizing qs with
 | nil =>
   intro _ hl
   rw [List.length_nil] at hl
   rw [List.length_eq_zero_iff.1 hl.symm]
 | cons p ps ih =>
   cases qs with
   | nil => intro _ hl; simp at hl
   | cons q qs =>
     intro he hl
     rw [List.flatMap_cons,List.flatMap_cons,List.cons_append,List.cons_append] at he
     injection he with h1 h2
     have hlen:p.code.length = q.code.length:=by rw [h p (by simp),h' q (by simp)]; omega
     obtain ⟨h3,h4⟩:=List.append_inj h2 hlen
     rw [List.map_cons,List.map_cons,h3,ih (fun x hx => h x (by simp [hx])) (fun x hx => h' x (by simp [hx])) h4 (by simpa using hl)]
theorem iso_of_code (ha:Wf a) (hb:Wf b) (hp:Pcs a ps) (hq:Pcs b qs) (h:Pl.pcode a.lp ps = Pl.pcode b.lp qs):∃ σ,Iso a b σ := by
 unfold Pl.pcode at h
 injection h with hlp h
 injection h with hlen h
 have hlen':ps.length = qs.length:=by omega
 have hc:=codes_of (fun p hp' => (hp.ok p hp').len) (fun p hq' => (hq.ok p hq').len) h hlen'
 have hci:∀ (i:Nat) (p q:Pc),ps[i]? = some p → qs[i]? = some q → p.code = q.code:=fun i p q h1 h2 => by
  have:=congrArg (fun l => l[i]?) hc
  simpa [List.getElem?_map,h1,h2] using this
 -- crossings that have the same place
 have ex:∀ c,∃ c',c < a.n → ∃ (i k:Nat) (p q:Pc),ps[i]? = some p ∧ qs[i]? = some q ∧ p.order[k]? = some c ∧ q.order[k]? = some c':=fun c => by
  by_cases hcn:c < a.n
  ·obtain ⟨i,p,hi,hm⟩:=hp.at_ hcn
   obtain ⟨k,hk,rfl⟩:=List.getElem_of_mem hm
   have hil:=(List.getElem?_eq_some_iff.1 hi).1
   have hq':qs[i]? = some (qs[i]'(by omega)):=List.getElem?_eq_getElem (by omega)
   have e:=hci i p _ hi hq'
   have l1:=(hp.ok p (List.mem_of_getElem? hi)).len
   have l2:=(hq.ok _ (List.mem_of_getElem? hq')).len
   rw [e] at l1
   exact ⟨(qs[i]'(by omega)).order[k]'(by omega),fun _ => ⟨i,k,p,_,hi,hq',List.getElem?_eq_getElem hk,List.getElem?_eq_getElem (by omega)⟩⟩
  ·exact ⟨0,fun h => absurd h hcn⟩
 let σ := fun c => Classical.choose (ex c)
 have hσ:∀ c,c < a.n → ∃ (i k:Nat) (p q:Pc),ps[i]? = some p ∧ qs[i]? = some q ∧ p.order[k]? = some c ∧ q.order[k]? = some (σ c):=fun c hc => Classical.choose_spec (ex c) hc
 have pnd:∀ (d:Dg) (_:Wf d) (p:Pc),PcOk d p → p.order.Nodup:=fun d hd p h => by
  obtain ⟨r,hr,_,e,_⟩:=h
  rw [e]; exact (ord_ok hd hr).nd
 have one:∀ (o:List Nat) (k k' c:Nat),o.Nodup → o[k]? = some c → o[k']? = some c → k = k':=fun o k k' c hn h1 h2 => by
  obtain ⟨l1,e1⟩:=List.getElem?_eq_some_iff.1 h1
  obtain ⟨l2,e2⟩:=List.getElem?_eq_some_iff.1 h2
  exact (List.getElem_inj hn).1 (e1.trans e2.symm)
 -- the place decides
 have fit:∀ c (i k:Nat) (p q:Pc) (c':Nat),c < a.n → ps[i]? = some p → qs[i]? = some q → p.order[k]? = some c → q.order[k]? = some c' → σ c = c':=fun c i k p q c' hc h1 h2 h3 h4 => by
  obtain ⟨i2,k2,p2,q2,g1,g2,g3,g4⟩:=hσ c hc
  obtain rfl := hp.uniq h1 g1 (List.mem_of_getElem? h3) (List.mem_of_getElem? g3)
  rw [h1] at g1; injection g1 with g1; subst g1
  rw [h2] at g2; injection g2 with g2; subst g2
  obtain rfl := one _ k k2 c (pnd a ha p (hp.ok p (List.mem_of_getElem? h1))) h3 g3
  rw [h4] at g4; injection g4 with g4; exact g4.symm
 have blt:∀ (q:Pc) (c:Nat),q ∈ qs → c ∈ q.order → c < b.n:=fun q c h1 h2 => by
  obtain ⟨r,hr,_,e,_⟩:=hq.ok q h1
  rw [e] at h2
  exact ((ord_ok hb hr).mem c h2).1
 have inj:∀ c c',c < a.n → c' < a.n → σ c = σ c' → c = c':=fun c c' hc hc' e => by
  obtain ⟨i,k,p,q,h1,h2,h3,h4⟩:=hσ c hc
  obtain ⟨i2,k2,p2,q2,g1,g2,g3,g4⟩:=hσ c' hc'
  rw [← e] at g4
  obtain rfl := hq.uniq h2 g2 (List.mem_of_getElem? h4) (List.mem_of_getElem? g4)
  rw [h1] at g1; injection g1 with g1; subst g1
  rw [h2] at g2; injection g2 with g2; subst g2
  obtain rfl := one _ k k2 _ (pnd b hb q (hq.ok q (List.mem_of_getElem? h2))) h4 g4
  rw [h3] at g3; injection g3
 have lt:∀ c,c < a.n → σ c < b.n:=fun c hc => by
  obtain ⟨i,k,p,q,h1,h2,h3,h4⟩:=hσ c hc
  exact blt q _ (List.mem_of_getElem? h2) (List.mem_of_getElem? h4)
 have hn:a.n = b.n:=by
  have l1:=pigeon a.n b.n σ lt inj
  have back:∀ c',∃ c,c' < b.n → c < a.n ∧ σ c = c':=fun c' => by
   by_cases hc':c' < b.n
   ·obtain ⟨i,q,hi,hm⟩:=hq.at_ hc'
    obtain ⟨k,hk,rfl⟩:=List.getElem_of_mem hm
    have hil:=(List.getElem?_eq_some_iff.1 hi).1
    have hp':ps[i]? = some (ps[i]'(by omega)):=List.getElem?_eq_getElem (by omega)
    have e:=hci i _ q hp' hi
    have l1:=(hp.ok _ (List.mem_of_getElem? hp')).len
    have l2:=(hq.ok q (List.mem_of_getElem? hi)).len
    rw [e] at l1
    have hk':k < (ps[i]'(by omega)).order.length:=by omega
    obtain ⟨r,hr,_,eo,_⟩:=hp.ok _ (List.mem_of_getElem? hp')
    have hlt:(ps[i]'(by omega)).order[k] < a.n:=by
     have:(ps[i]'(by omega)).order[k] ∈ ord a r:=by rw [← eo]; exact List.getElem_mem hk'
     exact ((ord_ok ha hr).mem _ this).1
    exact ⟨_,fun _ => ⟨hlt,fit _ i k _ q _ hlt hp' hi (List.getElem?_eq_getElem hk') (List.getElem?_eq_getElem hk)⟩⟩
   ·exact ⟨0,fun h => absurd h hc'⟩
  have l2:=pigeon b.n a.n (fun c' => Classical.choose (back c')) (fun c' hc' => (Classical.choose_spec (back c') hc').1) (fun x y hx hy e => by
   have e1:=(Classical.choose_spec (back x) hx).2
   have e2:=(Classical.choose_spec (back y) hy).2
   have e':Classical.choose (back x) = Classical.choose (back y):=e
   rw [← e1,← e2,e'])
  omega
 -- what is read at a crossing
 have rd:∀ c,c < a.n → ∃ (o o':List Nat),chk a o c = chk b o' (σ c) ∧ o.Nodup ∧ o'.Nodup ∧ (∀ t,t < 4 → nb a c t ∈ o ∧ nb b (σ c) t ∈ o') ∧ (∀ (j x x':Nat),o[j]? = some x → o'[j]? = some x' → σ x = x'):=fun c hc => by
  obtain ⟨i,k,p,q,h1,h2,h3,h4⟩:=hσ c hc
  obtain ⟨r,hr,c1,o1,_⟩:=hp.ok p (List.mem_of_getElem? h1)
  obtain ⟨r',hr',c2,o2,_⟩:=hq.ok q (List.mem_of_getElem? h2)
  have e:=hci i p q h1 h2
  rw [c1,c2] at e
  unfold code at e
  rw [o1] at h3
  rw [o2] at h4
  refine ⟨ord a r,ord b r',(flat5_eq e).2 k c _ h3 h4,(ord_ok ha hr).nd,(ord_ok hb hr').nd,fun t ht => ⟨?_,?_⟩,fun j x x' hx hx' => ?_⟩
  ·exact (ord_ok ha hr).done k c (List.getElem?_eq_some_iff.1 h3).1 h3 t ht
  ·exact (ord_ok hb hr').done k _ (List.getElem?_eq_some_iff.1 h4).1 h4 t ht
  ·exact fit x i j p q x' ((ord_ok ha hr).mem x (List.mem_of_getElem? hx)).1 h1 h2 (by rw [o1]; exact hx) (by rw [o2]; exact hx')
 refine ⟨σ,hn,by omega,fun c hc => by rw [hn]; exact lt c hc,inj,fun c hc => ?_,fun h hh => ?_⟩
 ·obtain ⟨o,o',e,_⟩:=rd c hc
  unfold chk at e
  injection e with e
  exact e.symm
 ·have hc:h / 4 < a.n:=by omega
  obtain ⟨o,o',e,nd,nd',mem,pl⟩:=rd (h / 4) hc
  have key:∀ t,t < 4 → 4 * o.idxOf (nb a (h / 4) t) + a.m (4 * (h / 4) + t) % 4 = 4 * o'.idxOf (nb b (σ (h / 4)) t) + b.m (4 * σ (h / 4) + t) % 4:=by
   unfold chk at e
   injection e with _ e
   injection e with e0 e
   injection e with e1 e
   injection e with e2 e
   injection e with e3 _
   intro t ht
   have:t = 0 ∨ t = 1 ∨ t = 2 ∨ t = 3:=by omega
   rcases this with rfl | rfl | rfl | rfl
   ·rw [Nat.add_zero,Nat.add_zero]; omega
   ·omega
   ·omega
   ·omega
  have k:=key (h % 4) (by omega)
  rw [show 4 * (h / 4) + h % 4 = h by omega] at k
  have hm:=mem (h % 4) (by omega)
  have hnb:nb a (h / 4) (h % 4) = a.m h / 4:=by unfold nb; rw [show 4 * (h / 4) + h % 4 = h by omega]
  have hnb':nb b (σ (h / 4)) (h % 4) = b.m (hf σ h) / 4:=rfl
  have k1:o.idxOf (nb a (h / 4) (h % 4)) = o'.idxOf (nb b (σ (h / 4)) (h % 4)):=by omega
  have k2:a.m h % 4 = b.m (hf σ h) % 4:=by show _ = b.m (4 * σ (h / 4) + h % 4) % 4; omega
  have g1:=List.idxOf_lt_length_of_mem hm.1
  have g2:=List.idxOf_lt_length_of_mem hm.2
  have k3:=pl (o.idxOf (nb a (h / 4) (h % 4))) _ _ (by rw [List.getElem?_eq_getElem g1,List.getElem_idxOf]) (by rw [k1,List.getElem?_eq_getElem g2,List.getElem_idxOf])
  rw [hnb,hnb'] at k3
  unfold hf at k2 k3 ⊢
  rw [k3]
  omega
end
end Go.Proofs.YtghdiolnonejaaaGreatDoor.Pl
end
