/-
 The texts Pcs, Va, Num, We, Wf, Wg, Wb, Sph in one.
-/
import Derived.Test.YtcaoblilkgajoaaDoorF01
import Derived.Test.YtcaoblilkgajoaaDoorShelf
import Derived.Deep.RegionWith
import Derived.Deep.RegionHeld3
import Derived.Deep.DrawnRows
import Derived.StillTailTactics
import Derived.Test.YtcaoblilkgajoaaDoorF00
import Derived.Deep.LoopGhost
set_option linter.unusedVariables false
set_option linter.unusedSimpArgs false
section
namespace Go.Proofs.YtcaoblilkgajoaaDoor.Pl
def lx : List Int → List Int → Int
 | [], [] => 0
 | [], _ :: _ => -1
 | _ :: _, [] => 1
 | x :: l, y :: m => if x < y then -1 else if y < x then 1 else lx l m
theorem lx_self : ∀ l, lx l l = 0
 | [] => rfl
 | x :: l => by unfold lx; rw [if_neg (by omega), if_neg (by omega), lx_self l]
theorem lx_eq : ∀ {l m : List Int}, lx l m = 0 → l = m
 | [], [], _ => rfl
 | [], _ :: _, h => by simp [lx] at h
 | _ :: _, [], h => by simp [lx] at h
 | x :: l, y :: m, h => by
   unfold lx at h
   by_cases h1 : x < y
   ·rw [if_pos h1] at h; omega
   ·by_cases h2 : y < x
    ·rw [if_neg h1, if_pos h2] at h; omega
    ·rw [if_neg h1, if_neg h2] at h
     rw [lx_eq h, show x = y by omega]
theorem lx_neg : ∀ (l m : List Int), lx m l = - lx l m
 | [], [] => rfl
 | [], _ :: _ => rfl
 | _ :: _, [] => rfl
 | x :: l, y :: m => by
   unfold lx
   by_cases h1 : x < y
   ·rw [if_pos h1, if_neg (by omega), if_pos h1]; rfl
   ·by_cases h2 : y < x
    ·rw [if_pos h2, if_neg h1, if_pos h2]
    ·rw [if_neg h1, if_neg h2, if_neg h1, if_neg h2, lx_neg l m]
theorem lx_trans : ∀ {l m k : List Int}, lx l m ≤ 0 → lx m k ≤ 0 → lx l k ≤ 0
 | [], [], k, _, h => h
 | [], _ :: _, [], _, _ => by simp [lx]
 | [], _ :: _, _ :: _, _, _ => by simp [lx]
 | _ :: _, [], _, h, _ => by simp [lx] at h
 | _ :: _, _ :: _, [], _, h => by simp [lx] at h
 | x :: l, y :: m, z :: k, h1, h2 => by
   unfold lx at h1 h2 ⊢
   by_cases a1 : x < y
   ·by_cases b1 : y < z
    ·rw [if_pos (by omega)]; omega
    ·by_cases b2 : z < y
     ·rw [if_neg b1, if_pos b2] at h2; omega
     ·rw [if_pos (by omega)]; omega
   ·by_cases a2 : y < x
    ·rw [if_neg a1, if_pos a2] at h1; omega
    ·rw [if_neg a1, if_neg a2] at h1
     by_cases b1 : y < z
     ·rw [if_pos (by omega)]; omega
     ·by_cases b2 : z < y
      ·rw [if_neg b1, if_pos b2] at h2; omega
      ·rw [if_neg b1, if_neg b2] at h2
       rw [if_neg (by omega), if_neg (by omega)]; exact lx_trans h1 h2
theorem lx_anti {l m : List Int} (h1 : lx l m ≤ 0) (h2 : lx m l ≤ 0) : l = m := lx_eq (by rw [lx_neg l m] at h2; omega)
theorem lx_app : ∀ {l m : List Int}, l.length = m.length → ∀ l' m', lx (l ++ l') (m ++ m') = if lx l m = 0 then lx l' m' else lx l m
 | [], [], _, l', m' => by simp [lx]
 | [], _ :: _, h, _, _ => by simp at h
 | _ :: _, [], h, _, _ => by simp at h
 | x :: l, y :: m, h, l', m' => by
   have ih := lx_app (l := l) (m := m) (by simpa using h) l' m'
   have e : ∀ (x y : Int) (l m : List Int), lx (x :: l) (y :: m) = if x < y then -1 else if y < x then 1 else lx l m := fun _ _ _ _ => rfl
   rw [List.cons_append, List.cons_append, e, e]
   by_cases h1 : x < y
   ·rw [if_pos h1, if_pos h1, if_neg (by omega)]
   ·by_cases h2 : y < x
    ·rw [if_neg h1, if_pos h2, if_neg h1, if_pos h2, if_neg (by omega)]
    ·rw [if_neg h1, if_neg h2, if_neg h1, if_neg h2, ih]
def kle (c c' : List Int) : Prop := c.length < c'.length ∨ (c.length = c'.length ∧ lx c c' ≤ 0)
theorem kle_anti {c c' : List Int} (h1 : kle c c') (h2 : kle c' c) : c = c' := by
 rcases h1 with h1 | ⟨h1, h1'⟩ <;> rcases h2 with h2 | ⟨h2, h2'⟩
 ·omega
 ·omega
 ·omega
 ·exact lx_anti h1' h2'
theorem kle_trans {c c' c'' : List Int} (h1 : kle c c') (h2 : kle c' c'') : kle c c'' := by
 rcases h1 with h1 | ⟨h1, h1'⟩ <;> rcases h2 with h2 | ⟨h2, h2'⟩
 ·exact .inl (by omega)
 ·exact .inl (by omega)
 ·exact .inl (by omega)
 ·exact .inr ⟨by omega, lx_trans h1' h2'⟩
theorem kle_total (c c' : List Int) : kle c c' ∨ kle c' c := by
 rcases Nat.lt_trichotomy c.length c'.length with h | h | h
 ·exact .inl (.inl h)
 ·rcases Int.le_total (lx c c') 0 with h1 | h1
  ·exact .inl (.inr ⟨h, h1⟩)
  ·exact .inr (.inr ⟨h.symm, by rw [lx_neg c c']; omega⟩)
 ·exact .inr (.inl h)
structure Pc where
 code : List Int
 order : List Nat
 roots : Int
def PcOk (d : Dg) (p : Pc) : Prop := ∃ r, r < d.n ∧ p.code = code d r ∧ p.order = ord d r ∧ ∀ q, Comp d r q → lx (code d r) (code d q) ≤ 0
structure Pcs (d : Dg) (ps : List Pc) : Prop where
 ok : ∀ p, p ∈ ps → PcOk d p
 nd : (ps.flatMap Pc.order).Nodup
 all : ∀ c, c < d.n → ∃ p, p ∈ ps ∧ c ∈ p.order
def Srt (ps : List Pc) : Prop := ps.Pairwise (fun p q => kle p.code q.code)
def pcode (lp : Nat) (ps : List Pc) : List Int := (lp : Int) :: (ps.length : Int) :: ps.flatMap (fun p => (p.order.length : Int) :: p.code)
theorem Pcs.uniq {d : Dg} {ps : List Pc} (h : Pcs d ps) {i j c : Nat} {p q : Pc} (hi : ps[i]? = some p) (hj : ps[j]? = some q) (hp : c ∈ p.order) (hq : c ∈ q.order) : i = j := by
 have h1 := (List.pairwise_flatMap.1 h.nd).2
 rw [List.pairwise_iff_getElem] at h1
 obtain ⟨li, ei⟩ := List.getElem?_eq_some_iff.1 hi
 obtain ⟨lj, ej⟩ := List.getElem?_eq_some_iff.1 hj
 rcases Nat.lt_trichotomy i j with e | e | e
 ·exact absurd rfl (h1 i j li lj e c (by rw [ei]; exact hp) c (by rw [ej]; exact hq))
 ·exact e
 ·exact absurd rfl (h1 j i lj li e c (by rw [ej]; exact hq) c (by rw [ei]; exact hp))
theorem Pcs.at_ {d : Dg} {ps : List Pc} (h : Pcs d ps) {c : Nat} (hc : c < d.n) : ∃ (i : Nat) (p : Pc), ps[i]? = some p ∧ c ∈ p.order := by
 obtain ⟨p, hp, hm⟩ := h.all c hc
 obtain ⟨i, hi, rfl⟩ := List.getElem_of_mem hp
 exact ⟨i, _, List.getElem?_eq_getElem hi, hm⟩
theorem PcOk.len {d : Dg} {p : Pc} (h : PcOk d p) : p.code.length = 5 * p.order.length := by
 obtain ⟨r, _, e1, e2, _⟩ := h
 rw [e1, e2, code_len]
theorem perm_of_corr {α : Type} : ∀ (K L : List α) (π : Nat → Nat), (∀ i, i < K.length → π i < L.length ∧ L[π i]? = K[i]?) → (∀ i j, i < K.length → j < K.length → π i = π j → i = j) → ∃ r, L.Perm (K ++ r)
 | [], L, _, _, _ => ⟨L, by simp⟩
 | k :: K, L, π, h, hinj => by
   obtain ⟨hl, he⟩ := h 0 (by simp)
   have he' : L[π 0] = k := by
    rw [List.getElem?_eq_getElem hl] at he
    simpa using he
   have hL : L.Perm (k :: L.eraseIdx (π 0)) := by
    have h1 : L = L.take (π 0) ++ k :: L.drop (π 0 + 1) := by
     conv => lhs; rw [← List.take_append_drop (π 0) L]
     rw [List.drop_eq_getElem_cons hl, he']
    have h2 : L.eraseIdx (π 0) = L.take (π 0) ++ L.drop (π 0 + 1) := List.eraseIdx_eq_take_drop_succ _ _
    rw [h2]
    conv => lhs; rw [h1]
    exact List.perm_middle
   have hlen : (L.eraseIdx (π 0)).length + 1 = L.length := by rw [List.length_eraseIdx, if_pos hl]; omega
   have key : ∀ i, i < K.length → π (i + 1) ≠ π 0 := fun i hi e => by
    have := hinj (i + 1) 0 (by simp; omega) (by simp) e
    omega
   obtain ⟨r, hr⟩ := perm_of_corr K (L.eraseIdx (π 0)) (fun i => if π (i + 1) < π 0 then π (i + 1) else π (i + 1) - 1) (fun i hi => by
    obtain ⟨h1, h2⟩ := h (i + 1) (by simp; omega)
    have hne := key i hi
    rw [List.getElem?_cons_succ] at h2
    by_cases e : π (i + 1) < π 0
    ·simp only [if_pos e]
     exact ⟨by omega, by rw [List.getElem?_eraseIdx_of_lt e, h2]⟩
    ·simp only [if_neg e]
     refine ⟨by omega, ?_⟩
     rw [List.getElem?_eraseIdx_of_ge (by omega), show π (i + 1) - 1 + 1 = π (i + 1) by omega, h2]) (fun i j hi hj e => by
    have hne1 := key i hi
    have hne2 := key j hj
    have : π (i + 1) = π (j + 1) := by
     split at e <;> split at e <;> omega
    have := hinj (i + 1) (j + 1) (by simp; omega) (by simp; omega) this
    omega)
   exact ⟨r, hL.trans (hr.cons k)⟩
section
variable {a b : Dg} {ps qs : List Pc} {σ : Nat → Nat}
theorem Pcs.corr (I : Iso a b σ) (ha : Wf a) (hb : Wf b) (hp : Pcs a ps) (hq : Pcs b qs) : ps.length ≤ qs.length ∧ ∃ r, (qs.map Pc.code).Perm (ps.map Pc.code ++ r) := by
 obtain ⟨τ, J, t1, t2⟩ := I.symm ha
 have hw : ∀ i, ∃ j, i < ps.length → ∃ (p q : Pc), ps[i]? = some p ∧ qs[j]? = some q ∧ p.code = q.code ∧ ∃ r, r ∈ p.order ∧ σ r ∈ q.order ∧ r < a.n := fun i => by
  by_cases hi : i < ps.length
  ·obtain ⟨r, hr, e1, e2, hl⟩ := hp.ok _ (List.getElem_mem hi)
   have hsr : σ r < b.n := by rw [← I.n]; exact I.lt r hr
   obtain ⟨j, q, hj, hm⟩ := hq.at_ hsr
   refine ⟨j, fun _ => ⟨_, q, List.getElem?_eq_getElem hi, hj, ?_, r, by rw [e2]; exact (ord_ok ha hr).root, hm, hr⟩⟩
   obtain ⟨r', hr', f1, f2, fl⟩ := hq.ok q (List.mem_of_getElem? hj)
   rw [f2, ord_mem hb hr'] at hm
   have k1 : lx (code b r') (code b (σ r)) ≤ 0 := fl _ hm
   have ht : τ r' < a.n := by rw [I.n]; exact J.lt r' hr'
   have k2 : Comp a r (τ r') := by
    have : Comp b (σ r) (σ (τ r')) := by rw [t2 r' (by rw [I.n]; exact hr')]; exact comp_symm hb hr' hm
    exact (I.comp ha hb hr ht).1 this
   have k3 := hl _ k2
   rw [I.code ha hr] at k1
   rw [J.code hb hr'] at k3
   rw [e1, f1]
   exact lx_anti k3 k1
  ·exact ⟨0, fun h => absurd h hi⟩
 let π := fun i => Classical.choose (hw i)
 have h1 : ∀ i, i < ps.length → ∃ (p q : Pc), ps[i]? = some p ∧ qs[π i]? = some q ∧ p.code = q.code ∧ ∃ r, r ∈ p.order ∧ σ r ∈ q.order ∧ r < a.n := fun i hi => Classical.choose_spec (hw i) hi
 have hlt : ∀ i, i < ps.length → π i < qs.length := fun i hi => by
  obtain ⟨p, q, _, h, _⟩ := h1 i hi
  exact (List.getElem?_eq_some_iff.1 h).1
 have hinj : ∀ i j, i < ps.length → j < ps.length → π i = π j → i = j := fun i j hi hj e => by
  obtain ⟨p, q, e1, e2, _, r, m1, m2, hr⟩ := h1 i hi
  obtain ⟨p', q', f1, f2, _, r', n1, n2, hr'⟩ := h1 j hj
  rw [e] at e2
  rw [e2] at f2
  injection f2 with f2
  subst f2
  obtain ⟨x, hx, x1, x2, _⟩ := hq.ok q (List.mem_of_getElem? e2)
  rw [x2, ord_mem hb hx] at m2 n2
  have k1 : Comp a r r' := (I.comp ha hb hr hr').1 ((comp_symm hb hx m2).trans n2)
  obtain ⟨y, hy, y1, y2, _⟩ := hp.ok p (List.mem_of_getElem? e1)
  refine hp.uniq (c := r') e1 f1 ?_ n1
  rw [y2, ord_mem ha hy] at m1 ⊢
  exact m1.trans k1
 refine ⟨pigeon _ _ π hlt hinj, perm_of_corr _ _ π (fun i hi => ?_) (fun i j hi hj e => hinj i j (by simpa using hi) (by simpa using hj) e)⟩
 rw [List.length_map] at hi
 obtain ⟨p, q, e1, e2, e3, _⟩ := h1 i hi
 refine ⟨by rw [List.length_map]; exact hlt i hi, ?_⟩
 rw [List.getElem?_map, List.getElem?_map, e1, e2]
 simp [e3]
theorem codes_eq (I : Iso a b σ) (ha : Wf a) (hb : Wf b) (hp : Pcs a ps) (hq : Pcs b qs) (sp : Srt ps) (sq : Srt qs) : ps.map Pc.code = qs.map Pc.code := by
 obtain ⟨τ, J, _, _⟩ := I.symm ha
 obtain ⟨l1, r, hr⟩ := hp.corr I ha hb hq
 obtain ⟨l2, _⟩ := hq.corr J hb ha hp
 have : r = [] := by
  have := hr.length_eq
  rw [List.length_append, List.length_map, List.length_map] at this
  exact List.length_eq_zero_iff.1 (by omega)
 subst this
 rw [List.append_nil] at hr
 exact (List.Perm.eq_of_pairwise (le := kle) (fun x y _ _ h1 h2 => kle_anti h1 h2) (by rw [List.pairwise_map]; exact sq) (by rw [List.pairwise_map]; exact sp) hr).symm
theorem pcode_of {d : Dg} {ps : List Pc} (h : Pcs d ps) (lp : Nat) : pcode lp ps = (lp : Int) :: ((ps.map Pc.code).length : Int) :: (ps.map Pc.code).flatMap (fun c => ((c.length / 5 : Nat) : Int) :: c) := by
 unfold pcode
 rw [List.length_map]
 congr 2
 have : ∀ (l : List Pc), (∀ p, p ∈ l → PcOk d p) → l.flatMap (fun p => (p.order.length : Int) :: p.code) = (l.map Pc.code).flatMap (fun c => ((c.length / 5 : Nat) : Int) :: c) := by
  intro l
  induction l with
  | nil => intro _; rfl
  | cons p l ih =>
    intro hl
    rw [List.map_cons, List.flatMap_cons, List.flatMap_cons, ih (fun q hq => hl q (by simp [hq])), (hl p (by simp)).len, show 5 * p.order.length / 5 = p.order.length by omega]
 exact this ps h.ok
theorem Iso.pcode (I : Iso a b σ) (ha : Wf a) (hb : Wf b) (hp : Pcs a ps) (hq : Pcs b qs) (sp : Srt ps) (sq : Srt qs) : Pl.pcode a.lp ps = Pl.pcode b.lp qs := by
 rw [pcode_of hp, pcode_of hq, codes_eq I ha hb hp hq sp sq, I.lp]
theorem codes_of {ps qs : List Pc} (h : ∀ p, p ∈ ps → p.code.length = 5 * p.order.length) (h' : ∀ p, p ∈ qs → p.code.length = 5 * p.order.length) : ps.flatMap (fun p => (p.order.length : Int) :: p.code) = qs.flatMap (fun p => (p.order.length : Int) :: p.code) → ps.length = qs.length → ps.map Pc.code = qs.map Pc.code := by
 induction ps generalizing qs with
 | nil =>
   intro _ hl
   rw [List.length_nil] at hl
   rw [List.length_eq_zero_iff.1 hl.symm]
 | cons p ps ih =>
   cases qs with
   | nil => intro _ hl; simp at hl
   | cons q qs =>
     intro he hl
     rw [List.flatMap_cons, List.flatMap_cons, List.cons_append, List.cons_append] at he
     injection he with h1 h2
     have hlen : p.code.length = q.code.length := by rw [h p (by simp), h' q (by simp)]; omega
     obtain ⟨h3, h4⟩ := List.append_inj h2 hlen
     rw [List.map_cons, List.map_cons, h3, ih (fun x hx => h x (by simp [hx])) (fun x hx => h' x (by simp [hx])) h4 (by simpa using hl)]
theorem iso_of_code (ha : Wf a) (hb : Wf b) (hp : Pcs a ps) (hq : Pcs b qs) (h : Pl.pcode a.lp ps = Pl.pcode b.lp qs) : ∃ σ, Iso a b σ := by
 unfold Pl.pcode at h
 injection h with hlp h
 injection h with hlen h
 have hlen' : ps.length = qs.length := by omega
 have hc := codes_of (fun p hp' => (hp.ok p hp').len) (fun p hq' => (hq.ok p hq').len) h hlen'
 have hci : ∀ (i : Nat) (p q : Pc), ps[i]? = some p → qs[i]? = some q → p.code = q.code := fun i p q h1 h2 => by
  have := congrArg (fun l => l[i]?) hc
  simpa [List.getElem?_map, h1, h2] using this
 -- crossings that have the same place
 have ex : ∀ c, ∃ c', c < a.n → ∃ (i k : Nat) (p q : Pc), ps[i]? = some p ∧ qs[i]? = some q ∧ p.order[k]? = some c ∧ q.order[k]? = some c' := fun c => by
  by_cases hcn : c < a.n
  ·obtain ⟨i, p, hi, hm⟩ := hp.at_ hcn
   obtain ⟨k, hk, rfl⟩ := List.getElem_of_mem hm
   have hil := (List.getElem?_eq_some_iff.1 hi).1
   have hq' : qs[i]? = some (qs[i]'(by omega)) := List.getElem?_eq_getElem (by omega)
   have e := hci i p _ hi hq'
   have l1 := (hp.ok p (List.mem_of_getElem? hi)).len
   have l2 := (hq.ok _ (List.mem_of_getElem? hq')).len
   rw [e] at l1
   exact ⟨(qs[i]'(by omega)).order[k]'(by omega), fun _ => ⟨i, k, p, _, hi, hq', List.getElem?_eq_getElem hk, List.getElem?_eq_getElem (by omega)⟩⟩
  ·exact ⟨0, fun h => absurd h hcn⟩
 let σ := fun c => Classical.choose (ex c)
 have hσ : ∀ c, c < a.n → ∃ (i k : Nat) (p q : Pc), ps[i]? = some p ∧ qs[i]? = some q ∧ p.order[k]? = some c ∧ q.order[k]? = some (σ c) := fun c hc => Classical.choose_spec (ex c) hc
 have pnd : ∀ (d : Dg) (_ : Wf d) (p : Pc), PcOk d p → p.order.Nodup := fun d hd p h => by
  obtain ⟨r, hr, _, e, _⟩ := h
  rw [e]; exact (ord_ok hd hr).nd
 have one : ∀ (o : List Nat) (k k' c : Nat), o.Nodup → o[k]? = some c → o[k']? = some c → k = k' := fun o k k' c hn h1 h2 => by
  obtain ⟨l1, e1⟩ := List.getElem?_eq_some_iff.1 h1
  obtain ⟨l2, e2⟩ := List.getElem?_eq_some_iff.1 h2
  exact (List.getElem_inj hn).1 (e1.trans e2.symm)
 -- the place decides
 have fit : ∀ c (i k : Nat) (p q : Pc) (c' : Nat), c < a.n → ps[i]? = some p → qs[i]? = some q → p.order[k]? = some c → q.order[k]? = some c' → σ c = c' := fun c i k p q c' hc h1 h2 h3 h4 => by
  obtain ⟨i2, k2, p2, q2, g1, g2, g3, g4⟩ := hσ c hc
  obtain rfl := hp.uniq h1 g1 (List.mem_of_getElem? h3) (List.mem_of_getElem? g3)
  rw [h1] at g1; injection g1 with g1; subst g1
  rw [h2] at g2; injection g2 with g2; subst g2
  obtain rfl := one _ k k2 c (pnd a ha p (hp.ok p (List.mem_of_getElem? h1))) h3 g3
  rw [h4] at g4; injection g4 with g4; exact g4.symm
 have blt : ∀ (q : Pc) (c : Nat), q ∈ qs → c ∈ q.order → c < b.n := fun q c h1 h2 => by
  obtain ⟨r, hr, _, e, _⟩ := hq.ok q h1
  rw [e] at h2
  exact ((ord_ok hb hr).mem c h2).1
 have inj : ∀ c c', c < a.n → c' < a.n → σ c = σ c' → c = c' := fun c c' hc hc' e => by
  obtain ⟨i, k, p, q, h1, h2, h3, h4⟩ := hσ c hc
  obtain ⟨i2, k2, p2, q2, g1, g2, g3, g4⟩ := hσ c' hc'
  rw [← e] at g4
  obtain rfl := hq.uniq h2 g2 (List.mem_of_getElem? h4) (List.mem_of_getElem? g4)
  rw [h1] at g1; injection g1 with g1; subst g1
  rw [h2] at g2; injection g2 with g2; subst g2
  obtain rfl := one _ k k2 _ (pnd b hb q (hq.ok q (List.mem_of_getElem? h2))) h4 g4
  rw [h3] at g3; injection g3
 have lt : ∀ c, c < a.n → σ c < b.n := fun c hc => by
  obtain ⟨i, k, p, q, h1, h2, h3, h4⟩ := hσ c hc
  exact blt q _ (List.mem_of_getElem? h2) (List.mem_of_getElem? h4)
 have hn : a.n = b.n := by
  have l1 := pigeon a.n b.n σ lt inj
  have back : ∀ c', ∃ c, c' < b.n → c < a.n ∧ σ c = c' := fun c' => by
   by_cases hc' : c' < b.n
   ·obtain ⟨i, q, hi, hm⟩ := hq.at_ hc'
    obtain ⟨k, hk, rfl⟩ := List.getElem_of_mem hm
    have hil := (List.getElem?_eq_some_iff.1 hi).1
    have hp' : ps[i]? = some (ps[i]'(by omega)) := List.getElem?_eq_getElem (by omega)
    have e := hci i _ q hp' hi
    have l1 := (hp.ok _ (List.mem_of_getElem? hp')).len
    have l2 := (hq.ok q (List.mem_of_getElem? hi)).len
    rw [e] at l1
    have hk' : k < (ps[i]'(by omega)).order.length := by omega
    obtain ⟨r, hr, _, eo, _⟩ := hp.ok _ (List.mem_of_getElem? hp')
    have hlt : (ps[i]'(by omega)).order[k] < a.n := by
     have : (ps[i]'(by omega)).order[k] ∈ ord a r := by rw [← eo]; exact List.getElem_mem hk'
     exact ((ord_ok ha hr).mem _ this).1
    exact ⟨_, fun _ => ⟨hlt, fit _ i k _ q _ hlt hp' hi (List.getElem?_eq_getElem hk') (List.getElem?_eq_getElem hk)⟩⟩
   ·exact ⟨0, fun h => absurd h hc'⟩
  have l2 := pigeon b.n a.n (fun c' => Classical.choose (back c')) (fun c' hc' => (Classical.choose_spec (back c') hc').1) (fun x y hx hy e => by
   have e1 := (Classical.choose_spec (back x) hx).2
   have e2 := (Classical.choose_spec (back y) hy).2
   have e' : Classical.choose (back x) = Classical.choose (back y) := e
   rw [← e1, ← e2, e'])
  omega
 -- what is read at a crossing
 have rd : ∀ c, c < a.n → ∃ (o o' : List Nat), chk a o c = chk b o' (σ c) ∧ o.Nodup ∧ o'.Nodup ∧ (∀ t, t < 4 → nb a c t ∈ o ∧ nb b (σ c) t ∈ o') ∧ (∀ (j x x' : Nat), o[j]? = some x → o'[j]? = some x' → σ x = x') := fun c hc => by
  obtain ⟨i, k, p, q, h1, h2, h3, h4⟩ := hσ c hc
  obtain ⟨r, hr, c1, o1, _⟩ := hp.ok p (List.mem_of_getElem? h1)
  obtain ⟨r', hr', c2, o2, _⟩ := hq.ok q (List.mem_of_getElem? h2)
  have e := hci i p q h1 h2
  rw [c1, c2] at e
  unfold code at e
  rw [o1] at h3
  rw [o2] at h4
  refine ⟨ord a r, ord b r', (flat5_eq e).2 k c _ h3 h4, (ord_ok ha hr).nd, (ord_ok hb hr').nd, fun t ht => ⟨?_, ?_⟩, fun j x x' hx hx' => ?_⟩
  ·exact (ord_ok ha hr).done k c (List.getElem?_eq_some_iff.1 h3).1 h3 t ht
  ·exact (ord_ok hb hr').done k _ (List.getElem?_eq_some_iff.1 h4).1 h4 t ht
  ·exact fit x i j p q x' ((ord_ok ha hr).mem x (List.mem_of_getElem? hx)).1 h1 h2 (by rw [o1]; exact hx) (by rw [o2]; exact hx')
 refine ⟨σ, hn, by omega, fun c hc => by rw [hn]; exact lt c hc, inj, fun c hc => ?_, fun h hh => ?_⟩
 ·obtain ⟨o, o', e, _⟩ := rd c hc
  unfold chk at e
  injection e with e
  exact e.symm
 ·have hc : h / 4 < a.n := by omega
  obtain ⟨o, o', e, nd, nd', mem, pl⟩ := rd (h / 4) hc
  have key : ∀ t, t < 4 → 4 * o.idxOf (nb a (h / 4) t) + a.m (4 * (h / 4) + t) % 4 = 4 * o'.idxOf (nb b (σ (h / 4)) t) + b.m (4 * σ (h / 4) + t) % 4 := by
   unfold chk at e
   injection e with _ e
   injection e with e0 e
   injection e with e1 e
   injection e with e2 e
   injection e with e3 _
   intro t ht
   have : t = 0 ∨ t = 1 ∨ t = 2 ∨ t = 3 := by omega
   rcases this with rfl | rfl | rfl | rfl
   ·rw [Nat.add_zero, Nat.add_zero]; omega
   ·omega
   ·omega
   ·omega
  have k := key (h % 4) (by omega)
  rw [show 4 * (h / 4) + h % 4 = h by omega] at k
  have hm := mem (h % 4) (by omega)
  have hnb : nb a (h / 4) (h % 4) = a.m h / 4 := by unfold nb; rw [show 4 * (h / 4) + h % 4 = h by omega]
  have hnb' : nb b (σ (h / 4)) (h % 4) = b.m (hf σ h) / 4 := rfl
  have k1 : o.idxOf (nb a (h / 4) (h % 4)) = o'.idxOf (nb b (σ (h / 4)) (h % 4)) := by omega
  have k2 : a.m h % 4 = b.m (hf σ h) % 4 := by show _ = b.m (4 * σ (h / 4) + h % 4) % 4; omega
  have g1 := List.idxOf_lt_length_of_mem hm.1
  have g2 := List.idxOf_lt_length_of_mem hm.2
  have k3 := pl (o.idxOf (nb a (h / 4) (h % 4))) _ _ (by rw [List.getElem?_eq_getElem g1, List.getElem_idxOf]) (by rw [k1, List.getElem?_eq_getElem g2, List.getElem_idxOf])
  rw [hnb, hnb'] at k3
  unfold hf at k2 k3 ⊢
  rw [k3]
  omega
end
end Go.Proofs.YtcaoblilkgajoaaDoor.Pl
end
section
namespace Go.Proofs.YtcaoblilkgajoaaDoor
open Go Go.RowKit
theorem drop_at {xs : List Int} {k : Nat} (h : k < xs.length) : xs.drop k = xs.getD k 0 :: xs.drop (k + 1) := by
 rw [List.drop_eq_getElem_cons h, List.getD_eq_getElem?_getD, List.getElem?_eq_getElem h]; rfl
set_option maxRecDepth 100000 in
set_option maxHeartbeats 4000000 in
theorem compare_any (xs ys : List Int) (A B : Option Addr) (n m c c2 : Nat) (w : World) (hA : IntsAt w A n xs) (hB : IntsAt w B m ys) (hn : n ≤ 1000000) (hm : m ≤ 1000000) :
 Calls Tryd.prog 82 #[.slice A n c, .slice B m c2] w fun e w' => e = .returned (.int .i64 (Pl.lx xs ys)) ∧ w' = w := by
 have HA := hide hA
 have HB := hide hB
 have LA := hide hA.len
 have LB := hide hB.len
 clear hA hB
 go_enter Tryd.func82, Tryd.ntmps82
 go_wp2
 go_loopg [5, 6, 7, 8, 11] n (fun g s5 s6 s7 s8 i wx => ∃ k : Nat, k + g = n ∧ i = .int .i64 k ∧ k ≤ m ∧ Pl.lx xs ys = Pl.lx (xs.drop k) (ys.drop k) ∧ wx = w)
 case atStart => exact ⟨0, by omega, rfl, by omega, rfl, rfl⟩
 case round =>
  obtain ⟨k, hkg, rfl, hkm, hlx, rfl⟩ := hrel
  have HKG := hide hkg
  have HLX := hide hlx
  clear hlx
  by_cases hk : k < n
  ·have hki : (k : Int) < (n : Int) := by omega
   have k0 : (0 : Int) ≤ (k : Int) := by omega
   obtain ⟨b, o, rfl, x1⟩ := HA.out.at_ hk
   have e1 := drop_at (xs := xs) (k := k) (by rw [LA.out]; exact hk)
   obtain ⟨u, hu⟩ : ∃ u, u = xs.getD k 0 := ⟨_, rfl⟩
   rw [← hu] at x1 e1
   have E1 := hide e1
   clear hu hkg e1
   by_cases hk2 : k < m
   ·have hk2i : (k : Int) < (m : Int) := by omega
    have hk2j : ¬ ((m : Int) ≤ (k : Int)) := by omega
    obtain ⟨b2, o2, rfl, y1⟩ := HB.out.at_ hk2
    have e2 := drop_at (xs := ys) (k := k) (by rw [LB.out]; exact hk2)
    obtain ⟨v, hv⟩ : ∃ v, v = ys.getD k 0 := ⟨_, rfl⟩
    rw [← hv] at y1 e2
    have E2 := hide e2
    clear hv e2
    go_wp2_with fail
    refine (Tryd.cmp_Compare_int u v _).mono ?_
    rintro e w1 ⟨rfl, rfl⟩
    unfold Lib.compareInt
    have HL := hide HLX.out
    rcases Int.lt_trichotomy u v with h | h | h
    ·have hne : ¬ v < u := by omega
     have HR := hide (show Pl.lx xs ys = -1 by rw [HLX.out, E1.out, E2.out, Pl.lx, if_pos h])
     rw [if_pos h]
     clear h hne
     go_wp2
     go_ret
     exact ⟨by rw [HR.out]; rfl, rfl⟩
    ·have HR := hide (show Pl.lx xs ys = Pl.lx (xs.drop (k + 1)) (ys.drop (k + 1)) by rw [HLX.out, E1.out, E2.out, Pl.lx, if_neg (by omega), if_neg (by omega)])
     rw [if_neg (show ¬ u < v by omega), if_neg (show ¬ v < u by omega)]
     clear h
     go_wp2
     go_roundg (gk - 1)
     case measure => have := HKG.out; omega
     case rel => exact ⟨k + 1, by have := HKG.out; omega, by go_num, by omega, HR.out, rfl⟩
    ·have hne : ¬ u < v := by omega
     have HR := hide (show Pl.lx xs ys = 1 by rw [HLX.out, E1.out, E2.out, Pl.lx, if_neg hne, if_pos h])
     rw [if_neg hne, if_pos h]
     clear h hne
     go_wp2
     go_ret
     exact ⟨by rw [HR.out]; rfl, rfl⟩
   ·have hk2i : (m : Int) ≤ (k : Int) := by omega
    have HR := hide (show Pl.lx xs ys = 1 by rw [HLX.out, E1.out, List.drop_eq_nil_of_le (show ys.length ≤ k by rw [LB.out]; omega)]; rfl)
    go_wp2
    go_ret
    exact ⟨by rw [HR.out]; rfl, rfl⟩
  ·have hki : ¬ ((k : Int) < (n : Int)) := by omega
   have hkn : k = n := by omega
   subst hkn
   clear hkg
   by_cases hnm : (k : Int) < (m : Int)
   ·have HR := hide (show Pl.lx xs ys = -1 by
     rw [HLX.out, List.drop_eq_nil_of_le (show xs.length ≤ k by rw [LA.out]; exact Nat.le_refl _), drop_at (xs := ys) (k := k) (by rw [LB.out]; omega)]; rfl)
    go_wp2
    go_ret
    exact ⟨by rw [HR.out]; rfl, rfl⟩
   ·have HR := hide (show Pl.lx xs ys = 0 by
     rw [HLX.out, List.drop_eq_nil_of_le (show xs.length ≤ k by rw [LA.out]; exact Nat.le_refl _), List.drop_eq_nil_of_le (show ys.length ≤ k by rw [LB.out]; omega)]; rfl)
    go_wp2
    go_ret
    exact ⟨by rw [HR.out]; rfl, rfl⟩
end Go.Proofs.YtcaoblilkgajoaaDoor
end
section
namespace Go.Proofs.YtcaoblilkgajoaaDoor.Pl
variable {d : Dg}
def nums (n : Nat) (o : List Nat) : List Int := (List.range n).map (fun c => if c ∈ o then ((o.idxOf c : Nat) : Int) else -1)
theorem nums_len (n : Nat) (o : List Nat) : (nums n o).length = n := by unfold nums; simp
theorem nums_get {n c : Nat} (o : List Nat) (hc : c < n) : (nums n o)[c]? = some (if c ∈ o then ((o.idxOf c : Nat) : Int) else -1) := by
 unfold nums
 rw [List.getElem?_map, List.getElem?_range hc]
 rfl
theorem nums_nil (n : Nat) : nums n [] = List.replicate n (-1) := by
 unfold nums
 refine List.ext_getElem? fun i => ?_
 rw [List.getElem?_map, List.getElem?_replicate]
 by_cases h : i < n
 ·rw [List.getElem?_range h, if_pos h]; simp
 ·rw [List.getElem?_eq_none (by simp; omega), if_neg h]; rfl
theorem nums_add {n b : Nat} {o : List Nat} (hb : b < n) (hn : b ∉ o) : nums n (o ++ [b]) = (nums n o).set b (o.length : Int) := by
 refine List.ext_getElem? fun i => ?_
 rw [List.getElem?_set]
 by_cases hi : i < n
 ·rw [nums_get _ hi]
  by_cases e : b = i
  ·subst e
   have h1 : b ∈ o ++ [b] := by simp
   have h2 : b < (nums n o).length := by rw [nums_len]; exact hi
   rw [if_pos h1, if_pos rfl, if_pos h2, List.idxOf_append, if_neg hn]
   simp
  ·rw [if_neg e, nums_get _ hi]
   by_cases hm : i ∈ o
   ·rw [if_pos (by simp [hm]), if_pos hm, List.idxOf_append, if_pos hm]
   ·rw [if_neg (by simp [hm]; exact fun h => e h.symm), if_neg hm]
 ·have h1 : (nums n (o ++ [b])).length ≤ i := by rw [nums_len]; omega
  rw [List.getElem?_eq_none h1, if_neg (by omega), List.getElem?_eq_none (by rw [nums_len]; omega)]
theorem nums_one {n r : Nat} (hr : r < n) : nums n [r] = (List.replicate n (-1)).set r 0 := by
 have := nums_add (o := []) hr (by simp)
 rw [nums_nil] at this
 exact this
theorem flat5_at {o : List Nat} : ∀ {l : List Nat} {i c : Nat}, l[i]? = some c → ∀ j, j < 5 → (l.flatMap (chk d o))[5 * i + j]? = (chk d o c)[j]?
 | [], i, c, h, _, _ => by simp at h
 | x :: l, 0, c, h, j, hj => by
   obtain rfl : x = c := by simpa using h
   rw [List.flatMap_cons, Nat.mul_zero, Nat.zero_add, List.getElem?_append_left (by rw [chk_len]; exact hj)]
 | x :: l, i + 1, c, h, j, hj => by
   have ih := flat5_at (o := o) (l := l) (i := i) (c := c) (by simpa using h) j hj
   rw [List.flatMap_cons, List.getElem?_append_right (by rw [chk_len]; omega), chk_len, ← ih]
   congr 1
   omega
theorem code_sgn {r i c : Nat} (h : (ord d r)[i]? = some c) : (code d r)[5 * i]? = some (d.s c) := by
 have := flat5_at (d := d) (o := ord d r) h 0 (by omega)
 exact this
theorem code_nb {r i c s : Nat} (h : (ord d r)[i]? = some c) (hs : s < 4) : (code d r)[5 * i + 1 + s]? = some (((4 * (ord d r).idxOf (nb d c s) + d.m (4 * c + s) % 4 : Nat)) : Int) := by
 have := flat5_at (d := d) (o := ord d r) h (1 + s) (by omega)
 rw [Nat.add_assoc]
 refine this.trans ?_
 have h4 : s = 0 ∨ s = 1 ∨ s = 2 ∨ s = 3 := by omega
 rcases h4 with rfl | rfl | rfl | rfl <;> rfl
theorem take_one {α : Type} {l : List α} {k : Nat} {x : α} (h : l[k]? = some x) : l.take (k + 1) = l.take k ++ [x] := by
 rw [List.take_add_one, h]; rfl
def vdt (best : Option (List Int)) (c : List Int) (k : Nat) : Int := match best with
 | none => -1
 | some b => lx (c.take k) (b.take k)
theorem vdt_step {b c : List Int} {k : Nat} (hc : k + 5 ≤ c.length) (hb : k + 5 ≤ b.length) : vdt (some b) c (k + 5) = if vdt (some b) c k = 0 then lx ((c.drop k).take 5) ((b.drop k).take 5) else vdt (some b) c k := by
 unfold vdt
 simp only
 rw [List.take_add, List.take_add]
 exact lx_app (by rw [List.length_take, List.length_take]; omega) _ _
theorem vdt_keep {b c : List Int} {k : Nat} (hl : c.length = b.length) (h : vdt (some b) c k ≠ 0) : lx c b = vdt (some b) c k := by
 unfold vdt at h ⊢
 simp only at h ⊢
 have := lx_app (l := c.take k) (m := b.take k) (by rw [List.length_take, List.length_take, hl]) (c.drop k) (b.drop k)
 rw [List.take_append_drop, List.take_append_drop, if_neg h] at this
 exact this
def vall (best : Option (List Int)) (c : List Int) : Int := match best with | none => -1 | some b => lx c b
theorem vall_some (b c : List Int) : vall (some b) c = lx c b := rfl
theorem vall_none (c : List Int) : vall none c = -1 := rfl
theorem vdt_all {best : Option (List Int)} {c : List Int} {k : Nat} (hk : c.length ≤ k) (hb : ∀ b, best = some b → b.length ≤ k) : vdt best c k = vall best c := by
 unfold vdt vall
 cases best with
 | none => rfl
 | some b => simp only; rw [List.take_of_length_le hk, List.take_of_length_le (hb b rfl)]
theorem pre_get {o o' : List Nat} (h : o <+: o') {i c : Nat} (hc : o[i]? = some c) : o'[i]? = some c := by
 obtain ⟨l, rfl⟩ := h
 rw [List.getElem?_append_left (List.getElem?_eq_some_iff.1 hc).1, hc]
theorem add_ord {r i c s : Nat} (hi : i + 1 ≤ d.n) (hc : (ordK d r i)[i]? = some c) (hs : s ≤ 4) : addS d (ordK d r i) c s <+: ord d r := by
 have h1 := addS_mono (d := d) (ordK d r i) c s (4 - s)
 rw [show s + (4 - s) = 4 by omega, ← ordK_some hc] at h1
 exact h1.trans (ordK_ord r hi)
theorem code_step {r i c s : Nat} (hi : i + 1 ≤ d.n) (hc : (ordK d r i)[i]? = some c) (hs : s < 4) : (code d r)[5 * i + 1 + s]? = some (((4 * (addS d (ordK d r i) c (s + 1)).idxOf (nb d c s) + d.m (4 * c + s) % 4 : Nat)) : Int) := by
 rw [code_nb (pre_get (ordK_ord r (by omega)) hc) hs, idx_pre (add_ord (s := s + 1) hi hc (by omega)) (addN_mem (addS d (ordK d r i) c s) (nb d c s))]
theorem order_lt {r i : Nat} (hi : i ≤ d.n) (h : i < (ord d r).length) : i < (ordK d r i).length := by
 rcases Nat.lt_or_ge i (ordK d r i).length with h1 | h1
 ·exact h1
 ·rw [ord_eq hi h1] at h1; omega
end Go.Proofs.YtcaoblilkgajoaaDoor.Pl
end
section
namespace Go.Proofs.YtcaoblilkgajoaaDoor
open Go.RowKit
attribute [local go_sem ↓] Go.wp_at_zero Go.wp_at_succ
theorem own_keep {w w' : World} {base base' : Nat} {e : TypeId} {v : Value} {n : Nat} {xs : List Value} (h : w.ownsRow base e 1 v n xs) (hb : Below w.heap.size w w') (hle : base' ≤ base) : w'.ownsRow base' e 1 v n xs := by
 refine ⟨h.1, ?_⟩
 rcases h.2 with hz | ⟨g, cap, cur, r1, r2, r3, r4⟩
 ·exact .inl hz
 ·exact .inr ⟨g, cap, cur, r1, Nat.le_trans hle r2, (hb.block g (lt_of_heap r3)).trans r3, r4⟩
end Go.Proofs.YtcaoblilkgajoaaDoor
end
section
namespace Go.Proofs.YtcaoblilkgajoaaDoor
open Go.RowKit
structure Mv where
 kind : Int
 x : Int
 y : Int
 sign : Int
 over : Bool
end Go.Proofs.YtcaoblilkgajoaaDoor
end
section
namespace Go.Proofs.YtcaoblilkgajoaaDoor
open Go.RowKit
theorem box3 {W : World} {g : Nat} {t : TypeId} {a b c : Value} (h : Row W g t [a, b, c]) : W.cell? ⟨g, 0, none⟩ = some a ∧ W.cell? ⟨g, 1, none⟩ = some b ∧ W.cell? ⟨g, 2, none⟩ = some c ∧ ∀ o, W.frozen? ⟨g, o, none⟩ = false :=
 ⟨h.cell (i := 0) (by simp), h.cell (i := 1) (by simp), h.cell (i := 2) (by simp), h.free⟩
theorem own_ints {w : World} {base : Nat} {e : TypeId} {g n c : Nat} {zs : List Int} (h : w.ownsRow base e 1 (.slice (some ⟨g, 0, none⟩) n c) n (zs.map (.int .i64))) : IntsAt w (some ⟨g, 0, none⟩) n zs := by
 have hl := h.1
 refine ⟨by simpa using hl, fun _ => ⟨g, 0, rfl, fun j u hu => ?_⟩⟩
 rw [Nat.zero_add]
 have hj : j < n := by
  have := (List.getElem?_eq_some_iff.mp hu).1
  simp at this hl
  omega
 rw [World.ownsRow.cellAt h j (by simpa using hj)]
 exact hu
end Go.Proofs.YtcaoblilkgajoaaDoor
end
section
namespace Go.Proofs.YtcaoblilkgajoaaDoor
open Go.RowKit
def boxV (A B : Option Addr) (n cp q cq : Nat) (l : Value) : List Value := [.slice A n cp, .slice B q cq, l]
set_option maxRecDepth 100000 in
set_option maxHeartbeats 4000000 in
theorem label_any (d : Pl.Dg) (hd : Pl.Wf d) (A B : Option Addr) (cp cq : Nat) (l : Value) (w : World) (hg : DgAt w A B d) :
 Calls Tryd.prog 72 #[.agg #[.slice A d.n cp, .slice B (4 * d.n) cq, l]] w fun e w' =>
  ∃ (ps : List Int) (P g : Nat), e = .returned (.tuple #[.slice (some ⟨g, 0, none⟩) d.n d.n, .int .i64 (P : Int)]) ∧ Pl.LB d ps P ∧ (∀ a, a < d.n → 0 ≤ Pl.pv ps a) ∧ w.heap.size ≤ g ∧ IRow w' g ps ∧ Below w.heap.size w w' := by
 have hn := hd.few
 have HF := hide hd
 clear hd
 have hmk := run_ints d.n (by omega) (w.alloc (.cells #[.slice A d.n cp, .slice B (4 * d.n) cq, l] 28))
 go_enter Tryd.func72, Tryd.ntmps72
 go_wp2
 clear hmk
 obtain ⟨W1, hW1⟩ : ∃ W1 : World, W1 = (w.alloc (.cells #[.slice A d.n cp, .slice B (4 * d.n) cq, l] 28)).alloc (.cells (Array.replicate d.n (Value.int .i64 0)) 3) := ⟨_, rfl⟩
 have B1 := hide (show Below w.heap.size w W1 by rw [hW1]; exact ((Below.refl _ _).alloc (Nat.le_refl _) _).alloc (by simp) _)
 have X1 := hide (show Row W1 w.heap.size 28 (boxV A B d.n cp (4 * d.n) cq l) by rw [hW1]; exact (Row.new w _ _).alloc _)
 have R1 := hide (show IRow W1 (w.heap.size + 1) (List.replicate d.n 0) by
  rw [hW1]
  have := IRow.made (w.alloc (.cells #[.slice A d.n cp, .slice B (4 * d.n) cq, l] 28)) d.n
  simpa using this)
 rw [← hW1]
 clear hW1
 go_loopg [18] d.n (fun g i wx => ∃ k : Nat, k + g = d.n ∧ i = .int .i64 k ∧ Below w.heap.size w wx ∧ Row wx w.heap.size 28 (boxV A B d.n cp (4 * d.n) cq l) ∧ IRow wx (w.heap.size + 1) (List.replicate k (-1) ++ List.replicate (d.n - k) 0))
 case atStart => exact ⟨0, by omega, rfl, B1.out, X1.out, by simpa using R1.out⟩
 case round =>
  obtain ⟨k, hkg, rfl, b2, x2, r2⟩ := hrel
  have HG := hide hkg
  have hks : k ≤ d.n := by omega
  clear hkg
  by_cases hlt : k < d.n
  ·have c1 := r2.cell (i := k) (by simp; omega)
   have f1 := Row.free r2 k
   have B2 := hide b2
   have X2 := hide x2
   have R2 := hide r2
   clear b2 x2 r2
   go_wp2
   go_roundg (gk - 1)
   case measure => have := HG.out; omega
   case rel =>
    refine ⟨k + 1, by have := HG.out; omega, by go_num, ?_, X2.out.other (by simp) _, ?_⟩
    ·exact B2.out.setCell (by simp) _
    ·have := R2.out.set k (-1)
     rwa [Pl.fill_set hlt] at this
  ·have hkn : k = d.n := by omega
   have B2 := hide b2
   have X2 := hide x2
   have R2 := hide (show IRow wr (w.heap.size + 1) (List.replicate d.n (-1)) by subst hkn; simpa using r2)
   clear b2 x2 r2 hkn
   go_wp2
   go_loopg [6, 27] d.n (fun g p i wx => ∃ (k P : Nat) (ps : List Int), k + g = d.n ∧ i = .int .i64 k ∧ p = .int .i64 P ∧ Pl.LB d ps P ∧ (∀ a, a < k → 0 ≤ Pl.pv ps a) ∧ Below w.heap.size w wx ∧ Row wx w.heap.size 28 (boxV A B d.n cp (4 * d.n) cq l) ∧ IRow wx (w.heap.size + 1) ps)
   case atStart => exact ⟨0, 0, _, by omega, rfl, rfl, Pl.LB.start d, fun a ha => absurd ha (by omega), B2.out, X2.out, R2.out⟩
   case round =>
    clear B2 X2 R2 B1 X1 R1 HG hks hlt
    obtain ⟨j, P, ps, hjg, rfl, rfl, hlb, hall, b3, x3, r3⟩ := hrel
    have HG := hide hjg
    have HL := hide hlb
    have HA := hide hall
    have hjs : j ≤ d.n := by omega
    have hlen : ps.length = d.n := hlb.len
    have hP := hlb.le
    have HLen := hide hlen
    clear hjg hlb hall
    by_cases hjn : j < d.n
    ·have c1 := r3.cell (i := j) (by omega)
     have f1 := Row.free r3 j
     have B3 := hide b3
     have X3 := hide x3
     have R3 := hide r3
     clear b3 x3 r3 hlen
     by_cases hlab : 0 ≤ Pl.pv ps j
     ·go_wp2
      go_roundg (gk - 1)
      case measure => have := HG.out; omega
      case rel =>
       refine ⟨j + 1, P, ps, by have := HG.out; omega, by go_num, rfl, HL.out, fun a ha => ?_, B3.out, X3.out, R3.out⟩
       by_cases e : a = j
       ·rw [e]; exact hlab
       ·exact HA.out a (by omega)
     ·have hneg : Pl.pv ps j < 0 := by omega
      have hjl : j < ps.length := by have := HLen.out; omega
      obtain ⟨wo, rfl⟩ : ∃ wo : World, wo = wr := ⟨_, rfl⟩
      have hwz : w.heap.size + 2 ≤ wo.heap.size := by have := R3.out.lt; omega
      go_wp2
      obtain ⟨W2, hW2⟩ : ∃ W2 : World, W2 = (wo.setCell ⟨w.heap.size + 1, j, none⟩ (.int .i64 P)).alloc (.cells #[.int .i64 j] 3) := ⟨_, rfl⟩
      have B4 := hide (show Below w.heap.size w W2 by rw [hW2]; exact (B3.out.setCell (by simp) _).alloc (by simp; omega) _)
      have X4 := hide (show Row W2 w.heap.size 28 (boxV A B d.n cp (4 * d.n) cq l) by rw [hW2]; exact (X3.out.other (by simp) _).alloc _)
      have R4 := hide (show IRow W2 (w.heap.size + 1) (ps.set j P) by rw [hW2]; exact Row.alloc (R3.out.set j P) _)
      have Q4 := hide (show OwnT W2 (w.heap.size + 2) 3 (.slice (some ⟨wo.heap.size, 0, none⟩) 1 1) 1 [.int .i64 j] by
       rw [hW2]
       refine ⟨rfl, wo.heap.size, 0, 1, #[.int .i64 j], rfl, hwz, ?_, by omega, by unfold maxLen; omega, by simp, rfl⟩
       have := heap_alloc_new (wo.setCell ⟨w.heap.size + 1, j, none⟩ (.int .i64 P)) (.cells #[.int .i64 j] 3)
       simpa using this)
      have HQ := hide (Pl.LQ.start HL.out hjn hneg)
      have HU := hide (Pl.unl_set hjl hneg (v := (P : Int)) (by omega))
      rw [← hW2]
      clear hW2 B3 X3 R3 c1 f1 hneg hlab
      go_loopg [8] (Pl.unl (ps.set j P) + 1) (fun g v wx => ∃ (p1 : List Int) (qs : List Nat), g = Pl.unl p1 + qs.length ∧ Pl.unl p1 + qs.length ≤ d.n ∧ Pl.LQ d j ps P p1 qs d.n 0 ∧ OwnT wx (w.heap.size + 2) 3 v qs.length (qs.map (fun q : Nat => Value.int .i64 q)) ∧ Below w.heap.size w wx ∧ Row wx w.heap.size 28 (boxV A B d.n cp (4 * d.n) cq l) ∧ IRow wx (w.heap.size + 1) p1)
      case atStart => exact ⟨_, [j], rfl, by have h1 := HU.out; have h2 : Pl.unl ps ≤ ps.length := List.countP_le_length; have h3 := HLen.out; simp only [List.length_singleton]; omega, HQ.out, Q4.out, B4.out, X4.out, R4.out⟩
      case round =>
       clear B4 X4 R4 Q4 HQ HU
       obtain ⟨p1, qs, hgk, hgn, hlq, hown, b5, x5, r5⟩ := hrel
       have HGN := hide hgn
       have HGK := hide hgk
       have HQ := hide hlq
       have B5 := hide b5
       have X5 := hide x5
       have R5 := hide r5
       clear hgk hgn hlq b5 x5 r5
       cases qs with
       | nil =>
         obtain ⟨g0, off, cap, rfl, _, _, _, _, _⟩ := hown.cells
         have HD := hide (Pl.LQ.done HF.out HQ.out)
         simp only [List.length_nil]
         go_wp2
         go_roundg (d.n - (j + 1))
         case measure => have := HG.out; omega
         case rel =>
          refine ⟨j + 1, P + 1, p1, by omega, by go_num, by go_num, HD.out.1, fun a ha => ?_, B5.out, X5.out, R5.out⟩
          by_cases e : a = j
          ·rw [e]; exact HD.out.2.2
          ·exact HD.out.2.1 a (by omega) (HA.out a (by omega))
       | cons q qs =>
         have hqn : q < d.n := (HQ.out.wait q (by simp)).1
         have HQP := hide ((HQ.out.wait q (by simp)).2)
         have hown' := hown
         obtain ⟨g0, off, cap, rfl, hg0, hg1, hcl, hcm, hcells⟩ := hown'.cells
         have cq0 : wr.cell? ⟨g0, off, none⟩ = some (.int .i64 (q : Int)) := by
          have := hcells 0 (.int .i64 (q : Int)) rfl
          simpa using this
         rw [List.length_cons] at hown hcl
         rw [List.map_cons] at hown
         have HO := hide hown
         simp only [List.length_cons]
         unfold maxLen at hcm
         clear hown hcells
         obtain ⟨wo, rfl⟩ : ∃ wo : World, wo = wr := ⟨_, rfl⟩
         have HP := hide (HQ.out.pop rfl)
         by_cases hcap : cap = 1
         case' pos =>
          have Q6 := hide (HO.out.tail0 hcap)
          have hq0 : qs.length = 0 := by omega
          have HQ0 := hide hq0
          go_wp2
          have HC := hide hcap
          clear hq0 hcap
         case' neg =>
          have Q6 := hide (show OwnT wo (w.heap.size + 2) 3 (.slice (some ⟨g0, off + 1, none⟩) qs.length (cap - 1)) qs.length (qs.map (fun q : Nat => Value.int .i64 q)) from HO.out.tail)
          go_wp2
         all_goals
          clear HO cq0
          go_loopg [8, 49] 4 (fun g v i wx => ∃ (p2 : List Int) (qs2 : List Nat) (s : Nat), s + g = 4 ∧ i = .int .i64 s ∧ Pl.unl p2 + qs2.length = Pl.unl p1 + qs.length ∧ Pl.LQ d j ps P p2 qs2 q s ∧ Pl.pv p2 q = P ∧ OwnT wx (w.heap.size + 2) 3 v qs2.length (qs2.map (fun q : Nat => Value.int .i64 q)) ∧ Below w.heap.size w wx ∧ Row wx w.heap.size 28 (boxV A B d.n cp (4 * d.n) cq l) ∧ IRow wx (w.heap.size + 1) p2)
          case atStart =>
           refine ⟨p1, qs, 0, rfl, rfl, rfl, HP.out, HQP.out, ?_, B5.out, X5.out, R5.out⟩
           first
            | exact Q6.out
            | (have h6 := Q6.out; rw [HQ0.out, HC.out] at h6; rw [HQ0.out]; exact h6)
          case round =>
           clear B5 X5 R5 HP HQP Q6
           obtain ⟨p2, qs2, s, hsg, rfl, hum, hlq2, hpq, hown2, b6, x6, r6⟩ := hrel
           have HSG := hide hsg
           have HUM := hide hum
           have HQ2 := hide hlq2
           have HPQ := hide hpq
           have HO2 := hide hown2
           have hs4 : s ≤ 4 := by omega
           have HL2 := hide hlq2.len
           obtain ⟨g2, off2, cap2, rfl, hg20, hg21, hcl2, hcm2, _⟩ := hown2.cells
           unfold maxLen at hcm2
           clear hsg hum hlq2 hpq hown2
           by_cases hs : s < 4
           ·have hi : 4 * q + s < 4 * d.n := by omega
            obtain ⟨bb, bo, rfl, hmc⟩ := mate_at hg.m hi
            have hmc' := cell_below hmc b6
            have hnb := Pl.nb_lt HF.out hqn hs
            have hml := HF.out.lt _ hi
            have hnl : Pl.nb d q s < p2.length := by have := HL2.out; omega
            have c7 := r6.cell hnl
            have f7 := Row.free r6 (Pl.nb d q s)
            have B6 := hide b6
            have X6 := hide x6
            have R6 := hide r6
            have x7 := x6.cell (i := 1) (by show 1 < 3; omega)
            have x7' : wr.cell? ⟨w.heap.size, 1, none⟩ = some (.slice (some ⟨bb, bo, none⟩) (4 * d.n) cq) := x7
            unfold Pl.nb at c7 f7
            clear b6 x6 r6 x7 hmc
            by_cases hneg : Pl.pv p2 (d.m (4 * q + s) / 4) < 0
            ·obtain ⟨wq, rfl⟩ : ∃ wq : World, wq = wr := ⟨_, rfl⟩
             have hq65 : qs2.length ≤ 1000 := by
              have h1 := HUM.out
              have h2 := HGN.out
              rw [List.length_cons] at h2
              omega
             obtain ⟨i0, hi0, hz0, hz1, hz2⟩ := info_parts intInfo
             have hwz2 : w.heap.size + 2 ≤ wq.heap.size := by have := R6.out.lt; omega
             have HC1 := hide (show ((wq.setCell ⟨w.heap.size + 1, d.m (4 * q + s) / 4, none⟩ (.int .i64 P)).alloc (.cells #[.int .i64 ((d.m (4 * q + s) : Int) / 4)] 3)).cell? ((⟨wq.heap.size, 0, none⟩ : Addr).add 0) = some (.int .i64 ((d.m (4 * q + s) : Int) / 4)) by
              have h8 := Lib.cell_of_heap (heap_alloc_new (wq.setCell ⟨w.heap.size + 1, d.m (4 * q + s) / 4, none⟩ (.int .i64 P)) (.cells #[.int .i64 ((d.m (4 * q + s) : Int) / 4)] 3)) 0
              simpa [Addr.add] using h8)
             go_wp2_with (at_builtin; refine wpList_append_tail _ rfl _ _ 22 rfl (w.heap.size + 2) 3 i0 (.int .i64 0) 8 Tryd.underlying22 hi0 hz0 hz1 hz2 rfl (.slice (some ⟨g2, off2, none⟩) qs2.length cap2) qs2.length (qs2.map (fun q : Nat => Value.int .i64 q)) (by rfl) (OwnT.below (OwnT.keep HO2.out (w' := wq.setCell ⟨w.heap.size + 1, d.m (4 * q + s) / 4, none⟩ (.int .i64 P)) (fun g h1 h2 h3 => Below.heap_setCell _ _ _ _ (by simp; omega))) ((Below.refl _ _).alloc (Nat.le_refl _) _)) ⟨wq.heap.size, 0, none⟩ 1 (.int .i64 ((d.m (4 * q + s) : Int) / 4)) (by rfl) HC1.out rfl (by unfold maxLen; omega) (by omega) (by simp; omega) ?_; intro v7 w7 own7 grow7)
             have hne2 : (Value.slice (some ⟨g2, off2, none⟩) qs2.length cap2).ownBlock = some g2 := rfl
             rw [hne2] at grow7
             go_roundg (gk - 1)
             case measure => have := HSG.out; omega
             case rel =>
              have hu := Pl.unl_set (ps := p2) (i := Pl.nb d q s) (by have := HL2.out; omega) hneg (v := (P : Int)) (by omega)
              refine ⟨p2.set (Pl.nb d q s) P, qs2 ++ [Pl.nb d q s], s + 1, by have := HSG.out; omega, by go_num, ?_, HQ2.out.push HF.out hqn HPQ.out hs hneg, ?_, ?_, ?_, ?_, ?_⟩
              ·have := HUM.out; rw [List.length_append, List.length_singleton]; omega
              ·rw [Pl.pv_set (by have := HL2.out; omega)]; split; rfl; exact HPQ.out
              ·rw [List.length_append, List.length_singleton, List.map_append]
               have e9 : (Value.int .i64 ((Pl.nb d q s : Nat) : Int)) = Value.int .i64 ((d.m (4 * q + s) : Int) / 4) := by
                congr 1
               rw [List.map_cons, List.map_nil, e9]
               exact own7
              ·exact (Below.alloc (B6.out.setCell (by simp) _) (by simp; omega) _).grown grow7 (by simp; omega) (fun k hk => by injection hk with hk; omega)
              ·exact Row.grown ((X6.out.other (by simp) _).alloc _) grow7 (by intro e; injection e with e; omega)
              ·exact Row.grown (Row.alloc (R6.out.set _ P) _) grow7 (by intro e; injection e with e; omega)
            ·go_wp2
             go_roundg (gk - 1)
             case measure => have := HSG.out; omega
             case rel =>
              exact ⟨p2, qs2, s + 1, by have := HSG.out; omega, by go_num, HUM.out, HQ2.out.skip (by unfold Pl.nb; omega), HPQ.out, HO2.out, B6.out, X6.out, R6.out⟩
           ·have hs4' : s = 4 := by omega
            have B6 := hide b6
            have X6 := hide x6
            have R6 := hide r6
            clear b6 x6 r6
            go_wp2
            go_roundg (Pl.unl p1 + qs.length)
            case measure => have := HGK.out; rw [List.length_cons] at this; omega
            case rel =>
             exact ⟨p2, qs2, HUM.out.symm, by have h8 := HUM.out; have h9 := HGN.out; rw [List.length_cons] at h9; omega, by have h7 := HQ2.out; rw [hs4'] at h7; exact h7.rest, HO2.out, B6.out, X6.out, R6.out⟩
    ·have hjn' : j = d.n := by omega
     have B3 := hide b3
     have R3 := hide r3
     have hwz3 : w.heap.size + 1 < wr.heap.size := r3.lt
     clear b3 x3 r3 hlen
     go_wp2
     go_ret2
     exact ⟨ps, P, w.heap.size + 1, rfl, HL.out, fun a ha => HA.out a (by omega), by omega, R3.out, B3.out⟩
theorem label_m (d : Pl.Dg) (hd : Pl.Wf d) (A B : Option Addr) (cp cq m : Nat) (l : Value) (w : World) (hm : m = 4 * d.n) (hg : DgAt w A B d) :
 Calls Tryd.prog 72 #[.agg #[.slice A d.n cp, .slice B m cq, l]] w fun e w' =>
  ∃ (ps : List Int) (P g : Nat), e = .returned (.tuple #[.slice (some ⟨g, 0, none⟩) d.n d.n, .int .i64 (P : Int)]) ∧ Pl.LB d ps P ∧ (∀ a, a < d.n → 0 ≤ Pl.pv ps a) ∧ w.heap.size ≤ g ∧ IRow w' g ps ∧ Below w.heap.size w w' := by
 subst hm; exact label_any d hd A B cp cq l w hg
end Go.Proofs.YtcaoblilkgajoaaDoor
end
section
namespace Go.Proofs.YtcaoblilkgajoaaDoor.Pl
variable {d : Dg}
noncomputable def vb (p : Prop) : Bool := open Classical in decide p
theorem vb_true {p : Prop} (h : p) : vb p = true := by unfold vb; simpa using h
theorem vb_false {p : Prop} (h : ¬ p) : vb p = false := by unfold vb; simpa using h
theorem vb_iff {p : Prop} : vb p = true ↔ p := by unfold vb; simp
theorem Wf.nxb (hd : Wf d) : Bij (4 * d.n) (dart d) (nx d) := hd.hm.pb
def gb (bs : List Bool) (g : Nat) : Bool := bs.getD g false
theorem gb_set {bs : List Bool} {i : Nat} (hi : i < bs.length) (v : Bool) (a : Nat) : gb (bs.set i v) a = if a = i then v else gb bs a := by
 unfold gb
 rw [List.getD_eq_getElem?_getD, List.getD_eq_getElem?_getD, List.getElem?_set]
 by_cases h : i = a
 ·subst h; simp [hi]
 ·rw [if_neg h, if_neg (fun e => h e.symm)]
def uns (bs : List Bool) : Nat := bs.countP (fun b => !b)
theorem uns_set {bs : List Bool} {i : Nat} (hi : i < bs.length) (hn : gb bs i = false) : uns (bs.set i true) + 1 = uns bs := by
 have e : gb bs i = bs[i] := by unfold gb; rw [List.getD_eq_getElem?_getD, List.getElem?_eq_getElem hi]; rfl
 have hb : bs[i] = false := by rw [← e, hn]
 have hp : 0 < uns bs := by
  unfold uns
  rw [List.countP_pos_iff]
  exact ⟨bs[i], List.getElem_mem hi, by rw [hb]; rfl⟩
 unfold uns at hp ⊢
 rw [List.countP_set hi, hb]
 simp only [Bool.not_false, if_true, Bool.not_true, Bool.false_eq_true, if_false]
 omega
structure SQ (d : Dg) (k : Nat) (bs : List Bool) : Prop where
 len : bs.length = 4 * d.n
 iff : ∀ g, g < 4 * d.n → (gb bs g = true ↔ ∃ h, h < k ∧ Orb (nx d) h g)
theorem SQ.start (d : Dg) : SQ d 0 (List.replicate (4 * d.n) false) := by
 refine ⟨by simp, fun g hg => ?_⟩
 have : gb (List.replicate (4 * d.n) false) g = false := by
  unfold gb; rw [List.getD_eq_getElem?_getD, List.getElem?_replicate, if_pos hg]; rfl
 rw [this]
 exact ⟨fun h => (Bool.false_ne_true h).elim, fun ⟨h, h1, _⟩ => by omega⟩
structure SI (d : Dg) (k i : Nat) (bs : List Bool) : Prop where
 len : bs.length = 4 * d.n
 hk : k < 4 * d.n
 new : ¬ ∃ h, h < k ∧ Orb (nx d) h k
 iff : ∀ g, g < 4 * d.n → (gb bs g = true ↔ (∃ h, h < k ∧ Orb (nx d) h g) ∨ ∃ j, j < i ∧ it (nx d) j k = g)
theorem SQ.seen (hd : Wf d) {k : Nat} {bs : List Bool} (h : SQ d k bs) (hk : k < 4 * d.n) (hs : gb bs k = true) : SQ d (k + 1) bs ∧ ¬ Least (nx d) k := by
 obtain ⟨h0, h1, h2⟩ := (h.iff k hk).1 hs
 have h0n : h0 < 4 * d.n := by omega
 refine ⟨⟨h.len, fun g hg => (h.iff g hg).trans ⟨fun ⟨x, hx, e⟩ => ⟨x, by omega, e⟩, fun ⟨x, hx, e⟩ => ?_⟩⟩, fun hl => ?_⟩
 ·by_cases e2 : x = k
  ·subst e2; exact ⟨h0, h1, h2.trans e⟩
  ·exact ⟨x, by omega, e⟩
 ·obtain ⟨j, hj⟩ := hd.nxb.symm h0n h2
  have := hl j
  omega
theorem SQ.enter (hd : Wf d) {k : Nat} {bs : List Bool} (h : SQ d k bs) (hk : k < 4 * d.n) (hs : gb bs k = false) : SI d k 0 bs ∧ Least (nx d) k := by
 have hn : ¬ ∃ h, h < k ∧ Orb (nx d) h k := fun e => by rw [(h.iff k hk).2 e] at hs; cases hs
 refine ⟨⟨h.len, hk, hn, fun g hg => (h.iff g hg).trans ⟨.inl, fun e => e.resolve_right (fun ⟨j, hj, _⟩ => by omega)⟩⟩, fun j => ?_⟩
 refine Nat.le_of_not_lt fun hlt => hn ⟨_, hlt, hd.nxb.symm hk ⟨j, rfl⟩⟩
theorem SI.lt (hd : Wf d) {k i : Nat} {bs : List Bool} (h : SI d k i bs) : it (nx d) i k < 4 * d.n := hd.nxb.it i k h.hk
theorem SI.step (hd : Wf d) {k i : Nat} {bs : List Bool} (h : SI d k i bs) : SI d k (i + 1) (bs.set (it (nx d) i k) true) := by
 have hl : it (nx d) i k < bs.length := by rw [h.len]; exact h.lt hd
 refine ⟨by rw [List.length_set, h.len], h.hk, h.new, fun g hg => ?_⟩
 rw [gb_set hl]
 by_cases e : g = it (nx d) i k
 ·rw [if_pos e]
  exact ⟨fun _ => .inr ⟨i, by omega, e.symm⟩, fun _ => rfl⟩
 ·rw [if_neg e, h.iff g hg]
  constructor
  ·rintro (h1 | ⟨j, hj, e1⟩)
   ·exact .inl h1
   ·exact .inr ⟨j, by omega, e1⟩
  ·rintro (h1 | ⟨j, hj, e1⟩)
   ·exact .inl h1
   ·by_cases e2 : j = i
    ·subst e2; exact absurd e1.symm e
    ·exact .inr ⟨j, by omega, e1⟩
theorem SI.done (hd : Wf d) {k i : Nat} {bs : List Bool} (h : SI d k i bs) (hs : gb bs (it (nx d) i k) = true) : SQ d (k + 1) bs := by
 have hb := hd.nxb
 -- the face has come back
 have hback : ∃ p, 0 < p ∧ p ≤ i ∧ it (nx d) p k = k := by
  rcases (h.iff _ (h.lt hd)).1 hs with ⟨x, hx, e⟩ | ⟨j, hj, e⟩
  ·exact absurd ⟨x, hx, e.trans (hb.symm h.hk ⟨i, rfl⟩)⟩ h.new
  ·refine ⟨i - j, by omega, by omega, ?_⟩
   have e2 : it (nx d) i k = it (nx d) j (it (nx d) (i - j) k) := by rw [← it_add, Nat.add_sub_cancel' (by omega)]
   rw [e2] at e
   exact (hb.it_inj j _ _ h.hk (hb.it _ k h.hk) e).symm
 obtain ⟨p, hp, hpi, e⟩ := hback
 have all : ∀ g, Orb (nx d) k g → ∃ j, j < i ∧ it (nx d) j k = g := by
  intro g hg
  have : ∃ j, j < p ∧ it (nx d) j k = g := orb_closed (P := fun g => ∃ j, j < p ∧ it (nx d) j k = g) (fun z ⟨j, hj, ej⟩ => by
   by_cases e3 : j + 1 = p
   ·refine ⟨0, hp, ?_⟩
    rw [← ej]
    show k = it (nx d) (j + 1) k
    rw [e3, e]
   ·exact ⟨j + 1, by omega, by rw [← ej]; rfl⟩) ⟨0, hp, rfl⟩ hg
  obtain ⟨j, hj, ej⟩ := this
  exact ⟨j, by omega, ej⟩
 refine ⟨h.len, fun g hg => (h.iff g hg).trans ⟨?_, ?_⟩⟩
 ·rintro (⟨x, hx, e1⟩ | ⟨j, _, e1⟩)
  ·exact ⟨x, by omega, e1⟩
  ·exact ⟨k, by omega, j, e1⟩
 ·rintro ⟨x, hx, e1⟩
  by_cases e2 : x = k
  ·subst e2; exact .inr (all g e1)
  ·exact .inl ⟨x, by omega, e1⟩
noncomputable def nv (ps : List Int) (p k : Nat) : Nat := cnt (fun a => pv ps a = p) k
noncomputable def nf (d : Dg) (ps : List Int) (p k : Nat) : Nat := cnt (fun h => Least (nx d) h ∧ pv ps (h / 4) = p) k
def Ex (d : Dg) (ps es : List Int) (P k m : Nat) : Prop := es.length = P ∧ ∀ p, p < P → pv es p = (nf d ps p m : Int) - (nv ps p k : Int)
theorem Ex.start (d : Dg) (ps : List Int) (P : Nat) : Ex d ps (List.replicate P 0) P 0 0 := by
 refine ⟨by simp, fun p hp => ?_⟩
 have : pv (List.replicate P 0) p = 0 := by
  unfold pv; rw [List.getD_eq_getElem?_getD, List.getElem?_replicate, if_pos hp]; rfl
 rw [this]
 simp [nf, nv, cnt]
theorem Ex.less {ps es : List Int} {P k : Nat} (h : Ex d ps es P k 0) {q : Nat} (hq : q < P) (e : pv ps k = q) : Ex d ps (es.set q (pv es q - 1)) P (k + 1) 0 := by
 refine ⟨by rw [List.length_set, h.1], fun p hp => ?_⟩
 rw [pv_set (by rw [h.1]; exact hq)]
 have hp0 := h.2 p hp
 by_cases e2 : p = q
 ·subst e2
  rw [if_pos rfl, hp0]
  unfold nv
  rw [cnt_step_pos e]; omega
 ·rw [if_neg e2, hp0]
  unfold nv
  rw [cnt_step_neg (fun e3 => e2 (by rw [e] at e3; omega))]
theorem Ex.more {ps es : List Int} {P k m : Nat} (h : Ex d ps es P k m) {q : Nat} (hq : q < P) (e : pv ps (m / 4) = q) (hl : Least (nx d) m) : Ex d ps (es.set q (pv es q + 1)) P k (m + 1) := by
 refine ⟨by rw [List.length_set, h.1], fun p hp => ?_⟩
 rw [pv_set (by rw [h.1]; exact hq)]
 have hp0 := h.2 p hp
 by_cases e2 : p = q
 ·subst e2
  rw [if_pos rfl, hp0]
  unfold nf
  rw [cnt_step_pos ⟨hl, e⟩]; omega
 ·rw [if_neg e2, hp0]
  unfold nf
  rw [cnt_step_neg (fun e3 => e2 (by have := e3.2; rw [e] at this; omega))]
theorem Ex.same {ps es : List Int} {P k m : Nat} (h : Ex d ps es P k m) (hl : ¬ Least (nx d) m) : Ex d ps es P k (m + 1) := by
 refine ⟨h.1, fun p hp => ?_⟩
 rw [h.2 p hp]
 unfold nf
 rw [cnt_step_neg (fun e3 => hl e3.1)]
def Rule (d : Dg) : Prop := ∀ c, c < d.n → cnt (fun h => Least (nx d) h ∧ Comp d c (h / 4)) (4 * d.n) = cnt (fun b => Comp d c b) d.n + 2
theorem Ex.rule (hd : Wf d) {ps es : List Int} {P : Nat} (hb : LB d ps P) (hall : ∀ a, a < d.n → 0 ≤ pv ps a) (h : Ex d ps es P d.n (4 * d.n)) : (∀ p, p < P → pv es p = 2) ↔ Rule d := by
 have key : ∀ c p : Nat, c < d.n → pv ps c = p → nf d ps p (4 * d.n) = cnt (fun h => Least (nx d) h ∧ Comp d c (h / 4)) (4 * d.n) ∧ nv ps p d.n = cnt (fun b => Comp d c b) d.n := by
  intro c p hc e
  have one : ∀ b, b < d.n → (pv ps b = p ↔ Comp d c b) := fun b hb' => ⟨fun e2 => hb.conn c b hc hb' (hall c hc) (by rw [e, e2]), fun e2 => by rw [hb.same c b hc e2 (hall c hc), e]⟩
  refine ⟨cnt_congr _ (fun x hx => ?_), cnt_congr _ (fun x hx => one x hx)⟩
  rw [one (x / 4) (by omega)]
 constructor
 ·intro h2 c hc
  have hlo := hb.lo c hc
  have h0 := hall c hc
  obtain ⟨p, hp⟩ : ∃ p : Nat, pv ps c = p := ⟨(pv ps c).toNat, by omega⟩
  obtain ⟨k1, k2⟩ := key c p hc hp
  have h3 := h2 p (by omega)
  rw [h.2 p (by omega), k1, k2] at h3
  omega
 ·intro h2 p hp
  obtain ⟨c, hc, e⟩ := hb.all p hp
  obtain ⟨k1, k2⟩ := key c p hc e
  rw [h.2 p hp, k1, k2, h2 c hc]
  omega
end Go.Proofs.YtcaoblilkgajoaaDoor.Pl
end
