/-
  The texts Slt, Xo, Xp, Xr in one.
-/
import Derived.Test.YtghdiolnonejaaaB03
import Derived.Test.YtghdiolnonejaaaB17
import Derived.Test.YtghdiolnonejaaaB09
import Derived.Deep.AppendLies
import Derived.Test.YtghdiolnonejaaaB15
set_option linter.unusedVariables false
set_option linter.unusedSimpArgs false

section
namespace Go.Proofs.Ytghdiolnonejaaa.Pl
section
variable {S : Nat → Prop} {r a t : Nat → Nat} {h0 h1 h2 p0 p1 p2 u0 u1 u2 v0 v1 v2 : Nat}
theorem perm_flip : [u0, u1, u2, v0, v1, v2, h0, h1, h2, p0, p1, p2].Perm [h0, h1, h2, p0, p1, p2, u0, u1, u2, v0, v1, v2] :=
  List.perm_append_comm (l₁ := [u0, u1, u2, v0, v1, v2]) (l₂ := [h0, h1, h2, p0, p1, p2])
/-- The triangle on the other side. -/
theorem Tri.flip (T : Tri S r a t h0 h1 h2 p0 p1 p2 u0 u1 u2 v0 v1 v2) : Tri S r (cj t a) t u0 u1 u2 v0 v1 v2 h0 h1 h2 p0 p1 p2 := by
  refine ⟨fun x hx => T.mem x (perm_flip.mem_iff.1 hx), T.rp0, T.rp1, T.rp2, T.rh0, T.rh1, T.rh2, T.rv0, T.rv1, T.rv2, T.ru0, T.ru1, T.ru2, ?_, ?_, ?_, ?_, ?_, ?_, ?_, T.th0, T.th1, T.th2, T.tv1, T.tv2, T.tv0, T.tp0, T.tp1, T.tp2, T.tu2, T.tu0, T.tu1, fun x hx => T.tx x (fun h => hx (perm_flip.mem_iff.2 h))⟩
  · unfold cj; rw [T.tu0, T.ap1, T.th0]
  · unfold cj; rw [T.tu1, T.ap2, T.th1]
  · unfold cj; rw [T.tu2, T.ap0, T.th2]
  · unfold cj; rw [T.tv1, T.ah0, T.tp1]
  · unfold cj; rw [T.tv2, T.ah1, T.tp2]
  · unfold cj; rw [T.tv0, T.ah2, T.tp0]
  · exact perm_flip.nodup_iff.2 T.nd
end
/-- The joins of a slide, the outer half-edges one after the other. -/
structure Sj (N : Nat) (m f : Nat → Nat) (Ou In : Nat → Prop) : Prop where
  lt : ∀ x, x < N → m x < N
  inv : ∀ x, x < N → m (m x) = x
  fl : ∀ x, x < N → f x < N
  ff : ∀ x, f (f x) = x
  fO : ∀ x, Ou x → In (f x)
  fx : ∀ x, ¬ Ou x → ¬ In x → f x = x
  fI : ∀ x, In x → Ou (f x)
  mI : ∀ x, In x → In (m x)
  no : ∀ x, Ou x → ¬ In x
variable {N : Nat} {m f : Nat → Nat} {Ou In : Nat → Prop}
theorem Sj.far (h : Sj N m f Ou In) {u : Nat} (hu : u < N) (ho : Ou u) (hm : ¬ Ou (m u)) : f (m u) = m u :=
  h.fx _ hm (fun hi => h.no u ho (by have := h.mI _ hi; rwa [h.inv u hu] at this))
theorem Sj.step (h : Sj N m f Ou In) {l : List Nat} {k : Nat} (hl : Half N m (cj f m) (fun x => ∃ u, u < k ∧ Ou u ∧ (x = f u ∨ x = f (m u))) l) (hk : k < N) (ho : Ou k) :
    Half N m (cj f m) (fun x => ∃ u, u < k + 1 ∧ Ou u ∧ (x = f u ∨ x = f (m u))) ((l.set (f k) (f (m k))).set (f (m k)) (f k)) := by
  refine (hl.join (h.fl _ hk) (h.fl _ (h.lt _ hk)) (by unfold cj; rw [h.ff]) (by unfold cj; rw [h.ff, h.inv k hk])).mono ?_
  rintro x ⟨u, hu, hou, hx⟩
  by_cases e : u = k
  · subst e
    exact hx.elim (fun h => .inr (.inl h)) (fun h => .inr (.inr h))
  · exact .inl ⟨u, by omega, hou, hx⟩
theorem Sj.skip {l : List Nat} {k : Nat} (hl : Half N m (cj f m) (fun x => ∃ u, u < k ∧ Ou u ∧ (x = f u ∨ x = f (m u))) l) (ho : ¬ Ou k) :
    Half N m (cj f m) (fun x => ∃ u, u < k + 1 ∧ Ou u ∧ (x = f u ∨ x = f (m u))) l := by
  refine hl.mono ?_
  rintro x ⟨u, hu, hou, hx⟩
  by_cases e : u = k
  · subst e; exact absurd hou ho
  · exact ⟨u, by omega, hou, hx⟩
/-- .. and all of them, with the outer ones joined too. -/
theorem Sj.all (h : Sj N m f Ou In) {l : List Nat} {W : Nat → Prop} (hl : Half N m (cj f m) W l) (hw : ∀ u, u < N → Ou u → W (f u) ∧ W (f (m u)) ∧ W u) : ∀ x, x < N → l.getD x 0 = cj f m x := by
  refine hl.all (fun x hx => ?_)
  by_cases h1 : Ou x
  · exact .inl (hw x hx h1).2.2
  · by_cases h2 : In x
    · have := (hw (f x) (h.fl x hx) (h.fI x h2)).1
      rw [h.ff] at this
      exact .inl this
    · have e := h.fx x h1 h2
      by_cases h3 : Ou (m x)
      · have := (hw (m x) (h.lt x hx) h3).2.1
        rw [h.inv x hx, e] at this
        exact .inl this
      · have h4 : ¬ In (m x) := fun hi => h2 (by have := h.mI _ hi; rwa [h.inv x hx] at this)
        refine .inr ?_
        unfold cj
        rw [e, h.fx _ h3 h4]
end Go.Proofs.Ytghdiolnonejaaa.Pl
end

section
namespace Go.Proofs.Ytghdiolnonejaaa
open Go Go.RowKit
theorem tr_of {d : Pl.Dg} {h : Nat} (hh : h < 4 * d.n) (hi : is3 d h) : Pl.Tr d (th d h 0) (th d h 1) (th d h 2) :=
  ⟨hh, rfl, rfl, hi.1, hi.2.1, hi.2.2.1, hi.2.2.2⟩
/-- The exchange at the triangle of h. -/
def sT (d : Pl.Dg) (h x : Nat) : Nat := Pl.tu (th d h 0) (th d h 1) (th d h 2) x
def sO (d : Pl.Dg) (h x : Nat) : Prop := x = Pl.tn (th d h 0) 2 ∨ x = Pl.tn (th d h 1) 2 ∨ x = Pl.tn (th d h 2) 2 ∨ x = Pl.tn (th d h 0) 3 ∨ x = Pl.tn (th d h 1) 3 ∨ x = Pl.tn (th d h 2) 3
def sI (d : Pl.Dg) (h x : Nat) : Prop := x = th d h 0 ∨ x = th d h 1 ∨ x = th d h 2 ∨ x = Pl.tn (th d h 0) 1 ∨ x = Pl.tn (th d h 1) 1 ∨ x = Pl.tn (th d h 2) 1
abbrev TriAt (d : Pl.Dg) (h0 h1 h2 : Nat) (m t : Nat → Nat) : Prop :=
  Pl.Tri (Pl.dart d) Pl.rot m t h0 h1 h2 (Pl.tn h0 1) (Pl.tn h1 1) (Pl.tn h2 1) (Pl.tn h0 2) (Pl.tn h1 2) (Pl.tn h2 2) (Pl.tn h0 3) (Pl.tn h1 3) (Pl.tn h2 3)
theorem tri_at {d : Pl.Dg} (hd : Pl.Wf d) {h : Nat} (hh : h < 4 * d.n) (hi : is3 d h) : TriAt d (th d h 0) (th d h 1) (th d h 2) d.m (sT d h) := (tr_of hh hi).tri hd
theorem sj_at {d : Pl.Dg} (hd : Pl.Wf d) {h : Nat} (hh : h < 4 * d.n) (hi : is3 d h) : Pl.Sj (4 * d.n) d.m (sT d h) (sO d h) (sI d h) := by
  have T := tri_at hd hh hi
  refine ⟨hd.lt, hd.inv, fun x hx => ?_, T.tt, ?_, ?_, ?_, ?_, ?_⟩
  · exact T.tS x hx
  · rintro x (e | e | e | e | e | e) <;> rw [e]
    · rw [T.tu0]; simp [sI]
    · rw [T.tu1]; simp [sI]
    · rw [T.tu2]; simp [sI]
    · rw [T.tv0]; simp [sI]
    · rw [T.tv1]; simp [sI]
    · rw [T.tv2]; simp [sI]
  · intro x h1 h2
    unfold sO at h1
    unfold sI at h2
    refine T.tx x ?_
    simp only [List.mem_cons, List.not_mem_nil, or_false]
    intro h3
    rcases h3 with e | e | e | e | e | e | e | e | e | e | e | e <;> first | (apply h1; simp [e]; done) | (apply h2; simp [e]; done)
  · rintro x (e | e | e | e | e | e) <;> rw [e]
    · rw [T.th0]; simp [sO]
    · rw [T.th1]; simp [sO]
    · rw [T.th2]; simp [sO]
    · rw [T.tp0]; simp [sO]
    · rw [T.tp1]; simp [sO]
    · rw [T.tp2]; simp [sO]
  · rintro x (e | e | e | e | e | e) <;> rw [e]
    · rw [T.ah0]; simp [sI]
    · rw [T.ah1]; simp [sI]
    · rw [T.ah2]; simp [sI]
    · rw [T.ap0]; simp [sI]
    · rw [T.ap1]; simp [sI]
    · rw [T.ap2]; simp [sI]
  · obtain ⟨_, c1, c2, c3⟩ := hi
    intro x h1 h2
    unfold sO at h1
    unfold sI at h2
    have e0 : th d h 0 = h := rfl
    rw [e0] at h1 h2
    unfold Pl.tn at h1 h2
    rcases h1 with e | e | e | e | e | e <;> rcases h2 with e' | e' | e' | e' | e' | e' <;> omega
/-- Both ends of an edge, whichever its direction. -/
theorem ends {d : Pl.Dg} (hd : Pl.Wf d) {h k q : Nat} (hl : th d h k < 4 * d.n) (hq : d.m (th d h k) = Pl.tn q 1) :
    (sb d h k = Pl.tn (th d h k) 2 ∧ so d h k = th d h k ∧ si d h k = Pl.tn q 1 ∧ sf d h k = Pl.tn q 3) ∨ (sb d h k = Pl.tn q 3 ∧ so d h k = Pl.tn q 1 ∧ si d h k = th d h k ∧ sf d h k = Pl.tn (th d h k) 2) := by
  have e3 : Pl.tn (Pl.tn q 1) 2 = Pl.tn q 3 := Pl.tn_tn _ _ _
  by_cases ho : Pl.out d (th d h k) = true
  · left
    have e1 : eo d (th d h k) = th d h k := by unfold eo; rw [if_pos ho]
    have e2 : ei d (th d h k) = Pl.tn q 1 := by unfold ei; rw [e1, hq]
    exact ⟨by unfold sb; rw [e1], e1, e2, by unfold sf; rw [e2, e3]⟩
  · right
    have e1 : eo d (th d h k) = Pl.tn q 1 := by unfold eo; rw [if_neg ho, hq]
    have e2 : ei d (th d h k) = th d h k := by unfold ei; rw [e1, ← hq, hd.inv _ hl]
    exact ⟨by unfold sb; rw [e1, e3], e1, e2, by unfold sf; rw [e2]⟩
theorem sTo_s {d : Pl.Dg} (hd : Pl.Wf d) {h k q : Nat} (hl : th d h k < 4 * d.n) (hq : d.m (th d h k) = Pl.tn q 1) (hql : q < 4 * d.n) (hne : Pl.tn (th d h k) 2 ≠ Pl.tn q 3) (x : Nat) :
    (sTo d h (k + 1)).getD x 0 = if x = Pl.tn (th d h k) 2 then Pl.tn q 1 else if x = Pl.tn q 3 then th d h k else (sTo d h k).getD x 0 := by
  have l1 : Pl.tn (th d h k) 2 < (sTo d h k).length := by rw [sTo_len]; exact Pl.tn_lt hl
  have l2 : Pl.tn q 3 < (sTo d h k).length := by rw [sTo_len]; exact Pl.tn_lt hql
  show (((sTo d h k).set (sb d h k) (si d h k)).set (sf d h k) (so d h k)).getD x 0 = _
  rcases ends hd hl hq with ⟨e1, e2, e3, e4⟩ | ⟨e1, e2, e3, e4⟩ <;> rw [e1, e2, e3, e4]
  · rw [Pl.set_getD _ _ _ _ (by simpa using l2), Pl.set_getD _ _ _ _ l1]
    by_cases h1 : x = Pl.tn q 3
    · rw [if_pos h1, if_neg (fun h2 => hne (h2.symm.trans h1)), if_pos h1]
    · rw [if_neg h1, if_neg h1]
  · rw [Pl.set_getD _ _ _ _ (by simpa using l1), Pl.set_getD _ _ _ _ l2]
theorem setB (l : List Bool) (a x : Nat) (ha : a < l.length) : (l.set a true).getD x false = if x = a then true else l.getD x false := by
  rw [List.getD_eq_getElem?_getD, List.getElem?_set, List.getD_eq_getElem?_getD]
  by_cases h : a = x
  · subst h; simp [ha]
  · rw [if_neg h, if_neg (Ne.symm h)]
theorem sOu_s {d : Pl.Dg} (hd : Pl.Wf d) {h k q : Nat} (hl : th d h k < 4 * d.n) (hq : d.m (th d h k) = Pl.tn q 1) (hql : q < 4 * d.n) (x : Nat) :
    (sOu d h (k + 1)).getD x false = true ↔ x = Pl.tn (th d h k) 2 ∨ x = Pl.tn q 3 ∨ (sOu d h k).getD x false = true := by
  have l1 : Pl.tn (th d h k) 2 < (sOu d h k).length := by rw [sOu_len]; exact Pl.tn_lt hl
  have l2 : Pl.tn q 3 < (sOu d h k).length := by rw [sOu_len]; exact Pl.tn_lt hql
  show (((sOu d h k).set (sb d h k) true).set (sf d h k) true).getD x false = true ↔ _
  rcases ends hd hl hq with ⟨e1, e2, e3, e4⟩ | ⟨e1, e2, e3, e4⟩ <;> rw [e1, e4]
  · rw [setB _ _ _ (by simpa using l2), setB _ _ _ l1]
    by_cases h1 : x = Pl.tn q 3
    · simp [h1]
    · by_cases h2 : x = Pl.tn (th d h k) 2 <;> simp [h1, h2]
  · rw [setB _ _ _ (by simpa using l1), setB _ _ _ l2]
    by_cases h1 : x = Pl.tn q 3
    · simp [h1]
    · by_cases h2 : x = Pl.tn (th d h k) 2 <;> simp [h1, h2]
section
variable {d : Pl.Dg} {h : Nat}
theorem sTo_v (hd : Pl.Wf d) (hh : h < 4 * d.n) (hi : is3 d h) {x : Nat} (hx : x < 4 * d.n) : (sO d h x → (sTo d h 3).getD x 0 = sT d h x) ∧ (¬ sO d h x → (sTo d h 3).getD x 0 = x) := by
  have T := tri_at hd hh hi
  have t0 := th_lt hd hh 0
  have t1 := th_lt hd hh 1
  have t2 := th_lt hd hh 2
  obtain ⟨_, c1, c2, c3⟩ := hi
  have c0 : th d h 0 = h := rfl
  have s2 := sTo_s hd (h := h) (k := 2) (q := th d h 0) t2 T.ah2 t0 (by unfold Pl.tn; omega) x
  have s1 := sTo_s hd (h := h) (k := 1) (q := th d h 2) t1 T.ah1 t2 (by unfold Pl.tn; omega) x
  have s0 := sTo_s hd (h := h) (k := 0) (q := th d h 1) t0 T.ah0 t1 (by unfold Pl.tn; omega) x
  have sz : (sTo d h 0).getD x 0 = x := by simp [sTo, List.getD_eq_getElem?_getD, hx]
  rw [s2, s1, s0, sz]
  have n := T.nd
  constructor
  · rintro (e | e | e | e | e | e) <;> rw [e]
    · rw [T.tu0, if_neg (by unfold Pl.tn; omega), if_neg (by unfold Pl.tn; omega), if_neg (by unfold Pl.tn; omega), if_neg (by unfold Pl.tn; omega), if_pos rfl]
    · rw [T.tu1, if_neg (by unfold Pl.tn; omega), if_neg (by unfold Pl.tn; omega), if_pos rfl]
    · rw [T.tu2, if_pos rfl]
    · rw [T.tv0, if_neg (by unfold Pl.tn; omega), if_pos rfl]
    · rw [T.tv1, if_neg (by unfold Pl.tn; omega), if_neg (by unfold Pl.tn; omega), if_neg (by unfold Pl.tn; omega), if_neg (by unfold Pl.tn; omega), if_neg (by unfold Pl.tn; omega), if_pos rfl]
    · rw [T.tv2, if_neg (by unfold Pl.tn; omega), if_neg (by unfold Pl.tn; omega), if_neg (by unfold Pl.tn; omega), if_pos rfl]
  · intro hn
    unfold sO at hn
    rw [if_neg (fun e => hn (by simp [e])), if_neg (fun e => hn (by simp [e])), if_neg (fun e => hn (by simp [e])), if_neg (fun e => hn (by simp [e])), if_neg (fun e => hn (by simp [e])), if_neg (fun e => hn (by simp [e]))]
theorem sOu_v (hd : Pl.Wf d) (hh : h < 4 * d.n) (hi : is3 d h) (x : Nat) : (sOu d h 3).getD x false = true ↔ sO d h x := by
  have T := tri_at hd hh hi
  have t0 := th_lt hd hh 0
  have t1 := th_lt hd hh 1
  have t2 := th_lt hd hh 2
  have s2 := sOu_s hd (h := h) (k := 2) (q := th d h 0) t2 T.ah2 t0 x
  have s1 := sOu_s hd (h := h) (k := 1) (q := th d h 2) t1 T.ah1 t2 x
  have s0 := sOu_s hd (h := h) (k := 0) (q := th d h 1) t0 T.ah0 t1 x
  have sz : (sOu d h 0).getD x false = false := by
    unfold sOu
    rw [List.getD_eq_getElem?_getD, List.getElem?_replicate]
    split <;> rfl
  rw [s2, s1, s0, sz]
  unfold sO
  constructor
  · rintro (h | h | h | h | h | h | h)
    · exact .inr (.inr (.inl h))
    · exact .inr (.inr (.inr (.inl h)))
    · exact .inr (.inl h)
    · exact .inr (.inr (.inr (.inr (.inr h))))
    · exact .inl h
    · exact .inr (.inr (.inr (.inr (.inl h))))
    · cases h
  · rintro (h | h | h | h | h | h) <;> simp [h]
theorem jn_eq (l : List Nat) (a b : Nat) : jn l a b = (l.set a b).set b a := rfl
theorem sM_half (hd : Pl.Wf d) (hh : h < 4 * d.n) (hi : is3 d h) : ∀ k, k ≤ 4 * d.n → Pl.Half (4 * d.n) d.m (Pl.cj (sT d h) d.m) (fun x => ∃ u, u < k ∧ sO d h u ∧ (x = sT d h u ∨ x = sT d h (d.m u))) (sM d h k)
  | 0, _ => ⟨hd.len, fun x hx => .inr ⟨getD_m (by rw [hd.len]; exact hx), fun ⟨u, h, _⟩ => absurd h (by omega)⟩⟩
  | k + 1, hk => by
    have ih := sM_half hd hh hi k (by omega)
    have J := sj_at hd hh hi
    have hk2 : k < 4 * d.n := by omega
    show Pl.Half _ _ _ _ (if (sOu d h 3).getD k false = true then jn (sM d h k) ((sTo d h 3).getD k 0) ((sTo d h 3).getD (d.m k) 0) else sM d h k)
    by_cases ho : sO d h k
    · rw [if_pos ((sOu_v hd hh hi k).2 ho), (sTo_v hd hh hi hk2).1 ho, jn_eq]
      have e : (sTo d h 3).getD (d.m k) 0 = sT d h (d.m k) := by
        by_cases h2 : sO d h (d.m k)
        · exact (sTo_v hd hh hi (hd.lt k hk2)).1 h2
        · rw [(sTo_v hd hh hi (hd.lt k hk2)).2 h2, J.far hk2 ho h2]
      rw [e]
      exact J.step ih hk2 ho
    · rw [if_neg (fun h2 => ho ((sOu_v hd hh hi k).1 h2))]
      exact Pl.Sj.skip ih ho
theorem sF_half (hd : Pl.Wf d) (hh : h < 4 * d.n) (hi : is3 d h) {k q : Nat} {W : Nat → Prop} (hl : Pl.Half (4 * d.n) d.m (Pl.cj (sT d h) d.m) W (sF d h k)) (hq : d.m (th d h k) = Pl.tn q 1) (hql : q < 4 * d.n) (e : Pl.cj (sT d h) d.m (Pl.tn (th d h k) 2) = Pl.tn q 3) :
    Pl.Half (4 * d.n) d.m (Pl.cj (sT d h) d.m) (fun x => W x ∨ x = Pl.tn (th d h k) 2 ∨ x = Pl.tn q 3) (sF d h (k + 1)) := by
  have J := sj_at hd hh hi
  have lh := th_lt hd hh k
  have l1 : Pl.tn (th d h k) 2 < 4 * d.n := Pl.tn_lt lh
  have l2 : Pl.tn q 3 < 4 * d.n := Pl.tn_lt hql
  have e' : Pl.cj (sT d h) d.m (Pl.tn q 3) = Pl.tn (th d h k) 2 := by
    rw [← e]
    unfold Pl.cj
    rw [J.ff, J.inv _ (J.fl _ l1), J.ff]
  show Pl.Half _ _ _ _ (jn (sF d h k) (sb d h k) (sf d h k))
  rw [jn_eq]
  rcases ends hd lh hq with ⟨e1, _, _, e4⟩ | ⟨e1, _, _, e4⟩ <;> rw [e1, e4]
  · exact hl.join l1 l2 e e'
  · refine (hl.join l2 l1 e' e).mono ?_
    rintro x (h | h | h)
    · exact .inl h
    · exact .inr (.inr h)
    · exact .inr (.inl h)
/-- The mates after a slide: the old ones, at exchanged places. -/
theorem sF_v (hd : Pl.Wf d) (hh : h < 4 * d.n) (hi : is3 d h) : ∀ x, x < 4 * d.n → (sF d h 3).getD x 0 = Pl.cj (sT d h) d.m x := by
  have T := tri_at hd hh hi
  have T' := T.flip
  have J := sj_at hd hh hi
  have t0 := th_lt hd hh 0
  have t1 := th_lt hd hh 1
  have t2 := th_lt hd hh 2
  have a0 : Pl.Half (4 * d.n) d.m (Pl.cj (sT d h) d.m) _ (sF d h 0) := sM_half hd hh hi (4 * d.n) (Nat.le_refl _)
  have a1 := sF_half hd hh hi (k := 0) (q := th d h 1) a0 T.ah0 t1 T'.ah0
  have a2 := sF_half hd hh hi (k := 1) (q := th d h 2) a1 T.ah1 t2 T'.ah1
  have a3 := sF_half hd hh hi (k := 2) (q := th d h 0) a2 T.ah2 t0 T'.ah2
  refine J.all a3 (fun u hu ho => ⟨?_, ?_, ?_⟩)
  · exact .inl (.inl (.inl ⟨u, hu, ho, .inl rfl⟩))
  · exact .inl (.inl (.inl ⟨u, hu, ho, .inr rfl⟩))
  · rcases ho with h | h | h | h | h | h <;> simp [h]
theorem sld_m (hd : Pl.Wf d) (hh : h < 4 * d.n) (hi : is3 d h) : ∀ x, x < 4 * d.n → (sldD d h).m x = Pl.cj (sT d h) d.m x := fun x hx => by
  rw [← sF_v hd hh hi x hx, ← getD_m (by show x < (sF d h 3).length; rw [sF_len hd]; exact hx)]
  rfl
/-- A slide keeps a diagram valid. -/
theorem sld_valid (hd : Pl.Valid d) (hh : h < 4 * d.n) (hi : is3 d h) : Pl.Valid (sldD d h) :=
  have hw := (Pl.Valid.iff.1 hd).1
  (tr_of hh hi).valid hd rfl rfl (sF_len hw h 3) (sld_m hw hh hi)
end
end Go.Proofs.Ytghdiolnonejaaa
end

section
namespace Go.Proofs.Ytghdiolnonejaaa
open Go Go.RowKit
attribute [local go_sem ↓] Go.wp_at_zero Go.wp_at_succ
theorem moveInfo : (Try.prog.info? 37).map (fun i => (i.zero, i.size, i.bytes)) = some (some (.agg #[.int .i64 0, .int .i64 0, .int .i64 0, .int .i64 0, .bool false]), 5, 40) := by kernel_rfl
def Mv.cells (m : Mv) : List Value := [.int .i64 m.kind, .int .i64 m.x, .int .i64 m.y, .int .i64 m.sign, .bool m.over]
def mvs (ms : List Mv) : List Value := ms.flatMap Mv.cells
theorem mvs_len : ∀ ms : List Mv, (mvs ms).length = ms.length * 5
  | [] => rfl
  | m :: ms => by
    have := mvs_len ms
    unfold mvs at this ⊢
    rw [List.flatMap_cons, List.length_append, this, List.length_cons]
    simp [Mv.cells]
    omega
theorem mvs_app (ms : List Mv) (m : Mv) : mvs (ms ++ [m]) = mvs ms ++ m.cells := by unfold mvs; simp
/-- A diagram and a list of moves, each in its box. -/
structure ML (w : World) (gd gl : Nat) (dv : List Value) (v : Value) (ms : List Mv) (W : World) : Prop where
  d : Row W gd 24 dv
  l : Row W gl 27 [v]
  o : W.ownsRow (gl + 1) 37 5 v ms.length (mvs ms)
  bel : Below w.heap.size w W
  lo : w.heap.size ≤ gd
  lt : gd < gl
section
variable {w W W' W2 : World} {gd gl : Nat} {dv : List Value} {v v' : Value} {ms : List Mv} {m : Mv}
theorem own_below {base : Nat} {e : TypeId} {size n : Nat} {xs : List Value} (h : W.ownsRow base e size v n xs) (hb : Below W.heap.size W W') : W'.ownsRow base e size v n xs := by
  refine ⟨h.1, ?_⟩
  rcases h.2 with hz | ⟨g, cap, cur, r1, r2, r3, r4⟩
  · exact .inl hz
  · exact .inr ⟨g, cap, cur, r1, r2, (hb.block g (lt_of_heap r3)).trans r3, r4⟩
theorem ML.below (h : ML w gd gl dv v ms W) (hb : Below W.heap.size W W') : ML w gd gl dv v ms W' :=
  ⟨h.d.below hb, h.l.below hb, own_below h.o hb, h.bel.trans (hb.mono h.bel.size), h.lo, h.lt⟩
theorem ML.alloc (h : ML w gd gl dv v ms W) (o : Obj) : ML w gd gl dv v ms (W.alloc o) := h.below ((Below.refl _ _).alloc (Nat.le_refl _) o)
theorem ML.drew (h : ML w gd gl dv v ms W) : ML w gd gl dv v ms W.drew := ⟨h.d, h.l, h.o, h.bel.drew, h.lo, h.lt⟩
theorem ML.big (h : ML w gd gl dv v ms W) : gl < W.heap.size := h.l.lt
theorem ML.other (h : ML w gd gl dv v ms W) {g : Nat} (hg : W.heap.size ≤ g) (o : Nat) (x : Value) : ML w gd gl dv v ms (W.setCell ⟨g, o, none⟩ x) :=
  h.below ((Below.refl _ _).setCell hg x)
theorem ML.far (h : ML w gd gl dv v ms W) {g : Nat} (hg : g ≤ gl) : some g ≠ v.ownBlock := fun e => by have := (h.o.lt g e.symm).1; omega
theorem ML.push (h : ML w gd gl dv v ms W) (own : W2.ownsRow (gl + 1) 37 5 v' (ms.length + 1) (mvs ms ++ m.cells)) (gr : W.grownBy W2 v.ownBlock) : ML w gd gl dv v' (ms ++ [m]) (W2.setCell ⟨gl, 0, none⟩ v') := by
  have a := h.lo
  have b := h.lt
  refine ⟨(h.d.grown gr (h.far (by omega))).other (by show gd ≠ gl; omega) _, (h.l.grown gr (h.far (Nat.le_refl _))).set 0 v', ?_, ?_, h.lo, h.lt⟩
  · rw [mvs_app, List.length_append]
    exact ownsRow_setCell_below own (by show gl < gl + 1; omega) _
  · exact (h.bel.grown gr h.bel.size (fun k hk => by have := (h.o.lt k hk).1; omega)).setCell (by show _ ≤ gl; omega) _
end
theorem five_news (W : World) (g : Nat) (hg : W.heap.size = g) (m : Mv) : ∀ j u, m.cells[j]? = some u → (W.alloc (.cells m.cells.toArray 37)).cell? ((⟨g, 0, none⟩ : Addr).add j) = some u := by
  subst hg
  intro j u hu
  rw [Addr.add_lit, Nat.zero_add]
  have hj : j < m.cells.length := by
    rcases Nat.lt_or_ge j m.cells.length with h | h
    · exact h
    · rw [List.getElem?_eq_none h] at hu; cases hu
  have := (Row.new W 37 m.cells).cell hj
  rw [this, ← hu, List.getElem?_eq_getElem hj]
theorem box1 {W : World} {g : Nat} {t : TypeId} {a : Value} (h : Row W g t [a]) : W.cell? ⟨g, 0, none⟩ = some a ∧ ∀ o, W.frozen? ⟨g, o, none⟩ = false := ⟨h.cell (i := 0) (by simp), h.free⟩
/-- One slide, if there is one at h that is the least of its triangle. -/
def slP (d : Pl.Dg) (h : Nat) : Prop := h ≤ th d h 1 ∧ h ≤ th d h 2 ∧ isT d h
open Classical in
noncomputable def slOne (d : Pl.Dg) (h : Nat) : List Mv := if slP d h then [⟨5, h, 0, 0, false⟩] else []
set_option maxRecDepth 100000 in
set_option maxHeartbeats 4000000 in
theorem slTry_any (d : Pl.Dg) (hd : Pl.Wf d) (A B : Option Addr) (cp cq m h gd gl : Nat) (v : Value) (ms : List Mv) (w0 w : World) (hm : m = 4 * d.n) (hg : DgAt w A B d) (hh : h < 4 * d.n) (hms : ms.length ≤ 1000)
    (hp : ML w0 gd gl [.slice A d.n cp, .slice B m cq, .int .i64 (d.lp : Int)] v ms w) :
    Calls Try.prog 107 #[.agg #[.int .i64 5, .int .i64 (h : Int), .int .i64 0, .int .i64 0, .bool false], .pointer (some ⟨gd, 0, none⟩), .pointer (some ⟨gl, 0, none⟩)] w fun e w' => e = .returned (.tuple #[]) ∧ ∃ v', ML w0 gd gl [.slice A d.n cp, .slice B m cq, .int .i64 (d.lp : Int)] v' (ms ++ slOne d h) w' := by
  have HM := hide hm
  have HG := hide hg
  have hn := hd.few
  have hm2 : m ≤ 256 := by omega
  have hHM : h < m := by omega
  obtain ⟨i, hi⟩ : ∃ i, i = th d h 1 := ⟨_, rfl⟩
  obtain ⟨j, hj⟩ : ∃ j, j = th d h 2 := ⟨_, rfl⟩
  have li : i < m := by have := th_lt hd hh 1; omega
  have lj : j < m := by have := th_lt hd hh 2; omega
  have HI := hide (show Pl.nx d h = i from hi.symm)
  have HJ := hide (show Pl.nx d i = j from by rw [hi, hj]; rfl)
  have HT := hide (show slP d h ↔ h ≤ i ∧ h ≤ j ∧ isT d h by unfold slP; rw [hi, hj])
  clear hi hj hm
  have ih0 : (0 : Int) ≤ (h : Int) ∧ (h : Int) < (m : Int) := by omega
  have ii0 : (0 : Int) ≤ (i : Int) ∧ (i : Int) < (m : Int) := by omega
  have hb0 : Below w.heap.size w (w.alloc (.cells #[.int .i64 5, .int .i64 (h : Int), .int .i64 0, .int .i64 0, .bool false] 37)) := (Below.refl _ _).alloc (Nat.le_refl _) _
  have HB0 := hide hb0
  have P1 := hide (hp.below hb0)
  have M1 := hide (row_at (W := w) (g := w.heap.size) (t := 37) (vs := [.int .i64 5, .int .i64 (h : Int), .int .i64 0, .int .i64 0, .bool false]) rfl)
  have hgl : gl < w.heap.size := hp.big
  have hgd : gd < gl := hp.lt
  clear hp hb0 hg
  obtain ⟨d0, d1, d2, d3⟩ := box3 P1.out.d
  obtain ⟨e0, e1, e2, e3, e4, e5⟩ := box5 M1.out
  go_enter Try.func107, Try.ntmps107
  go_wp2_with fail
  refine (next_i d hd B cq m (h : Int) _ HM.out ih0 (by rw [HM.out]; exact (HG.out.keep HB0.out).m)).mono ?_
  rintro e w1 ⟨rfl, rfl⟩
  rw [Int.toNat_natCast, HI.out]
  go_wp2_with fail
  refine (next_i d hd B cq m (i : Int) _ HM.out ii0 (by rw [HM.out]; exact (HG.out.keep HB0.out).m)).mono ?_
  rintro e w1 ⟨rfl, rfl⟩
  rw [Int.toNat_natCast, HJ.out]
  by_cases c1 : (i : Int) < (h : Int)
  · have E := hide (show slOne d h = [] by unfold slOne; rw [if_neg (fun h => by have := HT.out.1 h; omega)])
    go_wp2
    refine bodyPost_ret (results_none rfl _ _ _) rfl ⟨rfl, v, ?_⟩
    rw [E.out, List.append_nil]
    exact P1.out
  · by_cases c2 : (j : Int) < (h : Int)
    · have E := hide (show slOne d h = [] by unfold slOne; rw [if_neg (fun h => by have := HT.out.1 h; omega)])
      go_wp2
      refine bodyPost_ret (results_none rfl _ _ _) rfl ⟨rfl, v, ?_⟩
      rw [E.out, List.append_nil]
      exact P1.out
    · go_wp2_with fail
      refine (tri_v d hd A B cp cq m h _ HM.out (HG.out.keep HB0.out) hh).mono ?_
      rintro e w1 ⟨b0, o0, i0, f0, b1, o1, i1, f1, b2, o2, i2, f2, rfl, _, hb1⟩
      have P2 := hide (P1.out.below hb1)
      have M2 := hide (M1.out.below hb1)
      have hs1 := hb1.size
      have hs20 : w.heap.size + 1 ≤ w1.heap.size := by simpa using hs1
      have hs2 : w.heap.size < w1.heap.size := by omega
      clear hs20
      have hs3 : gl < w1.heap.size := by omega
      have hs4 : gl < w1.heap.size + 1 := by omega
      have hs5 : w.heap.size < w1.heap.size + 1 := by omega
      clear hb1 hs1 d0 d1 d2 d3 e0 e1 e2 e3 e4 e5
      obtain ⟨e0, e1, e2, e3, e4, e5⟩ := box5 M2.out
      by_cases hI : isT d h
      · rw [Pl.vb_true hI]
        have E := hide (show slOne d h = [⟨5, h, 0, 0, false⟩] by unfold slOne; rw [if_pos (HT.out.2 ⟨by omega, by omega, hI⟩)])
        clear hI
        obtain ⟨q0, q1⟩ := box1 P2.out.l
        obtain ⟨n0, hn0, hz0, hz1, hz2⟩ := info_parts moveInfo
        have P3 := hide (P2.out.alloc (.cells #[.int .i64 (b0 : Int), .int .i64 (o0 : Int), .int .i64 (i0 : Int), .int .i64 (f0 : Int), .int .i64 (b1 : Int), .int .i64 (o1 : Int), .int .i64 (i1 : Int), .int .i64 (f1 : Int), .int .i64 (b2 : Int), .int .i64 (o2 : Int), .int .i64 (i2 : Int), .int .i64 (f2 : Int)] 107))
        have A0 := hide (P3.out.alloc (.cells (Mv.cells ⟨5, h, 0, 0, false⟩).toArray 37)).o
        have A1 : ∀ u ∈ Mv.cells ⟨5, h, 0, 0, false⟩, u.oneCell' = true := by simp [Mv.cells, Value.oneCell']
        have A2 : ms.length + 1 ≤ maxLen := by unfold maxLen; omega
        have A3 : (ms.length + 1) * 40 ≤ 140737488355328 := by omega
        have A4 : gl + 1 ≤ w1.heap.size + 1 + 1 := by omega
        have A5 := five_news (w1.alloc (.cells #[.int .i64 (b0 : Int), .int .i64 (o0 : Int), .int .i64 (i0 : Int), .int .i64 (f0 : Int), .int .i64 (b1 : Int), .int .i64 (o1 : Int), .int .i64 (i1 : Int), .int .i64 (f1 : Int), .int .i64 (b2 : Int), .int .i64 (o2 : Int), .int .i64 (i2 : Int), .int .i64 (f2 : Int)] 107)) (w1.heap.size + 1) (by simp) ⟨5, h, 0, 0, false⟩
        have A6 := hide A5
        clear A5
        go_wp2_with (at_builtin; refine wpList_append_lies _ (by rfl) _ _ 27 (by rfl) (gl + 1) 37 n0 (.agg #[.int .i64 0, .int .i64 0, .int .i64 0, .int .i64 0, .bool false]) 5 40 Try.underlying27 hn0 hz0 hz1 hz2 rfl (by omega) v ms.length (mvs ms) (by rfl) A0.out ⟨w1.heap.size + 1, 0, none⟩ 1 1 (Mv.cells ⟨5, h, 0, 0, false⟩) (by rfl) (by rfl) A6.out A1 (by omega) A2 A3 (by simp; omega) (w1.heap.size + 1 + 1) (by simp) ?_; intro g2 c2 w2 own2 grow2 at2 lt2; obtain ⟨q2, q3⟩ := box1 ((P3.out.alloc (.cells (Mv.cells ⟨5, h, 0, 0, false⟩).toArray 37)).l.grown grow2 ((P3.out.alloc (.cells (Mv.cells ⟨5, h, 0, 0, false⟩).toArray 37)).far (Nat.le_refl _))); have OWN2 := hide own2; have GR2 := hide grow2; clear own2 grow2 at2)
        refine bodyPost_end (results_none rfl _ _ _) rfl ⟨rfl, .slice (some ⟨g2, 0, none⟩) (ms.length + 1) c2, ?_⟩
        rw [E.out]
        exact (P3.out.alloc _).push OWN2.out GR2.out
      · rw [Pl.vb_false hI]
        have E := hide (show slOne d h = [] by unfold slOne; rw [if_neg (fun h => hI (HT.out.1 h).2.2)])
        clear hI
        go_wp2
        refine bodyPost_end (results_none rfl _ _ _) rfl ⟨rfl, v, ?_⟩
        rw [E.out, List.append_nil]
        exact P2.out.alloc _
/-- All slides among the first k half-edges. -/
noncomputable def slL (d : Pl.Dg) : Nat → List Mv
  | 0 => []
  | k + 1 => slL d k ++ slOne d k
theorem slL_len (d : Pl.Dg) : ∀ k, (slL d k).length ≤ k
  | 0 => Nat.le_refl _
  | k + 1 => by
    have := slL_len d k
    unfold slL slOne
    rw [List.length_append]
    split <;> simp <;> omega
theorem slL_mem (d : Pl.Dg) (z : Mv) : ∀ k, z ∈ slL d k ↔ ∃ h, h < k ∧ slP d h ∧ z = ⟨5, h, 0, 0, false⟩
  | 0 => by simp [slL]
  | k + 1 => by
    unfold slL
    rw [List.mem_append, slL_mem d z k]
    constructor
    · rintro (⟨h, h1, h2, h3⟩ | h)
      · exact ⟨h, by omega, h2, h3⟩
      · unfold slOne at h
        split at h
        · rename_i hp
          exact ⟨k, by omega, hp, by simpa using h⟩
        · cases h
    · rintro ⟨h, h1, h2, h3⟩
      by_cases e : h = k
      · subst e
        right
        unfold slOne
        rw [if_pos h2, h3]
        simp
      · exact .inl ⟨h, by omega, h2, h3⟩
/-- A list of moves that came back. -/
def MovesAt (w : World) (v : Value) (ms : List Mv) : Prop := ∃ base, w.ownsRow base 37 5 v ms.length (mvs ms)
set_option maxRecDepth 100000 in
set_option maxHeartbeats 4000000 in
theorem slides_any (d : Pl.Dg) (hd : Pl.Wf d) (A B : Option Addr) (cp cq m : Nat) (w : World) (hm : m = 4 * d.n) (hg : DgAt w A B d) :
    Calls Try.prog 62 #[.agg #[.slice A d.n cp, .slice B m cq, .int .i64 d.lp]] w fun e w' => ∃ v, e = .returned v ∧ MovesAt w' v (slL d m) ∧ Below w.heap.size w w' := by
  have HM := hide hm
  have HG := hide hg
  have hn := hd.few
  have hm2 : m ≤ 256 := by omega
  have P0 := hide (show ML w w.heap.size (w.heap.size + 1) [.slice A d.n cp, .slice B m cq, .int .i64 (d.lp : Int)] (.slice none 0 0) [] ((w.alloc (.cells #[.slice A d.n cp, .slice B m cq, .int .i64 (d.lp : Int)] 24)).alloc (.cells #[.slice none 0 0] 27)) from
    ⟨(row_at (vs := [_, _, _]) rfl).alloc _, row_at (vs := [_]) (by simp), ⟨rfl, .inl ⟨rfl, rfl⟩⟩, ((Below.refl _ _).alloc (Nat.le_refl _) _).alloc (by simp) _, Nat.le_refl _, by omega⟩)
  clear hg hm
  go_enter Try.func62, Try.ntmps62
  go_wp2
  go_loopg [5, 10] m (fun g s5 s10 wx => ∃ (k : Nat) (v : Value), k + g = m ∧ s10 = .int .i64 (k : Int) ∧ ML w w.heap.size (w.heap.size + 1) [.slice A d.n cp, .slice B m cq, .int .i64 (d.lp : Int)] v (slL d k) wx)
  case atStart => exact ⟨0, _, by omega, rfl, P0.out⟩
  case round =>
    clear P0
    obtain ⟨k, v, hkg, rfl, hp⟩ := hrel
    have HKG := hide hkg
    have PK := hide hp
    have hlen := slL_len d k
    clear hp
    by_cases hk : k < m
    · have hki : (k : Int) < (m : Int) := by omega
      clear hkg
      go_wp2_with fail
      refine (slTry_any d hd A B cp cq m k w.heap.size (w.heap.size + 1) v (slL d k) w wr HM.out (HG.out.keep PK.out.bel) (by have := HM.out; omega) (by omega) PK.out).mono ?_
      rintro e w1 ⟨rfl, v', hp1⟩
      have P1 := hide hp1
      clear hp1
      go_wp2
      go_roundg (gk - 1)
      case measure => have := HKG.out; omega
      case rel => exact ⟨k + 1, v', by have := HKG.out; omega, by go_num, P1.out⟩
    · have hki : ¬ ((k : Int) < (m : Int)) := by omega
      have e : k = m := by omega
      subst e
      obtain ⟨q0, q1⟩ := box1 PK.out.l
      clear hkg
      go_wp2
      go_ret
      exact ⟨v, rfl, ⟨_, PK.out.o⟩, PK.out.bel⟩
end Go.Proofs.Ytghdiolnonejaaa
end

section
namespace Go.Proofs.Ytghdiolnonejaaa
open Go Go.RowKit
attribute [local go_sem ↓] Go.wp_at_zero Go.wp_at_succ
/-- A box of any type and a list of moves in its box. -/
structure MG (w : World) (T : TypeId) (gd gl : Nat) (dv : List Value) (v : Value) (ms : List Mv) (W : World) : Prop where
  d : Row W gd T dv
  l : Row W gl 27 [v]
  o : W.ownsRow (gl + 1) 37 5 v ms.length (mvs ms)
  bel : Below w.heap.size w W
  lo : w.heap.size ≤ gd
  lt : gd < gl
section
variable {w W W' W2 : World} {T : TypeId} {gd gl : Nat} {dv : List Value} {v v' : Value} {ms : List Mv} {m : Mv}
theorem MG.below (h : MG w T gd gl dv v ms W) (hb : Below W.heap.size W W') : MG w T gd gl dv v ms W' :=
  ⟨h.d.below hb, h.l.below hb, own_below h.o hb, h.bel.trans (hb.mono h.bel.size), h.lo, h.lt⟩
theorem MG.alloc (h : MG w T gd gl dv v ms W) (o : Obj) : MG w T gd gl dv v ms (W.alloc o) := h.below ((Below.refl _ _).alloc (Nat.le_refl _) o)
theorem MG.drew (h : MG w T gd gl dv v ms W) : MG w T gd gl dv v ms W.drew := ⟨h.d, h.l, h.o, h.bel.drew, h.lo, h.lt⟩
theorem MG.big (h : MG w T gd gl dv v ms W) : gl < W.heap.size := h.l.lt
theorem MG.far (h : MG w T gd gl dv v ms W) {g : Nat} (hg : g ≤ gl) : some g ≠ v.ownBlock := fun e => by have := (h.o.lt g e.symm).1; omega
theorem MG.push (h : MG w T gd gl dv v ms W) (own : W2.ownsRow (gl + 1) 37 5 v' (ms.length + 1) (mvs ms ++ m.cells)) (gr : W.grownBy W2 v.ownBlock) : MG w T gd gl dv v' (ms ++ [m]) (W2.setCell ⟨gl, 0, none⟩ v') := by
  have a := h.lo
  have b := h.lt
  refine ⟨(h.d.grown gr (h.far (by omega))).other (by show gd ≠ gl; omega) _, (h.l.grown gr (h.far (Nat.le_refl _))).set 0 v', ?_, ?_, h.lo, h.lt⟩
  · rw [mvs_app, List.length_append]
    exact ownsRow_setCell_below own (by show gl < gl + 1; omega) _
  · exact (h.bel.grown gr h.bel.size (fun k hk => by have := (h.o.lt k hk).1; omega)).setCell (by show _ ≤ gl; omega) _
end
/-- The move, if the code is 0. -/
def one (c : Int) (m : Mv) : List Mv := if c = 0 then [m] else []
theorem one_yes {c : Int} {m : Mv} (h : c = 0) : one c m = [m] := by unfold one; rw [if_pos h]
theorem one_no {c : Int} {m : Mv} (h : ¬ c = 0) : one c m = [] := by unfold one; rw [if_neg h]
theorem one_len (c : Int) (m : Mv) : (one c m).length ≤ 1 := by unfold one; split <;> simp
set_option maxRecDepth 100000 in
set_option maxHeartbeats 4000000 in
theorem cuTry_any (d : Pl.Dg) (hd : Pl.Wf d) (A B : Option Addr) (cp cq m gd gl : Nat) (v : Value) (ms : List Mv) (x s : Int) (o : Bool) (w0 w : World) (hm : m = 4 * d.n) (hg : DgAt w A B d) (hx : -1 ≤ x ∧ x < 4 * (d.n : Int)) (hms : ms.length ≤ 1000000)
    (hp : MG w0 24 gd gl [.slice A d.n cp, .slice B m cq, .int .i64 (d.lp : Int)] v ms w) :
    Calls Try.prog 102 #[.agg #[.int .i64 1, .int .i64 x, .int .i64 0, .int .i64 s, .bool o], .pointer (some ⟨gd, 0, none⟩), .pointer (some ⟨gl, 0, none⟩)] w fun e w' => e = .returned (.tuple #[]) ∧ ∃ v', MG w0 24 gd gl [.slice A d.n cp, .slice B m cq, .int .i64 (d.lp : Int)] v' (ms ++ one (curlableC d x) ⟨1, x, 0, s, o⟩) w' := by
  have HM := hide hm
  have HG := hide hg
  have hn := hd.few
  have hlp := hd.lp
  obtain ⟨cc, hcc⟩ : ∃ c, c = curlableC d x := ⟨_, rfl⟩
  have HC := hide hcc
  have hb0 : Below w.heap.size w (w.alloc (.cells #[.int .i64 1, .int .i64 x, .int .i64 0, .int .i64 s, .bool o] 37)) := (Below.refl _ _).alloc (Nat.le_refl _) _
  have HB0 := hide hb0
  have P1 := hide (hp.below hb0)
  have M1 := hide (row_at (W := w) (g := w.heap.size) (t := 37) (vs := [.int .i64 1, .int .i64 x, .int .i64 0, .int .i64 s, .bool o]) rfl)
  have hgl : gl < w.heap.size := hp.big
  have hgd : gd < gl := hp.lt
  clear hp hb0 hg hm hcc
  obtain ⟨d0, d1, d2, d3⟩ := box3 P1.out.d
  obtain ⟨e0, e1, e2, e3, e4, e5⟩ := box5 M1.out
  go_enter Try.func102, Try.ntmps102
  go_wp2_with fail
  refine (curlable_m d A B cp cq m 1 x 0 s o _ HM.out (HG.out.keep HB0.out) hn hlp hx).mono ?_
  rintro e w1 ⟨rfl, hb1⟩
  have P2 := hide (P1.out.below hb1)
  have M2 := hide (M1.out.below hb1)
  have hs2 : w.heap.size < w1.heap.size := M2.out.lt
  have hs3 : gl < w1.heap.size := by omega
  clear hb1 d0 d1 d2 d3 e0 e1 e2 e3 e4 e5 HB0 P1 M1
  obtain ⟨e0, e1, e2, e3, e4, e5⟩ := box5 M2.out
  rw [← HC.out]
  by_cases h0 : cc = 0
  · have E := hide (show one cc ⟨1, x, 0, s, o⟩ = [⟨1, x, 0, s, o⟩] from one_yes h0)
    have t1 : (cc == 0) = true := by rw [beq_iff_eq]; exact h0
    clear h0
    obtain ⟨q0, q1⟩ := box1 P2.out.l
    obtain ⟨n0, hn0, hz0, hz1, hz2⟩ := info_parts moveInfo
    have A0 := hide (P2.out.alloc (.cells (Mv.cells ⟨1, x, 0, s, o⟩).toArray 37)).o
    have A1 : ∀ u ∈ Mv.cells ⟨1, x, 0, s, o⟩, u.oneCell' = true := by simp [Mv.cells, Value.oneCell']
    have A2 : ms.length + 1 ≤ maxLen := by unfold maxLen; omega
    have A3 : (ms.length + 1) * 40 ≤ 140737488355328 := by omega
    have A6 := hide (five_news w1 w1.heap.size rfl ⟨1, x, 0, s, o⟩)
    go_wp2_with (at_builtin; refine wpList_append_lies _ (by rfl) _ _ 27 (by rfl) (gl + 1) 37 n0 (.agg #[.int .i64 0, .int .i64 0, .int .i64 0, .int .i64 0, .bool false]) 5 40 Try.underlying27 hn0 hz0 hz1 hz2 rfl (by omega) v ms.length (mvs ms) (by rfl) A0.out ⟨w1.heap.size, 0, none⟩ 1 1 (Mv.cells ⟨1, x, 0, s, o⟩) (by rfl) (by rfl) A6.out A1 (by omega) A2 A3 (by simp; omega) (w1.heap.size + 1) (by simp) ?_; intro g2 c2 w2 own2 grow2 at2 lt2; obtain ⟨q2, q3⟩ := box1 ((P2.out.alloc (.cells (Mv.cells ⟨1, x, 0, s, o⟩).toArray 37)).l.grown grow2 ((P2.out.alloc (.cells (Mv.cells ⟨1, x, 0, s, o⟩).toArray 37)).far (Nat.le_refl _))); have OWN2 := hide own2; have GR2 := hide grow2; clear own2 grow2 at2)
    refine bodyPost_end (results_none rfl _ _ _) rfl ⟨rfl, .slice (some ⟨g2, 0, none⟩) (ms.length + 1) c2, ?_⟩
    rw [← HC.out, E.out]
    exact (P2.out.alloc _).push OWN2.out GR2.out
  · have E := hide (show one cc ⟨1, x, 0, s, o⟩ = [] from one_no h0)
    have t1 : (cc == 0) = false := by rw [beq_eq_false_iff_ne]; exact h0
    clear h0
    go_wp2
    refine bodyPost_end (results_none rfl _ _ _) rfl ⟨rfl, v, ?_⟩
    rw [← HC.out, E.out, List.append_nil]
    exact P2.out
/-- The curls at x. -/
def cuX (d : Pl.Dg) (x : Int) : List Mv := one (curlableC d x) ⟨1, x, 0, -1, false⟩ ++ one (curlableC d x) ⟨1, x, 0, -1, true⟩ ++ (one (curlableC d x) ⟨1, x, 0, 1, false⟩ ++ one (curlableC d x) ⟨1, x, 0, 1, true⟩)
def cuL (d : Pl.Dg) : Nat → List Mv
  | 0 => []
  | k + 1 => cuL d k ++ cuX d ((k : Int) - 1)
theorem cuX_len (d : Pl.Dg) (x : Int) : (cuX d x).length ≤ 4 := by
  unfold cuX
  have a := one_len (curlableC d x) ⟨1, x, 0, -1, false⟩
  have b := one_len (curlableC d x) ⟨1, x, 0, -1, true⟩
  have c := one_len (curlableC d x) ⟨1, x, 0, 1, false⟩
  have e := one_len (curlableC d x) ⟨1, x, 0, 1, true⟩
  simp only [List.length_append]
  omega
theorem cuL_len (d : Pl.Dg) : ∀ k, (cuL d k).length ≤ 4 * k
  | 0 => Nat.le_refl _
  | k + 1 => by
    have a := cuL_len d k
    have b := cuX_len d ((k : Int) - 1)
    show (cuL d k ++ cuX d ((k : Int) - 1)).length ≤ _
    rw [List.length_append]
    omega
/-- A list of moves that came back, of the call's own. -/
def MovesIn (b : Nat) (w : World) (v : Value) (ms : List Mv) : Prop := ∃ base, b ≤ base ∧ base ≤ w.heap.size ∧ w.ownsRow base 37 5 v ms.length (mvs ms)
theorem MovesIn.at {b : Nat} {w : World} {v : Value} {ms : List Mv} (h : MovesIn b w v ms) : MovesAt w v ms := let ⟨base, _, _, h⟩ := h; ⟨base, h⟩
set_option maxRecDepth 100000 in
set_option maxHeartbeats 4000000 in
theorem curls_any (d : Pl.Dg) (hd : Pl.Wf d) (A B : Option Addr) (cp cq m : Nat) (w : World) (hm : m = 4 * d.n) (hg : DgAt w A B d) :
    Calls Try.prog 58 #[.agg #[.slice A d.n cp, .slice B m cq, .int .i64 d.lp]] w fun e w' => ∃ v, e = .returned v ∧ MovesIn w.heap.size w' v (cuL d (m + 1)) ∧ Below w.heap.size w w' := by
  have HM := hide hm
  have HG := hide hg
  have hn := hd.few
  have hm2 : m ≤ 256 := by omega
  have P0 := hide (show MG w 24 w.heap.size (w.heap.size + 1) [.slice A d.n cp, .slice B m cq, .int .i64 (d.lp : Int)] (.slice none 0 0) [] ((w.alloc (.cells #[.slice A d.n cp, .slice B m cq, .int .i64 (d.lp : Int)] 24)).alloc (.cells #[.slice none 0 0] 27)) from
    ⟨(row_at (vs := [_, _, _]) rfl).alloc _, row_at (vs := [_]) (by simp), ⟨rfl, .inl ⟨rfl, rfl⟩⟩, ((Below.refl _ _).alloc (Nat.le_refl _) _).alloc (by simp) _, Nat.le_refl _, by omega⟩)
  clear hg hm
  go_enter Try.func58, Try.ntmps58
  go_wp2
  go_loopg [5] (m + 1) (fun g s5 wx => ∃ (k : Nat) (v : Value), k + g = m + 1 ∧ s5 = .int .i64 ((k : Int) - 1) ∧ MG w 24 w.heap.size (w.heap.size + 1) [.slice A d.n cp, .slice B m cq, .int .i64 (d.lp : Int)] v (cuL d k) wx)
  case atStart => exact ⟨0, _, by omega, rfl, P0.out⟩
  case round =>
    clear P0
    obtain ⟨k, v, hkg, rfl, hp⟩ := hrel
    obtain ⟨go, rfl⟩ : ∃ go, go = gk := ⟨_, rfl⟩
    have HKG := hide hkg
    have PK := hide hp
    have hlen := cuL_len d k
    obtain ⟨x, hx⟩ : ∃ x : Int, x = (k : Int) - 1 := ⟨_, rfl⟩
    have HX := hide hx
    rw [← hx]
    obtain ⟨d0, d1, d2, d3⟩ := box3 hp.d
    clear hp hx
    by_cases hk : k < m + 1
    · have hki : x < (m : Int) := by have := HX.out; omega
      have x0 : -1 ≤ x := by have := HX.out; omega
      have x1 : x < 4 * (d.n : Int) := by have := HM.out; omega
      clear hkg
      have i0 : ∀ W, (Instr.index 93 (.agg #[.int .i64 (-1), .int .i64 1]) (.int .i64 0)).run Try.prog W = .ok (.int .i64 (-1)) W := fun _ => by kernel_rfl
      have i1 : ∀ W, (Instr.index 93 (.agg #[.int .i64 (-1), .int .i64 1]) (.int .i64 1)).run Try.prog W = .ok (.int .i64 1) W := fun _ => by kernel_rfl
      go_wp2
      go_loopg [17, 7] 2 (fun g s17 s7 wx => ∃ (j : Nat) (u : Value), j + g = 2 ∧ s17 = .int .i64 (j : Int) ∧ MG w 24 w.heap.size (w.heap.size + 1) [.slice A d.n cp, .slice B m cq, .int .i64 (d.lp : Int)] u (cuL d k ++ ((if 0 < j then one (curlableC d x) ⟨1, x, 0, -1, false⟩ ++ one (curlableC d x) ⟨1, x, 0, -1, true⟩ else []) ++ (if 1 < j then one (curlableC d x) ⟨1, x, 0, 1, false⟩ ++ one (curlableC d x) ⟨1, x, 0, 1, true⟩ else []))) wx)
      case atStart => exact ⟨0, v, by omega, rfl, by simpa using PK.out⟩
      case round =>
        clear PK
        obtain ⟨j, u, hjg, rfl, hq⟩ := hrel
        have HJG := hide hjg
        have hj3 : j = 0 ∨ j = 1 ∨ j = 2 := by omega
        have L1 := one_len (curlableC d x) ⟨1, x, 0, -1, false⟩
        have L2 := one_len (curlableC d x) ⟨1, x, 0, -1, true⟩
        have L3 := one_len (curlableC d x) ⟨1, x, 0, 1, false⟩
        clear hjg
        rcases hj3 with rfl | rfl | rfl
        · have hq1 : MG w 24 w.heap.size (w.heap.size + 1) [.slice A d.n cp, .slice B m cq, .int .i64 (d.lp : Int)] u (cuL d k) wr := by simpa using hq
          have Q0 := hide hq1
          clear hq hq1
          go_wp2_with fail
          refine (cuTry_any d hd A B cp cq m _ _ u (cuL d k) x (-1) false w _ HM.out (HG.out.keep Q0.out.bel) ⟨x0, x1⟩ (by omega) Q0.out).mono ?_
          rintro e w1 ⟨rfl, u1, hp1⟩
          have Q1 := hide hp1
          clear hp1
          go_wp2_with fail
          refine (cuTry_any d hd A B cp cq m _ _ u1 _ x (-1) true w _ HM.out (HG.out.keep Q1.out.bel) ⟨x0, x1⟩ (by rw [List.length_append]; omega) Q1.out).mono ?_
          rintro e w2 ⟨rfl, u2, hp2⟩
          have Q2 := hide hp2
          clear hp2
          go_wp2
          go_roundg 1
          case measure => have := HJG.out; omega
          case rel => exact ⟨1, u2, rfl, by go_num, by simpa using Q2.out⟩
        · have hq1 : MG w 24 w.heap.size (w.heap.size + 1) [.slice A d.n cp, .slice B m cq, .int .i64 (d.lp : Int)] u (cuL d k ++ (one (curlableC d x) ⟨1, x, 0, -1, false⟩ ++ one (curlableC d x) ⟨1, x, 0, -1, true⟩)) wr := by simpa using hq
          have Q0 := hide hq1
          clear hq hq1
          go_wp2_with fail
          refine (cuTry_any d hd A B cp cq m _ _ u _ x 1 false w _ HM.out (HG.out.keep Q0.out.bel) ⟨x0, x1⟩ (by rw [List.length_append, List.length_append]; omega) Q0.out).mono ?_
          rintro e w1 ⟨rfl, u1, hp1⟩
          have Q1 := hide hp1
          clear hp1
          go_wp2_with fail
          refine (cuTry_any d hd A B cp cq m _ _ u1 _ x 1 true w _ HM.out (HG.out.keep Q1.out.bel) ⟨x0, x1⟩ (by rw [List.length_append, List.length_append, List.length_append]; omega) Q1.out).mono ?_
          rintro e w2 ⟨rfl, u2, hp2⟩
          have Q2 := hide hp2
          clear hp2
          go_wp2
          go_roundg 0
          case measure => have := HJG.out; omega
          case rel => exact ⟨2, u2, rfl, by go_num, by simpa using Q2.out⟩
        · have Q0 := hide (show MG w 24 w.heap.size (w.heap.size + 1) [.slice A d.n cp, .slice B m cq, .int .i64 (d.lp : Int)] u (cuL d (k + 1)) wr from by
            have e : cuL d (k + 1) = cuL d k ++ cuX d x := by rw [HX.out]; rfl
            rw [e]
            unfold cuX
            simpa using hq)
          have EK := hide (show x + 1 = ((k + 1 : Nat) : Int) - 1 by have := HX.out; omega)
          clear hq
          go_wp2
          go_roundg (go - 1)
          case measure => have := HKG.out; omega
          case rel => exact ⟨k + 1, u, by have := HKG.out; omega, by rw [EK.out], Q0.out⟩
    · have hki : ¬ (x < (m : Int)) := by have := HX.out; omega
      have e : k = m + 1 := by omega
      subst e
      obtain ⟨q0, q1⟩ := box1 PK.out.l
      clear hkg
      go_wp2
      go_ret
      exact ⟨v, rfl, ⟨w.heap.size + 1 + 1, by omega, PK.out.big, PK.out.o⟩, PK.out.bel⟩
/-- The uncurls among the first k crossings. -/
def unL (d : Pl.Dg) : Nat → List Mv
  | 0 => []
  | k + 1 => unL d k ++ one (uncC d k) ⟨2, k, 0, 0, false⟩
theorem unL_len (d : Pl.Dg) : ∀ k, (unL d k).length ≤ k
  | 0 => Nat.le_refl _
  | k + 1 => by
    have a := unL_len d k
    have b := one_len (uncC d k) ⟨2, k, 0, 0, false⟩
    show (unL d k ++ one (uncC d k) ⟨2, k, 0, 0, false⟩).length ≤ _
    rw [List.length_append]
    omega
set_option maxRecDepth 100000 in
set_option maxHeartbeats 4000000 in
theorem unTry_any (d : Pl.Dg) (hd : Pl.Wf d) (A B : Option Addr) (cp cq m gd gl c : Nat) (v : Value) (ms : List Mv) (w0 w : World) (hm : m = 4 * d.n) (hg : DgAt w A B d) (hc : c < d.n) (hms : ms.length ≤ 1000000)
    (hp : MG w0 24 gd gl [.slice A d.n cp, .slice B m cq, .int .i64 (d.lp : Int)] v ms w) :
    Calls Try.prog 103 #[.agg #[.int .i64 2, .int .i64 (c : Int), .int .i64 0, .int .i64 0, .bool false], .pointer (some ⟨gd, 0, none⟩), .pointer (some ⟨gl, 0, none⟩)] w fun e w' => e = .returned (.tuple #[]) ∧ ∃ v', MG w0 24 gd gl [.slice A d.n cp, .slice B m cq, .int .i64 (d.lp : Int)] v' (ms ++ one (uncC d c) ⟨2, c, 0, 0, false⟩) w' := by
  have HM := hide hm
  have HG := hide hg
  have hn := hd.few
  obtain ⟨cc, hcc⟩ : ∃ c', c' = uncC d c := ⟨_, rfl⟩
  have HC := hide hcc
  have hb0 : Below w.heap.size w (w.alloc (.cells #[.int .i64 2, .int .i64 (c : Int), .int .i64 0, .int .i64 0, .bool false] 37)) := (Below.refl _ _).alloc (Nat.le_refl _) _
  have HB0 := hide hb0
  have P1 := hide (hp.below hb0)
  have M1 := hide (row_at (W := w) (g := w.heap.size) (t := 37) (vs := [.int .i64 2, .int .i64 (c : Int), .int .i64 0, .int .i64 0, .bool false]) rfl)
  have hgl : gl < w.heap.size := hp.big
  have hgd : gd < gl := hp.lt
  clear hp hb0 hg hm hcc
  obtain ⟨d0, d1, d2, d3⟩ := box3 P1.out.d
  obtain ⟨e0, e1, e2, e3, e4, e5⟩ := box5 M1.out
  go_enter Try.func103, Try.ntmps103
  go_wp2_with fail
  refine (kink_any d hd A B cp cq m c _ HM.out (HG.out.keep HB0.out) hc).mono ?_
  rintro e w1 ⟨he, hb1⟩
  have P2 := hide (P1.out.below hb1)
  have M2 := hide (M1.out.below hb1)
  have HB1 := hide (HB0.out.trans (hb1.mono HB0.out.size))
  have hs2 : w.heap.size < w1.heap.size := M2.out.lt
  have hs3 : gl < w1.heap.size := by omega
  have HE := hide he
  clear hb1 d0 d1 d2 d3 e0 e1 e2 e3 e4 e5 HB0 P1 M1 he
  obtain ⟨d0, d1, d2, d3⟩ := box3 P2.out.d
  obtain ⟨e0, e1, e2, e3, e4, e5⟩ := box5 M2.out
  by_cases hI : isK d c
  · have HE2 := HE.out
    rw [Pl.vb_true hI] at HE2
    unfold kinkE at HE2
    obtain ⟨z1, hz1⟩ : ∃ z : Nat, z = Pl.tn (kk d c) 2 := ⟨_, rfl⟩
    obtain ⟨z2, hz2⟩ : ∃ z : Nat, z = Pl.tn (d.m (kk d c)) 2 := ⟨_, rfl⟩
    rw [← hz1, ← hz2] at HE2
    simp only [if_true] at HE2
    subst HE2
    clear HE hI hz1 hz2
    go_wp2_with fail
    refine (uncurl_m d hd A B cp cq m c 2 0 0 false _ HM.out (HG.out.keep HB1.out) hc).mono ?_
    rintro e w3 ⟨r1, r2, hb3⟩
    have P3 := hide (P2.out.below hb3)
    have M3 := hide (M2.out.below hb3)
    have hs4 : w.heap.size < w3.heap.size := M3.out.lt
    have hs5 : gl < w3.heap.size := by omega
    rw [← HC.out] at r1 r2
    have R1 := hide r1
    have R2 := hide r2
    clear r1 r2 hb3 d0 d1 d2 d3 e0 e1 e2 e3 e4 e5 HB1 P2 M2
    obtain ⟨e0, e1, e2, e3, e4, e5⟩ := box5 M3.out
    have hs6 : gl < w3.heap.size + 1 := by omega
    have hs7 : gl < w3.heap.size + 1 + 1 := by omega
    have hs8 : w.heap.size < w3.heap.size + 1 := by omega
    have hs9 : w.heap.size < w3.heap.size + 1 + 1 := by omega
    by_cases h0 : cc = 0
    · obtain ⟨A9, B9, c8, c9, k9, x9, y9, s9, o9, hmv, rfl, hT⟩ := ResOk.split (R2.out h0)
      have E := hide (show one cc ⟨2, c, 0, 0, false⟩ = [⟨2, c, 0, 0, false⟩] from one_yes h0)
      clear h0 R1 R2 hmv hT
      obtain ⟨N9, hN9⟩ : ∃ n, n = (unD d c).n := ⟨_, rfl⟩
      obtain ⟨N4, hN4⟩ : ∃ n, n = 4 * (unD d c).n := ⟨_, rfl⟩
      obtain ⟨L9, hL9⟩ : ∃ n, n = (unD d c).lp := ⟨_, rfl⟩
      rw [← hN4, ← hN9, ← hL9]
      clear hN9 hN4 hL9
      obtain ⟨q0, q1⟩ := box1 P3.out.l
      obtain ⟨n0, hn0, hz0, hz1, hz2⟩ := info_parts moveInfo
      have PA := hide ((P3.out.alloc (.cells #[.slice A9 N9 c8, .slice B9 N4 c9, .int .i64 (L9 : Int)] 24)).alloc (.cells #[.int .i64 k9, .int .i64 x9, .int .i64 y9, .int .i64 s9, .bool o9] 37))
      have A0 := hide (PA.out.alloc (.cells (Mv.cells ⟨2, c, 0, 0, false⟩).toArray 37)).o
      have A1 : ∀ u ∈ Mv.cells ⟨2, c, 0, 0, false⟩, u.oneCell' = true := by simp [Mv.cells, Value.oneCell']
      have A2 : ms.length + 1 ≤ maxLen := by unfold maxLen; omega
      have A3 : (ms.length + 1) * 40 ≤ 140737488355328 := by omega
      have A6 := hide (five_news ((w3.alloc (.cells #[.slice A9 N9 c8, .slice B9 N4 c9, .int .i64 (L9 : Int)] 24)).alloc (.cells #[.int .i64 k9, .int .i64 x9, .int .i64 y9, .int .i64 s9, .bool o9] 37)) (w3.heap.size + 1 + 1) (by simp) ⟨2, c, 0, 0, false⟩)
      go_wp2_with (at_builtin; refine wpList_append_lies _ (by rfl) _ _ 27 (by rfl) (gl + 1) 37 n0 (.agg #[.int .i64 0, .int .i64 0, .int .i64 0, .int .i64 0, .bool false]) 5 40 Try.underlying27 hn0 hz0 hz1 hz2 rfl (by omega) v ms.length (mvs ms) (by rfl) A0.out ⟨w3.heap.size + 1 + 1, 0, none⟩ 1 1 (Mv.cells ⟨2, c, 0, 0, false⟩) (by rfl) (by rfl) A6.out A1 (by omega) A2 A3 (by simp; omega) (w3.heap.size + 1 + 1 + 1) (by simp) ?_; intro g2 c2 w2 own2 grow2 at2 lt2; obtain ⟨q2, q3⟩ := box1 ((PA.out.alloc (.cells (Mv.cells ⟨2, c, 0, 0, false⟩).toArray 37)).l.grown grow2 ((PA.out.alloc (.cells (Mv.cells ⟨2, c, 0, 0, false⟩).toArray 37)).far (Nat.le_refl _))); have OWN2 := hide own2; have GR2 := hide grow2; clear own2 grow2 at2)
      refine bodyPost_end (results_none rfl _ _ _) rfl ⟨rfl, .slice (some ⟨g2, 0, none⟩) (ms.length + 1) c2, ?_⟩
      rw [← HC.out, E.out]
      exact (PA.out.alloc _).push OWN2.out GR2.out
    · have E := hide (show one cc ⟨2, c, 0, 0, false⟩ = [] from one_no h0)
      have hE := ResErr.split (R1.out h0)
      subst hE
      have t1 : (cc == 0) = false := by rw [beq_eq_false_iff_ne]; exact h0
      clear h0 R1 R2
      go_wp2
      refine bodyPost_end (results_none rfl _ _ _) rfl ⟨rfl, v, ?_⟩
      rw [← HC.out, E.out, List.append_nil]
      exact (P3.out.alloc _).alloc _
  · have HE2 := HE.out
    rw [Pl.vb_false hI] at HE2
    have E := hide (show one cc ⟨2, c, 0, 0, false⟩ = [] from one_no (by
      rw [HC.out]
      unfold uncC
      rw [if_neg (show ¬ d.m (kk d c) / 4 = c from hI)]
      decide))
    unfold kinkE at HE2
    simp only [Bool.false_eq_true, if_false] at HE2
    subst HE2
    clear HE hI
    go_wp2
    refine bodyPost_ret (results_none rfl _ _ _) rfl ⟨rfl, v, ?_⟩
    rw [← HC.out, E.out, List.append_nil]
    exact P2.out
set_option maxRecDepth 100000 in
set_option maxHeartbeats 4000000 in
theorem uncurls_any (d : Pl.Dg) (hd : Pl.Wf d) (A B : Option Addr) (cp cq m : Nat) (w : World) (hm : m = 4 * d.n) (hg : DgAt w A B d) :
    Calls Try.prog 59 #[.agg #[.slice A d.n cp, .slice B m cq, .int .i64 d.lp]] w fun e w' => ∃ v, e = .returned v ∧ MovesIn w.heap.size w' v (unL d d.n) ∧ Below w.heap.size w w' := by
  have HM := hide hm
  have HG := hide hg
  have hn := hd.few
  have P0 := hide (show MG w 24 w.heap.size (w.heap.size + 1) [.slice A d.n cp, .slice B m cq, .int .i64 (d.lp : Int)] (.slice none 0 0) [] ((w.alloc (.cells #[.slice A d.n cp, .slice B m cq, .int .i64 (d.lp : Int)] 24)).alloc (.cells #[.slice none 0 0] 27)) from
    ⟨(row_at (vs := [_, _, _]) rfl).alloc _, row_at (vs := [_]) (by simp), ⟨rfl, .inl ⟨rfl, rfl⟩⟩, ((Below.refl _ _).alloc (Nat.le_refl _) _).alloc (by simp) _, Nat.le_refl _, by omega⟩)
  clear hg hm
  go_enter Try.func59, Try.ntmps59
  go_wp2
  go_loopg [5, 10] d.n (fun g s5 s10 wx => ∃ (k : Nat) (v : Value), k + g = d.n ∧ s10 = .int .i64 (k : Int) ∧ MG w 24 w.heap.size (w.heap.size + 1) [.slice A d.n cp, .slice B m cq, .int .i64 (d.lp : Int)] v (unL d k) wx)
  case atStart => exact ⟨0, _, by omega, rfl, P0.out⟩
  case round =>
    clear P0
    obtain ⟨k, v, hkg, rfl, hp⟩ := hrel
    have HKG := hide hkg
    have PK := hide hp
    have hlen := unL_len d k
    clear hp
    by_cases hk : k < d.n
    · have hki : (k : Int) < (d.n : Int) := by omega
      clear hkg
      go_wp2_with fail
      refine (unTry_any d hd A B cp cq m w.heap.size (w.heap.size + 1) k v (unL d k) w wr HM.out (HG.out.keep PK.out.bel) hk (by omega) PK.out).mono ?_
      rintro e w1 ⟨rfl, v', hp1⟩
      have P1 := hide hp1
      clear hp1
      go_wp2
      go_roundg (gk - 1)
      case measure => have := HKG.out; omega
      case rel => exact ⟨k + 1, v', by have := HKG.out; omega, by go_num, P1.out⟩
    · have hki : ¬ ((k : Int) < (d.n : Int)) := by omega
      have e : k = d.n := by omega
      have EL := hide (show unL d k = unL d d.n by rw [e])
      obtain ⟨q0, q1⟩ := box1 PK.out.l
      clear hkg e
      go_wp2
      go_ret
      exact ⟨v, rfl, ⟨w.heap.size + 1 + 1, by omega, PK.out.big, by rw [← EL.out]; exact PK.out.o⟩, PK.out.bel⟩
end Go.Proofs.Ytghdiolnonejaaa
end
