/-
 The texts Cmp, Cmq, Cmk, Pke, Ta, Ua, Vb in one.
-/
import Derived.Test.YtcaoblilkgajoaaDoorG08
import Derived.Test.YtcaoblilkgajoaaDoorG07
import Derived.Test.YtcaoblilkgajoaaDoorG00
import Derived.Test.YtcaoblilkgajoaaDoorG04
import Derived.Laws.Slices
import Derived.Test.YtcaoblilkgajoaaDoorG02
import Derived.Test.YtcaoblilkgajoaaDoorG05
import Derived.Deep.DeepCutAuto
set_option linter.unusedVariables false
set_option linter.unusedSimpArgs false
section
namespace Go.Proofs.YtcaoblilkgajoaaDoor.Pl
variable {d : Dg}
/-- As many components. -/
def Same (d d' : Dg) : Prop := ∀ s s', Str d s → Str d' s' → s + d.lp = s' + d'.lp
theorem Same.symm {d d' : Dg} (h : Same d d') : Same d' d := fun s s' a b => (h s' s b a).symm
theorem kink_gp (hd : Valid d) {o : Nat} (ho : o < 4 * d.n) (hk : d.m o / 4 = o / 4) : Gp d.n d.m o (d.m o) := by
 have hw := (Valid.iff.1 hd).1
 have hi := hw.lt o ho
 have four := kink_four hd ho hk
 exact ⟨hw.hm, ho, hi, rfl, fun e => hw.ne o ho e.symm, fun e => by rcases four with h | h <;> rw [h] at e <;> (unfold tn at e; omega), fun e => no_opp hd ho e⟩
theorem kink_gone (hd : Valid d) {o : Nat} (ho : o < 4 * d.n) (hk : d.m o / 4 = o / 4) (z : Nat) : grp o (d.m o) z ↔ gone d [o / 4] z := by
 have four := kink_four hd ho hk
 unfold grp gone
 rw [List.mem_singleton]
 constructor
 ·rintro (rfl | rfl | rfl | rfl)
  ·exact ⟨ho, rfl⟩
  ·exact ⟨(Valid.iff.1 hd).1.lt _ ho, hk⟩
  ·exact ⟨tn_lt ho, tn_div _ _⟩
  ·exact ⟨tn_lt ((Valid.iff.1 hd).1.lt _ ho), by rw [tn_div, hk]⟩
 ·rintro ⟨_, hc⟩
  rcases four with h | h <;> rw [h] <;> unfold tn at * <;> omega
/-- A kink on an edge: what stays has as many classes. -/
theorem kink_cls (hd : Valid d) {o : Nat} (ho : o < 4 * d.n) (hk : d.m o / 4 = o / 4) (hn : d.m (tn o 2) ≠ tn (d.m o) 2) {k : Nat} (hk2 : Cls (dart d) (Orb (st d)) k) :
 Cls (dart d) (Orb (phi op (byp d.m (tn (d.m o) 2) (tn o 2)))) (k + 1) ∧ Cls (gone d [o / 4]) (Orb (phi op (byp d.m (tn (d.m o) 2) (tn o 2)))) 1 := by
 have hw := (Valid.iff.1 hd).1
 have hi := hw.lt o ho
 have hA : tn o 2 < 4 * d.n := tn_lt ho
 have hB : tn (d.m o) 2 < 4 * d.n := tn_lt hi
 have hBA : tn (d.m o) 2 ≠ tn o 2 := fun e => hw.ne o ho (tn_inj e)
 have hmBA : d.m (tn (d.m o) 2) ≠ tn o 2 := fun e => hn (by rw [← e, hw.inv _ hB])
 have inv := hw.inv o ho
 have hmi : d.m (d.m o) / 4 = d.m o / 4 := by rw [inv, hk]
 have G : Gp d.n d.m (d.m o) o := by have := kink_gp hd hi hmi; rwa [inv] at this
 have h1 := G.cls (hw.ne _ hB) (hw.ne _ hA) hk2
 unfold cls at h1
 rw [if_neg hmBA, if_neg hmBA] at h1
 obtain ⟨b1, b2, b3, b4, b5⟩ := byp_at hw.hm hB hA hBA (hw.ne _ hB) (hw.ne _ hA) hmBA
 obtain ⟨q1, q2⟩ := kink_byp hd ho hk hn
 have R := kink_rs hd ho hk hn (lp := 0) (by omega) (mt := List.ofFn (n := 4 * d.n) (fun h => if h.1 = d.m (tn o 2) then d.m (tn (d.m o) 2) else if h.1 = d.m (tn (d.m o) 2) then d.m (tn o 2) else d.m h.1)) (fun h hh => by
  rw [List.getD_eq_getElem?_getD, List.getElem?_ofFn, dif_pos hh]; rfl)
 have e0 : byp d.m (tn (d.m o) 2) (tn o 2) (d.m o) = o := by
  have n1 : d.m o ≠ tn (d.m o) 2 := by unfold tn; omega
  have n2 : d.m o ≠ tn o 2 := no_opp hd ho
  have n3 : d.m o ≠ d.m (tn (d.m o) 2) := fun e => by have := hw.bij.inj _ _ ho hB e; rcases kink_four hd ho hk with h | h <;> rw [h] at this <;> (unfold tn at this; omega)
  have n4 : d.m o ≠ d.m (tn o 2) := fun e => by have := hw.bij.inj _ _ ho hA e; unfold tn at this; omega
  rw [b5 _ n1 n2 n3 n4, inv]
 have G2 : Gp d.n (byp d.m (tn (d.m o) 2) (tn o 2)) (d.m o) o := ⟨q1, hi, ho, e0, G.n1, G.n2, G.n3⟩
 refine ⟨h1, Cls.congr (G2.free b1 b2).1 (fun z => ?_) (fun _ _ _ _ => Iff.rfl)⟩
 rw [← kink_gone hd ho hk z]
 unfold grp
 constructor
 ·rintro (h | h | h | h)
  ·exact .inr (.inl h)
  ·exact .inl h
  ·exact .inr (.inr (.inr h))
  ·exact .inr (.inr (.inl h))
 ·rintro (h | h | h | h)
  ·exact .inr (.inl h)
  ·exact .inl h
  ·exact .inr (.inr (.inr h))
  ·exact .inr (.inr (.inl h))
/-- In: what d' has more than d is gone's part. -/
theorem in_same {d' : Dg} (hd : Wf d) (hd' : Wf d') {gs mt : List Nat} {lp : Nat} {b : Nat → Nat} (R : Rs d' gs mt lp b) (hs : ∀ z, stay d' gs z ↔ z < 4 * d.n) (hb : ∀ z, z < 4 * d.n → b z = d.m z) {k g s : Nat}
 (hk : Cls (dart d') (Orb (phi op b)) k) (hg : Cls (gone d' gs) (Orb (phi op b)) g) (h : Str d s) : k = 2 * s + g := by
 obtain ⟨ks, e1, e2, _⟩ := R.cls hk hg
 have : Cls (dart d) (Orb (st d)) ks := Cls.congr e2 hs fun x y hx hy => by
  rw [st_phi]
  refine Orb.congr (S := fun z => z < 4 * d.n) (fun z hz => ?_) (fun z hz => ?_) ((hs x).1 hx)
  ·show tn (b z) 2 < 4 * d.n; rw [hb z hz]; exact tn_lt (hd.lt z hz)
  ·show tn (b z) 2 = tn (d.m z) 2; rw [hb z hz]
 have := h.iff hd this
 omega
section
variable {h u : Nat}
/-- Both strands' pieces of a lens, and what they are when closed. -/
theorem Lens.g1 {b : Nat → Nat} (hw : Wf d) (L : Lens d h u) (hm : Hm (4 * d.n) (dart d) rot b) (e0 : b h = u) : Gp d.n b h u :=
 ⟨hm, L.hh, L.hu hw, e0, ap L.ne, pm1 L.ne, Ne.symm (pm0 L.ne)⟩
theorem Lens.g2 {b : Nat → Nat} (hw : Wf d) (L : Lens d h u) (hm : Hm (4 * d.n) (dart d) rot b) (e1 : b (tn h 1) = tn u 3) : Gp d.n b (tn h 1) (tn u 3) :=
 ⟨hm, tn_lt L.hh, tn_lt (L.hu hw), e1, pm L.ne, by rw [tn_tn]; exact pm L.ne, by rw [tn_tn]; exact Ne.symm (pm L.ne)⟩
theorem tn12 (h : Nat) : tn (tn h 1) 2 = tn h 3 := tn_tn h 1 2
theorem tn32 (u : Nat) : tn (tn u 3) 2 = tn u 1 := by rw [tn_tn]; unfold tn; omega
theorem Lens.cls (hd : Valid d) (L : Lens d h u) {k : Nat} (hk : Cls (dart d) (Orb (st d)) k) :
 Cls (dart d) (Orb (phi op (lB d h u))) (k + (if d.m (tn h 2) = tn u 2 then 0 else 1) + (if lA d h u (tn h 3) = tn u 1 then 0 else 1)) := by
 have hw := (Valid.iff.1 hd).1
 have hu := L.hu hw
 have A := L.la hd
 have h1 := (L.g1 hw hw.hm L.m0).cls (hw.ne _ (tn_lt L.hh)) (hw.ne _ (tn_lt hu)) hk
 have h2 := (L.g2 hw A.hm A.e1).cls (by rw [tn12]; exact A.nf _ (tn_lt L.hh) (tn_ne (by omega)) (pm L.ne)) (by rw [tn32]; exact A.nf _ (tn_lt hu) (Ne.symm (pm L.ne)) (tn_ne (by omega))) h1
 rw [tn12, tn32] at h2
 exact h2
theorem Lens.gone (hd : Valid d) (L : Lens d h u) {x y : Nat} (hx : (x = h / 4 ∧ y = u / 4) ∨ (x = u / 4 ∧ y = h / 4)) :
 Cls (Pl.gone d [x, y]) (Orb (phi op (lB d h u))) ((if d.m (tn h 2) = tn u 2 then 2 else 1) + (if lA d h u (tn h 3) = tn u 1 then 2 else 1)) := by
 have hw := (Valid.iff.1 hd).1
 have hu := L.hu hw
 have hh := L.hh
 have E := L.ne
 have A := L.la hd
 have B := L.lb hd
 have G1 := L.g1 hw B.hm B.e0
 have G2 := L.g2 hw B.hm B.e1
 -- which ends are joined
 have j1 : (d.m (tn h 2) = tn u 2 → lB d h u (tn h 2) = tn u 2) ∧ (d.m (tn h 2) ≠ tn u 2 → lB d h u (tn h 2) = tn h 2 ∧ lB d h u (tn u 2) = tn u 2) := by
  have k1 : (d.m (tn h 2) = tn u 2 → lA d h u (tn h 2) = tn u 2) ∧ (d.m (tn h 2) ≠ tn u 2 → lA d h u (tn h 2) = tn h 2 ∧ lA d h u (tn u 2) = tn u 2) := by
   unfold lA Pl.cls
   constructor
   ·intro e; rw [if_pos e]; exact e
   ·intro e; rw [if_neg e]
    obtain ⟨b1, b2, _⟩ := byp_at hw.hm (tn_lt hh) (tn_lt hu) (pm E) (hw.ne _ (tn_lt (k := 2) hh)) (hw.ne _ (tn_lt (k := 2) hu)) e
    exact ⟨b1, b2⟩
  have e2 : ∀ z, (z = tn h 2 ∨ z = tn u 2) → lB d h u z = lA d h u z := by
   intro z hz
   unfold lB Pl.cls
   by_cases hc : lA d h u (tn h 3) = tn u 1
   ·rw [if_pos hc]
   ·rw [if_neg hc]
    have n3 := A.nf _ (tn_lt (k := 3) hh) (tn_ne (by omega)) (pm E)
    have n1 := A.nf _ (tn_lt (k := 1) hu) (Ne.symm (pm E)) (tn_ne (by omega))
    obtain ⟨b1, b2, b3, b4, b5⟩ := byp_at A.hm (tn_lt hh) (tn_lt hu) (pm E) n3 n1 hc
    have az : lA d h u z = tn h 2 ∨ lA d h u z = tn u 2 := by
     rcases hz with rfl | rfl <;> rcases A.c with ⟨a1, a2⟩ | ⟨a1, a2⟩
     ·exact .inr a1
     ·exact .inl a1
     ·exact .inl a2
     ·exact .inr a2
    have zl : z < 4 * d.n := by rcases hz with rfl | rfl; exact tn_lt hh; exact tn_lt hu
    refine b5 z ?_ ?_ (fun e => ?_) (fun e => ?_)
    ·rcases hz with rfl | rfl; exact tn_ne (by omega); exact Ne.symm (pm E)
    ·rcases hz with rfl | rfl; exact pm E; exact tn_ne (by omega)
    ·have := A.hm.inv _ (tn_lt (k := 3) hh); rw [← e] at this
     rcases az with e2 | e2 <;> rw [e2] at this
     ·exact tn_ne (by omega) this
     ·exact pm E this.symm
    ·have := A.hm.inv _ (tn_lt (k := 1) hu); rw [← e] at this
     rcases az with e2 | e2 <;> rw [e2] at this
     ·exact pm E this
     ·exact tn_ne (by omega) this
  rw [e2 _ (.inl rfl), e2 _ (.inr rfl)]
  exact k1
 have j2 : (lA d h u (tn h 3) = tn u 1 → lB d h u (tn h 3) = tn u 1) ∧ (lA d h u (tn h 3) ≠ tn u 1 → lB d h u (tn h 3) = tn h 3 ∧ lB d h u (tn u 1) = tn u 1) := by
  unfold lB Pl.cls
  constructor
  ·intro e; rw [if_pos e]; exact e
  ·intro e; rw [if_neg e]
   obtain ⟨b1, b2, _⟩ := byp_at A.hm (tn_lt hh) (tn_lt hu) (pm E) (A.nf _ (tn_lt (k := 3) hh) (tn_ne (by omega)) (pm E)) (A.nf _ (tn_lt (k := 1) hu) (Ne.symm (pm E)) (tn_ne (by omega))) e
   exact ⟨b1, b2⟩
 have c1 : Cls (grp h u) (Orb (phi op (lB d h u))) (if d.m (tn h 2) = tn u 2 then 2 else 1) ∧ ∀ z, grp h u z → grp h u (phi op (lB d h u) z) := by
  by_cases e : d.m (tn h 2) = tn u 2
  ·rw [if_pos e]; exact G1.closed (j1.1 e)
  ·rw [if_neg e]; have := G1.free (j1.2 e).1 (j1.2 e).2; exact ⟨this.1, this.2.1⟩
 have c2 : Cls (grp (tn h 1) (tn u 3)) (Orb (phi op (lB d h u))) (if lA d h u (tn h 3) = tn u 1 then 2 else 1) ∧ ∀ z, grp (tn h 1) (tn u 3) z → grp (tn h 1) (tn u 3) (phi op (lB d h u) z) := by
  by_cases e : lA d h u (tn h 3) = tn u 1
  ·rw [if_pos e]; exact G2.closed (by rw [tn12, tn32]; exact j2.1 e)
  ·rw [if_neg e]; have := G2.free (by rw [tn12]; exact (j2.2 e).1) (by rw [tn32]; exact (j2.2 e).2); exact ⟨this.1, this.2.1⟩
 have dis : ∀ z, grp h u z → ¬ grp (tn h 1) (tn u 3) z := by
  unfold grp
  rw [tn12, tn32]
  rintro z (rfl | rfl | rfl | rfl) (e | e | e | e)
  ·exact pmz (by omega) e
  ·exact pm1 E e
  ·exact pmz (by omega) e
  ·exact pm1 E e
  ·exact pm0 E e.symm
  ·exact pmz (by omega) e
  ·exact pm0 E e.symm
  ·exact pmz (by omega) e
  ·exact tn_ne (by omega) e
  ·exact pm E e
  ·exact tn_ne (by omega) e
  ·exact pm E e
  ·exact pm E e.symm
  ·exact tn_ne (by omega) e
  ·exact pm E e.symm
  ·exact tn_ne (by omega) e
 have ha := Cls.add c1.1 c2.1 (fun x y hx hy e => dis _ (orb_closed (P := grp h u) c1.2 hx e) hy) (fun x y hx hy e => dis _ hx (orb_closed (P := grp (tn h 1) (tn u 3)) c2.2 hy e)) dis
 refine Cls.congr ha (fun z => ?_) (fun _ _ _ _ => Iff.rfl)
 unfold grp Pl.gone
 rw [tn12, tn32, List.mem_cons, List.mem_singleton]
 have hin : (z / 4 = x ∨ z / 4 = y) ↔ z / 4 = h / 4 ∨ z / 4 = u / 4 := by
  rcases hx with ⟨rfl, rfl⟩ | ⟨rfl, rfl⟩
  ·exact Iff.rfl
  ·exact Or.comm
 rw [hin]
 have d0 : ∀ k, tn h k / 4 = h / 4 := tn_div h
 have d1 : ∀ k, tn u k / 4 = u / 4 := tn_div u
 constructor
 ·rintro ((rfl | rfl | rfl | rfl) | (rfl | rfl | rfl | rfl))
  ·exact ⟨hh, .inl rfl⟩
  ·exact ⟨hu, .inr rfl⟩
  ·exact ⟨tn_lt hh, .inl (d0 _)⟩
  ·exact ⟨tn_lt hu, .inr (d1 _)⟩
  ·exact ⟨tn_lt hh, .inl (d0 _)⟩
  ·exact ⟨tn_lt hu, .inr (d1 _)⟩
  ·exact ⟨tn_lt hh, .inl (d0 _)⟩
  ·exact ⟨tn_lt hu, .inr (d1 _)⟩
 ·rintro ⟨_, h2 | h2⟩
  ·have : z = h ∨ z = tn h 1 ∨ z = tn h 2 ∨ z = tn h 3 := by unfold tn; omega
   rcases this with e | e | e | e
   ·exact .inl (.inl e)
   ·exact .inr (.inl e)
   ·exact .inl (.inr (.inr (.inl e)))
   ·exact .inr (.inr (.inr (.inl e)))
  ·have : z = u ∨ z = tn u 1 ∨ z = tn u 2 ∨ z = tn u 3 := by unfold tn; omega
   rcases this with e | e | e | e
   ·exact .inl (.inr (.inl e))
   ·exact .inr (.inr (.inr (.inr e)))
   ·exact .inl (.inr (.inr (.inr e)))
   ·exact .inr (.inr (.inl e))
/-- Out: a lens. -/
theorem Lens.same (hd : Valid d) (L : Lens d h u) {x y : Nat} (hxy : x < y) (hx : (x = h / 4 ∧ y = u / 4) ∨ (x = u / 4 ∧ y = h / 4)) {mt : List Nat} {lp : Nat} (hl : lp ≤ 64)
 (hlp : lp = d.lp + (if d.m (tn h 2) = tn u 2 then 1 else 0) + (if lA d h u (tn h 3) = tn u 1 then 1 else 0)) (hmt : ∀ z, Pl.stay d [x, y] z → mt.getD z 0 = lB d h u z) : Same d (rsD d [x, y] mt lp) := by
 intro s s' h1 h2
 have hw := (Valid.iff.1 hd).1
 have R := (L.lb hd).rs hw L hxy hx hl hmt
 obtain ⟨ks, e1, _, e2⟩ := R.cls (L.cls hd (h1.all hw)) (L.gone hd hx)
 have := h2.iff (R.wf hw) e2
 show s + d.lp = s' + lp
 by_cases a1 : d.m (tn h 2) = tn u 2 <;> by_cases a2 : lA d h u (tn h 3) = tn u 1 <;> simp only [a1, a2, if_true, if_false] at e1 hlp <;> omega
end
end Go.Proofs.YtcaoblilkgajoaaDoor.Pl
end
section
namespace Go.Proofs.YtcaoblilkgajoaaDoor.Pl
variable {d d' : Dg}
theorem Kq.opp {n i0 o0 i1 o1 : Nat} (k : Kq n i0 o0 i1 o1) : tn o0 2 = i0 ∧ tn i1 2 = o1 ∧ o0 / 4 = n ∧ i1 / 4 = n := by
 have := k.bd
 unfold Kq at k
 unfold tn
 omega
theorem kd_stay (n : d'.n = d.n + 1) (z : Nat) : stay d' [d.n] z ↔ z < 4 * d.n := by
 unfold stay
 rw [List.mem_singleton, n]
 omega
/-- In: a kink of an edge. -/
theorem Kd.same (hd : Valid d) (hd' : Valid d') {i0 o0 i1 o1 x : Nat} (K : Kd d d' i0 o0 i1 o1) (hx : x < 4 * d.n) (mo : ∀ h, h < 4 * d.n → h ≠ x → h ≠ d.m x → d'.m h = d.m h)
 (m3 : d'.m o1 = d.m x) (m4 : d'.m (d.m x) = o1) (m5 : d'.m x = i0) (m6 : d'.m i0 = x) (hlp : d.lp = d'.lp) : Same d d' := by
 intro s s' h h'
 have hw := (Valid.iff.1 hd).1
 have hw' := (Valid.iff.1 hd').1
 obtain ⟨q1, q2, q3, q4⟩ := K.k.opp
 obtain ⟨a1, a2, a3, a4, n1, n2, n3, n4, n5, n6⟩ := K.k.bd
 have ho : o0 < 4 * d'.n := by rw [K.n]; exact a2.2
 have hi0 : i0 < 4 * d'.n := by rw [K.n]; exact a1.2
 have ho1 : o1 < 4 * d'.n := by rw [K.n]; exact a4.2
 have hk : d'.m o0 / 4 = o0 / 4 := by rw [K.m1, q4, q3]
 have hn : d'.m (tn o0 2) ≠ tn (d'.m o0) 2 := by rw [q1, m6, K.m1, q2]; omega
 obtain ⟨c1, c2⟩ := kink_cls hd' ho hk hn (h'.all hw')
 have R := kink_rs hd' ho hk hn (lp := 0) (by omega) (mt := List.ofFn (n := 4 * d'.n) (fun h => if h.1 = d'.m (tn o0 2) then d'.m (tn (d'.m o0) 2) else if h.1 = d'.m (tn (d'.m o0) 2) then d'.m (tn o0 2) else d'.m h.1)) (fun h hh => by
  rw [List.getD_eq_getElem?_getD, List.getElem?_ofFn, dif_pos hh]; rfl)
 have hnb : d'.m o1 ≠ i0 := by rw [m3]; have := hw.lt x hx; omega
 obtain ⟨b1, b2, b3, b4, b5⟩ := byp_at hw'.hm ho1 hi0 (Ne.symm n3) (hw'.ne _ ho1) (hw'.ne _ hi0) hnb
 rw [K.m1, q1, q2] at c1
 rw [K.m1, q1, q2, q3] at c2 R
 have := in_same hw hw' R (kd_stay K.n) (fun z hz => ?_) c1 c2 h
 ·omega
 ·by_cases z1 : z = x
  ·rw [z1]; rw [m6] at b4; rw [b4, m3]
  ·by_cases z2 : z = d.m x
   ·rw [z2]; rw [m3] at b3; rw [b3, m6, hw.inv x hx]
   ·rw [b5 z (by omega) (by omega) (by rw [m3]; exact z2) (by rw [m6]; exact z1), mo z hz z1 z2]
theorem slide_cls {n : Nat} {a t : Nat → Nat} (hm : Hm (4 * n) (fun h => h < 4 * n) rot a) (hm' : Hm (4 * n) (fun h => h < 4 * n) rot (cj t a)) (D : Nat → Prop) (Q : Nat → Nat → Nat → Nat → Prop)
 (q : ∀ u h p v, Q u h p v → op u = h ∧ op p = v ∧ a h = p ∧ t u = p ∧ t h = v ∧ t p = u ∧ t v = h ∧ D u ∧ D v ∧ ¬ D h ∧ ¬ D p ∧ h < 4 * n ∧ p < 4 * n)
 (dS : ∀ x, D x → x < 4 * n) (da : ∀ x, D x → D (a x)) (din : ∀ x, x < 4 * n → ¬ D x → ∃ u h p v, Q u h p v ∧ (x = h ∨ x = p))
 (dout : ∀ x, D x → (∃ u h p v, Q u h p v ∧ (x = u ∨ x = v)) ∨ (t x = x ∧ D (op x))) {k : Nat} (hk : Cls (fun h => h < 4 * n) (Orb (phi op a)) k) : Cls (fun h => h < 4 * n) (Orb (phi op (cj t a))) k := by
 have hR : ∀ w, D w → D (op (t w)) := by
  intro w hw
  rcases dout w hw with ⟨u, h, p, v, hq, rfl | rfl⟩ | ⟨e, hd⟩
  ·obtain ⟨e1, e2, e3, e4, e5, e6, e7, d1, d2, d3, d4, l1, l2⟩ := q _ _ _ _ hq
   rw [e4, e2]; exact d2
  ·obtain ⟨e1, e2, e3, e4, e5, e6, e7, d1, d2, d3, d4, l1, l2⟩ := q _ _ _ _ hq
   rw [e7, ← e1, op_op]; exact d1
  ·rw [e]; exact hd
 -- both come back to the outer half-edges at the same one
 have fR : ∀ x, D x → (phi op a x = op (t (a x))) ∨ (¬ D (phi op a x) ∧ phi op a (phi op a x) = op (t (a x))) := by
  intro x hx
  rcases dout (a x) (da x hx) with ⟨u, h, p, v, hq, e | e⟩ | ⟨e, hd⟩
  ·obtain ⟨e1, e2, e3, e4, e5, e6, e7, d1, d2, d3, d4, l1, l2⟩ := q _ _ _ _ hq
   right
   have s1 : phi op a x = h := by show op (a x) = h; rw [e, e1]
   rw [s1]
   exact ⟨d3, by show op (a h) = _; rw [e3, e2, e, e4, e2]⟩
  ·obtain ⟨e1, e2, e3, e4, e5, e6, e7, d1, d2, d3, d4, l1, l2⟩ := q _ _ _ _ hq
   right
   have s1 : phi op a x = p := by show op (a x) = p; rw [e, ← e2, op_op]
   have s2 : a p = h := by rw [← e3, hm.inv _ l1]
   rw [s1]
   exact ⟨d4, by show op (a p) = _; rw [s2, e, e7]⟩
  ·left; show op (a x) = _; rw [e]
 have gR : ∀ x, D x → (phi op (cj t a) x = op (t (a x))) ∨ (¬ D (phi op (cj t a) x) ∧ phi op (cj t a) (phi op (cj t a) x) = op (t (a x))) := by
  intro x hx
  rcases dout x hx with ⟨u, h, p, v, hq, rfl | rfl⟩ | ⟨e, hd⟩
  ·obtain ⟨e1, e2, e3, e4, e5, e6, e7, d1, d2, d3, d4, l1, l2⟩ := q _ _ _ _ hq
   right
   have s2 : a p = h := by rw [← e3, hm.inv _ l1]
   have s1 : phi op (cj t a) x = p := by show op (t (a (t x))) = p; rw [e4, s2, e5, ← e2, op_op]
   rw [s1]
   exact ⟨d4, by show op (t (a (t p))) = _; rw [e6]⟩
  ·obtain ⟨e1, e2, e3, e4, e5, e6, e7, d1, d2, d3, d4, l1, l2⟩ := q _ _ _ _ hq
   right
   have s1 : phi op (cj t a) x = h := by show op (t (a (t x))) = h; rw [e7, e3, e6, e1]
   rw [s1]
   exact ⟨d3, by show op (t (a (t h))) = _; rw [e5]⟩
  ·left; show op (t (a (t x))) = _; rw [e]
 have fo : ∀ x, D x → Orb (phi op a) x (op (t (a x))) := fun x hx => by
  rcases fR x hx with e | ⟨_, e⟩
  ·exact ⟨1, e⟩
  ·exact ⟨2, e⟩
 have go : ∀ x, D x → Orb (phi op (cj t a)) x (op (t (a x))) := fun x hx => by
  rcases gR x hx with e | ⟨_, e⟩
  ·exact ⟨1, e⟩
  ·exact ⟨2, e⟩
 have fE := hm.op.pb.eqv
 have gE := hm'.op.pb.eqv
 have fin : ∀ x, x < 4 * n → ∃ y, D y ∧ Orb (phi op a) x y := by
  intro x hx
  by_cases hD : D x
  ·exact ⟨x, hD, Orb.refl _ _⟩
  ·obtain ⟨u, h, p, v, hq, rfl | rfl⟩ := din x hx hD
   ·obtain ⟨e1, e2, e3, e4, e5, e6, e7, d1, d2, d3, d4, l1, l2⟩ := q _ _ _ _ hq
    exact ⟨v, d2, ⟨1, by show op (a x) = v; rw [e3, e2]⟩⟩
   ·obtain ⟨e1, e2, e3, e4, e5, e6, e7, d1, d2, d3, d4, l1, l2⟩ := q _ _ _ _ hq
    have s2 : a x = h := by rw [← e3, hm.inv _ l1]
    exact ⟨u, d1, ⟨1, by show op (a x) = u; rw [s2, ← e1, op_op]⟩⟩
 have gin : ∀ x, x < 4 * n → ∃ y, D y ∧ Orb (phi op (cj t a)) x y := by
  intro x hx
  by_cases hD : D x
  ·exact ⟨x, hD, Orb.refl _ _⟩
  ·obtain ⟨u, h, p, v, hq, rfl | rfl⟩ := din x hx hD
   ·obtain ⟨e1, e2, e3, e4, e5, e6, e7, d1, d2, d3, d4, l1, l2⟩ := q _ _ _ _ hq
    exact ⟨_, hR _ (da _ d2), ⟨1, by show op (t (a (t x))) = _; rw [e5]⟩⟩
   ·obtain ⟨e1, e2, e3, e4, e5, e6, e7, d1, d2, d3, d4, l1, l2⟩ := q _ _ _ _ hq
    exact ⟨_, hR _ (da _ d1), ⟨1, by show op (t (a (t x))) = _; rw [e6]⟩⟩
 have h1 := hk.sub (D := D) dS fin
 have h2 : Cls D (Orb (phi op (cj t a))) k := Cls.congr h1 (fun _ => Iff.rfl) fun x y hx hy => by
  constructor
  ·refine orb_ret (D := D) (fun x hx => ?_) hx hy
   rcases fR x hx with e | ⟨n1, e⟩
   ·left; rw [e]; exact ⟨hR _ (da x hx), go x hx⟩
   ·right; rw [e]; exact ⟨hR _ (da x hx), n1, go x hx⟩
  ·refine orb_ret (D := D) (fun x hx => ?_) hx hy
   rcases gR x hx with e | ⟨n1, e⟩
   ·left; rw [e]; exact ⟨hR _ (da x hx), fo x hx⟩
   ·right; rw [e]; exact ⟨hR _ (da x hx), n1, fo x hx⟩
 exact h2.sup gE dS gin
theorem Tr.same (hd : Valid d) {h0 h1 h2 : Nat} (t : Tr d h0 h1 h2) (sg : d'.sg = d.sg) (lp : d'.lp = d.lp) (len : d'.mt.length = 4 * d.n) (hm : ∀ x, x < 4 * d.n → d'.m x = cj (tu h0 h1 h2) d.m x) : Same d d' := by
 intro s s' h h'
 have hv := Valid.iff.1 hd
 have hw := hv.1
 have hw' := (Valid.iff.1 (t.valid hd sg lp len hm)).1
 have T := t.tri hw
 have hn : d'.n = d.n := by unfold Dg.n; rw [sg]
 have hj := hw.hm.cj (t := tu h0 h1 h2) T.tS (fun x _ => T.tt x)
 have hm' : Hm (4 * d.n) (fun h => h < 4 * d.n) rot (cj (tu h0 h1 h2) d.m) := ⟨hw.hm.rb, hj.ab, hj.inv⟩
 have o1 : ∀ x y z, rot x = y → rot y = z → op x = z := fun x y z e1 e2 => by show tn x 2 = z; rw [← rot_rot, e1, e2]
 have key := slide_cls (k := 2 * s) hw.hm hm' (Dout (dart d) h0 h1 h2 (tn h0 1) (tn h1 1) (tn h2 1))
  (fun u h p v => (u = tn h0 2 ∧ h = h0 ∧ p = tn h1 1 ∧ v = tn h1 3) ∨ (u = tn h1 2 ∧ h = h1 ∧ p = tn h2 1 ∧ v = tn h2 3) ∨ (u = tn h2 2 ∧ h = h2 ∧ p = tn h0 1 ∧ v = tn h0 3))
  (fun u h p v hq => by
    rcases hq with ⟨rfl, rfl, rfl, rfl⟩ | ⟨rfl, rfl, rfl, rfl⟩ | ⟨rfl, rfl, rfl, rfl⟩
    ·exact ⟨o1 _ _ _ T.ru0 T.rp0, o1 _ _ _ T.rp1 T.rh1, T.ah0, T.tu0, T.th0, T.tp1, T.tv1, T.du0, T.dv1, T.nh0, T.np1, T.mem _ (by simp), T.mem _ (by simp)⟩
    ·exact ⟨o1 _ _ _ T.ru1 T.rp1, o1 _ _ _ T.rp2 T.rh2, T.ah1, T.tu1, T.th1, T.tp2, T.tv2, T.du1, T.dv2, T.nh1, T.np2, T.mem _ (by simp), T.mem _ (by simp)⟩
    ·exact ⟨o1 _ _ _ T.ru2 T.rp2, o1 _ _ _ T.rp0 T.rh0, T.ah2, T.tu2, T.th2, T.tp0, T.tv0, T.du2, T.dv0, T.nh2, T.np0, T.mem _ (by simp), T.mem _ (by simp)⟩)
  (fun x hx => hx.1) (fun x hx => T.da hw.hm hx)
  (fun x hx hD => by
    have hD2 : x = h0 ∨ x = h1 ∨ x = h2 ∨ x = tn h0 1 ∨ x = tn h1 1 ∨ x = tn h2 1 := by
     rw [T.out hx] at hD
     exact Classical.byContradiction fun e => hD e
    rcases hD2 with e | e | e | e | e | e
    ·exact ⟨_, _, _, _, .inl ⟨rfl, rfl, rfl, rfl⟩, .inl e⟩
    ·exact ⟨_, _, _, _, .inr (.inl ⟨rfl, rfl, rfl, rfl⟩), .inl e⟩
    ·exact ⟨_, _, _, _, .inr (.inr ⟨rfl, rfl, rfl, rfl⟩), .inl e⟩
    ·exact ⟨_, _, _, _, .inr (.inr ⟨rfl, rfl, rfl, rfl⟩), .inr e⟩
    ·exact ⟨_, _, _, _, .inl ⟨rfl, rfl, rfl, rfl⟩, .inr e⟩
    ·exact ⟨_, _, _, _, .inr (.inl ⟨rfl, rfl, rfl, rfl⟩), .inr e⟩)
  (fun x hx => by
    by_cases e : x ∈ [tn h0 2, tn h1 2, tn h2 2, tn h0 3, tn h1 3, tn h2 3]
    ·left
     simp only [List.mem_cons, List.not_mem_nil, or_false] at e
     rcases e with e | e | e | e | e | e
     ·exact ⟨_, _, _, _, .inl ⟨rfl, rfl, rfl, rfl⟩, .inl e⟩
     ·exact ⟨_, _, _, _, .inr (.inl ⟨rfl, rfl, rfl, rfl⟩), .inl e⟩
     ·exact ⟨_, _, _, _, .inr (.inr ⟨rfl, rfl, rfl, rfl⟩), .inl e⟩
     ·exact ⟨_, _, _, _, .inr (.inr ⟨rfl, rfl, rfl, rfl⟩), .inr e⟩
     ·exact ⟨_, _, _, _, .inl ⟨rfl, rfl, rfl, rfl⟩, .inr e⟩
     ·exact ⟨_, _, _, _, .inr (.inl ⟨rfl, rfl, rfl, rfl⟩), .inr e⟩
    ·right
     have hx0 := (T.out hx.1).1 hx
     have hno : x ∉ [h0, h1, h2, tn h0 1, tn h1 1, tn h2 1, tn h0 2, tn h1 2, tn h2 2, tn h0 3, tn h1 3, tn h2 3] := fun hm => by
      simp only [List.mem_cons, List.not_mem_nil, or_false] at hm e
      rcases hm with h | h | h | h | h | h | h
      ·exact hx0 (.inl h)
      ·exact hx0 (.inr (.inl h))
      ·exact hx0 (.inr (.inr (.inl h)))
      ·exact hx0 (.inr (.inr (.inr (.inl h))))
      ·exact hx0 (.inr (.inr (.inr (.inr (.inl h)))))
      ·exact hx0 (.inr (.inr (.inr (.inr (.inr h)))))
      ·exact e h
     refine ⟨T.tx x hno, ?_⟩
     have c1 := (T.cx hw.hm hx.1 hno).1
     have c2 := (T.cx hw.hm (rot_lt hx.1) c1).1
     rw [T.out (show dart d (op x) from tn_lt hx.1)]
     intro hm
     apply c2
     rw [rot_rot]
     simp only [List.mem_cons, List.not_mem_nil, or_false]
     rcases hm with h | h | h | h | h | h
     ·exact .inl h
     ·exact .inr (.inl h)
     ·exact .inr (.inr (.inl h))
     ·exact .inr (.inr (.inr (.inl h)))
     ·exact .inr (.inr (.inr (.inr (.inl h))))
     ·exact .inr (.inr (.inr (.inr (.inr (.inl h))))))
  (h.all hw)
 have e2 : Cls (dart d') (Orb (st d')) (2 * s) := Cls.congr key (fun x => by unfold dart; rw [hn]) fun x y hx hy => by
  refine Orb.congr (S := fun z => z < 4 * d.n) (fun z hz => tn_lt (hm'.ab.maps z hz)) (fun z hz => ?_) hx
  show tn _ 2 = tn (d'.m z) 2
  rw [hm z hz]
 have := h'.iff hw' e2
 omega
end Go.Proofs.YtcaoblilkgajoaaDoor.Pl
end
section
namespace Go.Proofs.YtcaoblilkgajoaaDoor.Pl
section
variable {d : Dg} {h u : Nat}
theorem Lens.lA_c (E : d.m (tn h 2) = tn u 2) : lA d h u = d.m := by unfold lA Pl.cls; rw [if_pos E]
theorem Lens.lA_e (hw : Wf d) (L : Lens d h u) (E : d.m (tn h 2) ≠ tn u 2) : lA d h u (d.m (tn h 2)) = d.m (tn u 2) ∧ lA d h u (d.m (tn u 2)) = d.m (tn h 2) ∧ ∀ z, z ≠ tn h 2 → z ≠ tn u 2 → z ≠ d.m (tn h 2) → z ≠ d.m (tn u 2) → lA d h u z = d.m z := by
 have hh := L.hh
 have hu := L.hu hw
 obtain ⟨b1, b2, b3, b4, b5⟩ := byp_at hw.hm (tn_lt hh) (tn_lt hu) (pm L.ne) (hw.ne _ (tn_lt (k := 2) hh)) (hw.ne _ (tn_lt (k := 2) hu)) E
 unfold lA Pl.cls
 rw [if_neg E]
 exact ⟨b3, b4, b5⟩
theorem Lens.lB_c (E : lA d h u (tn h 3) = tn u 1) : lB d h u = lA d h u := by unfold lB; unfold Pl.cls; rw [if_pos E]
theorem Lens.lB_e (hd : Valid d) (L : Lens d h u) (E : lA d h u (tn h 3) ≠ tn u 1) : lB d h u (lA d h u (tn h 3)) = lA d h u (tn u 1) ∧ lB d h u (lA d h u (tn u 1)) = lA d h u (tn h 3) ∧
 ∀ z, z ≠ tn h 3 → z ≠ tn u 1 → z ≠ lA d h u (tn h 3) → z ≠ lA d h u (tn u 1) → lB d h u z = lA d h u z := by
 have hw := (Valid.iff.1 hd).1
 have hh := L.hh
 have hu := L.hu hw
 have A := L.la hd
 obtain ⟨b1, b2, b3, b4, b5⟩ := byp_at A.hm (tn_lt hh) (tn_lt hu) (pm L.ne) (A.nf _ (tn_lt (k := 3) hh) (tn_ne (by omega)) (pm L.ne)) (A.nf _ (tn_lt (k := 1) hu) (Ne.symm (pm L.ne)) (tn_ne (by omega))) E
 unfold lB
 unfold Pl.cls
 rw [if_neg E]
 exact ⟨b3, b4, b5⟩
end
theorem tn_pp (n f t k : Nat) : tn (pp n f t) k = pp n f (t + k) := by unfold tn pp; omega
/-- What a poke laid in, taken out. -/
structure Out (d d' : Dg) (f g c1 c2 : Nat) : Prop where
 n : d'.n = d.n + 2
 L : Lens d' (pp d.n f 0) (pp (d.n + 1) g 2)
 b : ∀ z, z < 4 * d.n → lB d' (pp d.n f 0) (pp (d.n + 1) g 2) z = d.m z
 e1 : c1 = if d'.m (pp d.n f 2) = pp (d.n + 1) g 0 then 1 else 0
 e2 : c2 = if lA d' (pp d.n f 0) (pp (d.n + 1) g 2) (pp d.n f 3) = pp (d.n + 1) g 3 then 1 else 0
section
variable {d d' : Dg} {f g c1 c2 : Nat}
theorem Out.stay (O : Out d d' f g c1 c2) (z : Nat) : Pl.stay d' [d.n, d.n + 1] z ↔ z < 4 * d.n := by
 unfold Pl.stay
 rw [O.n, List.mem_cons, List.mem_singleton]
 omega
theorem Out.hx (O : Out d d' f g c1 c2) : (d.n = pp d.n f 0 / 4 ∧ d.n + 1 = pp (d.n + 1) g 2 / 4) ∨ (d.n = pp (d.n + 1) g 2 / 4 ∧ d.n + 1 = pp d.n f 0 / 4) := by
 left; unfold pp; omega
theorem Out.same (hd : Valid d) (hd' : Valid d') (O : Out d d' f g c1 c2) (hlp : d.lp = d'.lp + c1 + c2) : Same d d' := by
 intro s s' h h'
 have hw := (Valid.iff.1 hd).1
 have hw' := (Valid.iff.1 hd').1
 have R := (O.L.lb hd').rs hw' O.L (x := d.n) (y := d.n + 1) (by omega) O.hx (lp := 0) (by omega) (mt := List.ofFn (n := 4 * d'.n) (fun z => lB d' (pp d.n f 0) (pp (d.n + 1) g 2) z.1)) (fun z hz => by
  rw [List.getD_eq_getElem?_getD, List.getElem?_ofFn, dif_pos hz.1]; rfl)
 have := in_same hw hw' R O.stay O.b (O.L.cls hd' (h'.all hw')) (O.L.gone hd' O.hx) h
 have q1 : tn (pp d.n f 0) 2 = pp d.n f 2 := tn_pp _ _ _ _
 have q2 : tn (pp (d.n + 1) g 2) 2 = pp (d.n + 1) g 0 := by rw [tn_pp, show 2 + 2 = 0 + 4 from rfl, pp_mod]
 have q3 : tn (pp d.n f 0) 3 = pp d.n f 3 := tn_pp _ _ _ _
 have q4 : tn (pp (d.n + 1) g 2) 1 = pp (d.n + 1) g 3 := tn_pp _ _ _ _
 rw [q1, q2, q3, q4] at this
 have e1 := O.e1
 have e2 := O.e2
 by_cases a1 : d'.m (pp d.n f 2) = pp (d.n + 1) g 0 <;> by_cases a2 : lA d' (pp d.n f 0) (pp (d.n + 1) g 2) (pp d.n f 3) = pp (d.n + 1) g 3 <;> simp only [a1, a2, if_true, if_false] at this e1 e2 <;> omega
/-- The inner mates. -/
structure In (d d' : Dg) (f g : Nat) : Prop where
 n : d'.n = d.n + 2
 v : Valid d'
 m0 : d'.m (pp d.n f 0) = pp (d.n + 1) g 2
 m1 : d'.m (pp d.n f 1) = pp (d.n + 1) g 1
theorem In.lens (I : In d d' f g) : Lens d' (pp d.n f 0) (pp (d.n + 1) g 2) :=
 ⟨by rw [I.n]; unfold pp; omega, I.m0, by rw [tn_pp, I.m1, tn_pp, show 2 + 3 = 1 + 4 from rfl, pp_mod], by unfold pp; omega⟩
section
variable (I : In d d' f g)
include I
theorem In.e1 (E : d'.m (pp d.n f 2) ≠ pp (d.n + 1) g 0) : lA d' (pp d.n f 0) (pp (d.n + 1) g 2) (d'.m (pp d.n f 2)) = d'.m (pp (d.n + 1) g 0) ∧ lA d' (pp d.n f 0) (pp (d.n + 1) g 2) (d'.m (pp (d.n + 1) g 0)) = d'.m (pp d.n f 2) ∧
 ∀ z, z ≠ pp d.n f 2 → z ≠ pp (d.n + 1) g 0 → z ≠ d'.m (pp d.n f 2) → z ≠ d'.m (pp (d.n + 1) g 0) → lA d' (pp d.n f 0) (pp (d.n + 1) g 2) z = d'.m z := by
 have q1 : tn (pp d.n f 0) 2 = pp d.n f 2 := tn_pp _ _ _ _
 have q2 : tn (pp (d.n + 1) g 2) 2 = pp (d.n + 1) g 0 := by rw [tn_pp, show 2 + 2 = 0 + 4 from rfl, pp_mod]
 have := I.lens.lA_e (Valid.iff.1 I.v).1 (by rw [q1, q2]; exact E)
 rwa [q1, q2] at this
theorem In.k1 (E : d'.m (pp d.n f 2) = pp (d.n + 1) g 0) : lA d' (pp d.n f 0) (pp (d.n + 1) g 2) = d'.m := by
 have _ := I
 have q1 : tn (pp d.n f 0) 2 = pp d.n f 2 := tn_pp _ _ _ _
 have q2 : tn (pp (d.n + 1) g 2) 2 = pp (d.n + 1) g 0 := by rw [tn_pp, show 2 + 2 = 0 + 4 from rfl, pp_mod]
 exact Lens.lA_c (by rw [q1, q2]; exact E)
theorem In.e2 (E : lA d' (pp d.n f 0) (pp (d.n + 1) g 2) (pp d.n f 3) ≠ pp (d.n + 1) g 3) : lB d' (pp d.n f 0) (pp (d.n + 1) g 2) (lA d' (pp d.n f 0) (pp (d.n + 1) g 2) (pp d.n f 3)) = lA d' (pp d.n f 0) (pp (d.n + 1) g 2) (pp (d.n + 1) g 3) ∧
 lB d' (pp d.n f 0) (pp (d.n + 1) g 2) (lA d' (pp d.n f 0) (pp (d.n + 1) g 2) (pp (d.n + 1) g 3)) = lA d' (pp d.n f 0) (pp (d.n + 1) g 2) (pp d.n f 3) ∧
 ∀ z, z ≠ pp d.n f 3 → z ≠ pp (d.n + 1) g 3 → z ≠ lA d' (pp d.n f 0) (pp (d.n + 1) g 2) (pp d.n f 3) → z ≠ lA d' (pp d.n f 0) (pp (d.n + 1) g 2) (pp (d.n + 1) g 3) → lB d' (pp d.n f 0) (pp (d.n + 1) g 2) z = lA d' (pp d.n f 0) (pp (d.n + 1) g 2) z := by
 have q3 : tn (pp d.n f 0) 3 = pp d.n f 3 := tn_pp _ _ _ _
 have q4 : tn (pp (d.n + 1) g 2) 1 = pp (d.n + 1) g 3 := tn_pp _ _ _ _
 have := I.lens.lB_e I.v (by rw [q3, q4]; exact E)
 rwa [q3, q4] at this
theorem In.k2 (E : lA d' (pp d.n f 0) (pp (d.n + 1) g 2) (pp d.n f 3) = pp (d.n + 1) g 3) : lB d' (pp d.n f 0) (pp (d.n + 1) g 2) = lA d' (pp d.n f 0) (pp (d.n + 1) g 2) := by
 have _ := I
 have q3 : tn (pp d.n f 0) 3 = pp d.n f 3 := tn_pp _ _ _ _
 have q4 : tn (pp (d.n + 1) g 2) 1 = pp (d.n + 1) g 3 := tn_pp _ _ _ _
 exact Lens.lB_c (by rw [q3, q4]; exact E)
theorem In.po (t : Nat) {z : Nat} (hz : z < 4 * d.n) : z ≠ pp d.n f t := by have _ := I; have := pp_bd d.n f t; omega
theorem In.qo (t : Nat) {z : Nat} (hz : z < 4 * d.n) : z ≠ pp (d.n + 1) g t := by have _ := I; have := pp_bd (d.n + 1) g t; omega
/-- Two edges. -/
theorem In.edges (hw : Wf d) {x y : Nat} (hx : x < 4 * d.n) (hy : y < 4 * d.n) (xy : x ≠ y) (xm : d.m x ≠ y) (v2 : d'.m (pp d.n f 2) = d.m y) (v0 : d'.m (pp (d.n + 1) g 0) = y) (v3 : d'.m (pp d.n f 3) = x) (w3 : d'.m (pp (d.n + 1) g 3) = d.m x)
 (old : ∀ z, z < 4 * d.n → z ≠ x → z ≠ d.m x → z ≠ y → z ≠ d.m y → d'.m z = d.m z) : Out d d' f g 0 0 := by
 have hmx := hw.lt x hx
 have hmy := hw.lt y hy
 have n1 : d'.m (pp d.n f 2) ≠ pp (d.n + 1) g 0 := by rw [v2]; exact I.qo 0 hmy
 obtain ⟨a1, a2, a3⟩ := I.e1 n1
 rw [v2, v0] at a1 a2 a3
 have k1 := a3 (pp d.n f 3) (pp_ne (by omega)) pp_nq (Ne.symm (I.po 3 hmy)) (Ne.symm (I.po 3 hy))
 have k2 := a3 (pp (d.n + 1) g 3) (Ne.symm pp_nq) (pp_ne (by omega)) (Ne.symm (I.qo 3 hmy)) (Ne.symm (I.qo 3 hy))
 rw [v3] at k1
 rw [w3] at k2
 have n2 : lA d' (pp d.n f 0) (pp (d.n + 1) g 2) (pp d.n f 3) ≠ pp (d.n + 1) g 3 := by rw [k1]; exact I.qo 3 hx
 obtain ⟨b1, b2, b3⟩ := I.e2 n2
 rw [k1, k2] at b1 b2 b3
 refine ⟨I.n, I.lens, fun z hz => ?_, by rw [if_neg n1], by rw [if_neg n2]⟩
 by_cases z1 : z = x
 ·rw [z1, b1]
 ·by_cases z2 : z = d.m x
  ·rw [z2, b2, hw.inv x hx]
  ·rw [b3 z (I.po 3 hz) (I.qo 3 hz) z1 z2]
   by_cases z3 : z = y
   ·rw [z3, a2]
   ·by_cases z4 : z = d.m y
    ·rw [z4, a1, hw.inv y hy]
    ·rw [a3 z (I.po 2 hz) (I.qo 0 hz) z4 z3, old z hz z1 z2 z3 z4]
/-- Two loops. -/
theorem In.loops (v2 : d'.m (pp d.n f 2) = pp (d.n + 1) g 0) (v3 : d'.m (pp d.n f 3) = pp (d.n + 1) g 3) (old : ∀ z, z < 4 * d.n → d'.m z = d.m z) : Out d d' f g 1 1 := by
 have k := I.k1 v2
 have n2 : lA d' (pp d.n f 0) (pp (d.n + 1) g 2) (pp d.n f 3) = pp (d.n + 1) g 3 := by rw [k, v3]
 exact ⟨I.n, I.lens, fun z hz => by rw [I.k2 n2, k, old z hz], by rw [if_pos v2], by rw [if_pos n2]⟩
/-- The first a loop, the second an edge. -/
theorem In.yedge (hw : Wf d) {y : Nat} (hy : y < 4 * d.n) (v2 : d'.m (pp d.n f 2) = d.m y) (v0 : d'.m (pp (d.n + 1) g 0) = y) (v3 : d'.m (pp d.n f 3) = pp (d.n + 1) g 3)
 (old : ∀ z, z < 4 * d.n → z ≠ y → z ≠ d.m y → d'.m z = d.m z) : Out d d' f g 0 1 := by
 have hmy := hw.lt y hy
 have n1 : d'.m (pp d.n f 2) ≠ pp (d.n + 1) g 0 := by rw [v2]; exact I.qo 0 hmy
 obtain ⟨a1, a2, a3⟩ := I.e1 n1
 rw [v2, v0] at a1 a2 a3
 have n2 : lA d' (pp d.n f 0) (pp (d.n + 1) g 2) (pp d.n f 3) = pp (d.n + 1) g 3 := by
  rw [a3 (pp d.n f 3) (pp_ne (by omega)) pp_nq (Ne.symm (I.po 3 hmy)) (Ne.symm (I.po 3 hy)), v3]
 refine ⟨I.n, I.lens, fun z hz => ?_, by rw [if_neg n1], by rw [if_pos n2]⟩
 rw [I.k2 n2]
 by_cases z3 : z = y
 ·rw [z3, a2]
 ·by_cases z4 : z = d.m y
  ·rw [z4, a1, hw.inv y hy]
  ·rw [a3 z (I.po 2 hz) (I.qo 0 hz) z4 z3, old z hz z3 z4]
end
end
end Go.Proofs.YtcaoblilkgajoaaDoor.Pl
end
section
namespace Go.Proofs.YtcaoblilkgajoaaDoor.Pl
section
variable {d d' : Dg} {f g : Nat} {fx fy : Bool}
theorem Pd.l0 (hd : Valid d) (K : Pd d d' f g fx fy) : (pkL0 d f g).length = 4 * (d.n + 2) ∧ (pkL0 d f g).getD (pp d.n f 0) 0 = pp (d.n + 1) g 2 ∧ (pkL0 d f g).getD (pp d.n f 1) 0 = pp (d.n + 1) g 1 ∧ ∀ z, z < 4 * d.n → (pkL0 d f g).getD z 0 = d.m z := by
 have B := K.base hd
 have hw := (Valid.iff.1 hd).1
 refine ⟨B.ms.len, ?_, ?_, fun z hz => ?_⟩
 ·rw [B.ms.at_ _ (by unfold pp; omega) (by rw [B.b4]; unfold pp; omega), B.b4]
 ·rw [B.ms.at_ _ (by unfold pp; omega) (by rw [B.b1]; unfold pp; omega), B.b1]
 ·rw [B.ms.at_ z (by omega) (by rw [B.old z hz]; exact hw.ne z hz), B.old z hz]
end
end Go.Proofs.YtcaoblilkgajoaaDoor.Pl
end
section
namespace Go.Proofs.YtcaoblilkgajoaaDoor
open Go Go.RowKit
attribute [local go_sem ↓] Go.wp_at_zero Go.wp_at_succ
/-- The end of a walk, and its moves. -/
noncomputable def wk (most : Int) : Pl.Dg → List Int → Pl.Dg × List Mv
 | d, [] => (d, [])
 | d, c :: cs => match (chL d most)[chI c (chL d most).length]? with
   | none => (d, [])
   | some z => ((wk most (apD d z) cs).1, z :: (wk most (apD d z) cs).2)
end Go.Proofs.YtcaoblilkgajoaaDoor
end
section
namespace Go.Proofs.YtcaoblilkgajoaaDoor
open Go Go.RowKit
attribute [local go_sem ↓] Go.wp_at_zero Go.wp_at_succ
/-- The first part of a list, and the rest. -/
theorem elemI : Tryd.prog.underlying 22 = some (.slice (Tryd.prog.elem 22)) := by kernel_rfl
theorem sizeI (W : World) : (sizeOf (Tryd.prog.elem 22)).run Tryd.prog W = .ok 1 W := by kernel_rfl
theorem cut_hi {w : World} {A : Option Addr} {n c : Nat} {xs : List Int} (h : IntsAt w A n xs) {k : Nat} (hk : k ≤ n) (hc : n ≤ c) :
 ∃ A1 : Option Addr, IntsAt w A1 (n - k) (xs.drop k) ∧ ∀ W : World, (Instr.slice 22 (.slice A n c) (some (.int .i64 (k : Int))) none none).run Tryd.prog W = .ok (.slice A1 (n - k) (c - k)) W := by
 have hl := h.len
 refine ⟨if c = k then A else A.map (·.add (k * 1)), ⟨by simp; omega, fun hp => ?_⟩, fun W => ?_⟩
 ·obtain ⟨b, o, rfl, hx⟩ := h.2 (by omega)
  rw [if_neg (by omega)]
  refine ⟨b, o + k, by simp [Addr.add_lit], fun j u hu => ?_⟩
  rw [List.map_drop, List.getElem?_drop] at hu
  rw [Nat.add_assoc]
  exact hx _ u hu
 ·rw [run_slice_l W 22 A n c elemI .i64 (k : Int) (by omega) (by omega), sizeI]
  rfl
section
variable {P : Program} (w : World)
end
end Go.Proofs.YtcaoblilkgajoaaDoor
end
section
namespace Go.Proofs.YtcaoblilkgajoaaDoor
open Go Go.RowKit
attribute [local go_sem ↓] Go.wp_at_zero Go.wp_at_succ
/-- While a code is written: the box, the numbers, the order and the code. -/
structure NK (w : World) (dv : List Value) (vO vC : Value) (ns : List Int) (o : List Nat) (cs : List Int) (W : World) : Prop where
 d : Row W w.heap.size 28 dv
 nu : IRow W (w.heap.size + 1) ns
 o : W.ownsRow (w.heap.size + 2) 3 1 vO o.length (o.map (fun k : Nat => Value.int .i64 k))
 c : W.ownsRow (w.heap.size + 2) 3 1 vC cs.length (cs.map (.int .i64))
 ne : ∀ k, vO.ownBlock = some k → vC.ownBlock ≠ some k
 bel : Below w.heap.size w W
section
variable {w W W2 : World} {dv : List Value} {vO vC : Value} {ns : List Int} {o : List Nat} {cs : List Int}
theorem NK.big (h : NK w dv vO vC ns o cs W) : w.heap.size + 2 ≤ W.heap.size := by have := Row.lt h.nu; omega
theorem NK.below (h : NK w dv vO vC ns o cs W) (hb : Below W.heap.size W W2) : NK w dv vO vC ns o cs W2 :=
 ⟨h.d.below hb, Row.below h.nu hb, own_keep h.o hb (Nat.le_refl _), own_keep h.c hb (Nat.le_refl _), h.ne, h.bel.trans (hb.mono (by have := h.big; omega))⟩
theorem NK.alloc (h : NK w dv vO vC ns o cs W) (b : Obj) : NK w dv vO vC ns o cs (W.alloc b) := h.below ((Below.refl _ _).alloc (Nat.le_refl _) b)
theorem NK.setN (h : NK w dv vO vC ns o cs W) (i : Nat) (v : Int) : NK w dv vO vC (ns.set i v) o cs (W.setCell ⟨w.heap.size + 1, i, none⟩ (.int .i64 v)) :=
 ⟨h.d.other (by show _ ≠ w.heap.size + 1; omega) _, h.nu.set i v, ownsRow_setCell_below h.o (by show w.heap.size + 1 < w.heap.size + 2; omega) _, ownsRow_setCell_below h.c (by show w.heap.size + 1 < w.heap.size + 2; omega) _, h.ne, h.bel.setCell (by show _ ≤ w.heap.size + 1; omega) _⟩
theorem own_hat {g : Nat} {v : Value} {W : World} {base n : Nat} {xs : List Value} {t : TypeId} (h : W.ownsRow base t 1 v n xs) (hat : v.ownBlock = some g ∨ g = W.heap.size) {u : Value} {m : Nat} {ys : List Value} (hu : W.ownsRow base t 1 u m ys) (ne : ∀ k, v.ownBlock = some k → u.ownBlock ≠ some k) : u.ownBlock ≠ some g := by
 rcases hat with e | e
 ·exact ne g e
 ·intro e2
  have := (hu.lt g e2).2
  omega
theorem NK.appO (h : NK w dv vO vC ns o cs W) {g c n : Nat} {o' : List Nat} (own : W2.ownsRow (w.heap.size + 2) 3 1 (.slice (some ⟨g, 0, none⟩) n c) n (o'.map (fun k : Nat => Value.int .i64 k))) (gr : W.grownBy W2 vO.ownBlock) (hat : vO.ownBlock = some g ∨ g = W.heap.size) : NK w dv (.slice (some ⟨g, 0, none⟩) n c) vC ns o' cs W2 := by
 have hn : n = o'.length := by have := own.1; simpa using this.symm
 have hne := own_hat h.o hat h.c h.ne
 have hle := h.big
 refine ⟨h.d.grown gr (own_row_ne h.o h.d (by decide)), Row.grown h.nu gr (fun e => ?_), by rw [← hn]; exact own, h.c.kept gr ?_, fun k hk => ?_, h.bel.grown gr (by omega) (fun k hk => by have := (h.o.lt k hk).1; omega)⟩
 ·have := (h.o.lt _ e.symm).1; omega
 ·cases hm : vC.ownBlock with
  | none => exact .inl rfl
  | some x => exact .inr (fun e => h.ne x e.symm hm)
 ·have e : g = k := by injection hk
  subst e
  exact hne
theorem NK.appC (h : NK w dv vO vC ns o cs W) {g c n : Nat} {cs' : List Int} (own : W2.ownsRow (w.heap.size + 2) 3 1 (.slice (some ⟨g, 0, none⟩) n c) n (cs'.map (.int .i64))) (gr : W.grownBy W2 vC.ownBlock) (hat : vC.ownBlock = some g ∨ g = W.heap.size) : NK w dv vO (.slice (some ⟨g, 0, none⟩) n c) ns o cs' W2 := by
 have hn : n = cs'.length := by have := own.1; simpa using this.symm
 have hne := own_hat h.c hat h.o (fun k hk e => h.ne k e hk)
 have hle := h.big
 refine ⟨h.d.grown gr (own_row_ne h.c h.d (by decide)), Row.grown h.nu gr (fun e => ?_), h.o.kept gr ?_, by rw [← hn]; exact own, fun k hk e => ?_, h.bel.grown gr (by omega) (fun k hk => by have := (h.c.lt k hk).1; omega)⟩
 ·have := (h.c.lt _ e.symm).1; omega
 ·cases hm : vO.ownBlock with
  | none => exact .inl rfl
  | some x => exact .inr (fun e => h.ne x hm e.symm)
 ·have e : g = k := by injection e
  subst e
  exact hne hk
end
theorem rep_step (k n : Nat) (h : k < n) : (List.replicate k (-1 : Int) ++ List.replicate (n - k) 0).set k (-1) = List.replicate (k + 1) (-1) ++ List.replicate (n - (k + 1)) 0 := by
 have e : n - k = (n - (k + 1)) + 1 := by omega
 rw [e, List.replicate_succ, List.set_append_right _ _ (by simp), List.length_replicate, Nat.sub_self, List.set_cons_zero, List.replicate_succ' , List.append_assoc]
 rfl
theorem cut_mid {w : World} {A : Option Addr} {n c : Nat} {xs : List Int} (h : IntsAt w A n xs) {k : Nat} (hk : k + 5 ≤ n) (hc : n ≤ c) :
 ∃ (A1 : Option Addr) (c1 : Nat), IntsAt w A1 5 ((xs.drop k).take 5) ∧ ∀ W : World, (Instr.slice 22 (.slice A n c) (some (.int .i64 (k : Int))) (some (.int .i64 ((k + 5 : Nat) : Int))) none).run Tryd.prog W = .ok (.slice A1 5 c1) W := by
 have hl := h.len
 obtain ⟨b, o, rfl, hx⟩ := h.2 (by omega)
 refine ⟨some ⟨b, o + k, none⟩, c - k, ⟨by simp; omega, fun hp => ⟨b, o + k, rfl, fun j u hu => ?_⟩⟩, fun W => ?_⟩
 ·rw [List.map_take, List.getElem?_take] at hu
  split at hu
  ·rw [List.map_drop, List.getElem?_drop] at hu
   rw [Nat.add_assoc]
   exact hx _ u hu
  ·cases hu
 ·rw [run_slice_lh W 22 (some ⟨b, o, none⟩) n c elemI .i64 .i64 (k : Int) ((k + 5 : Nat) : Int) (by omega) (by omega) (by omega), sizeI]
  simp only [Result.andThen_ok]
  unfold sliced
  rw [Int.toNat_natCast, Int.toNat_natCast, if_neg (show ¬ c = k by omega), show k + 5 - k = 5 by omega]
  simp [Addr.add_lit]
end Go.Proofs.YtcaoblilkgajoaaDoor
end
