/-
  The texts Cmp, Cmq, Cmk, Cyc, Mem, Wa in one.
-/
import Derived.Test.YtghdiolnonejaaaB04
import Derived.Test.YtghdiolnonejaaaB01
import Derived.Test.YtghdiolnonejaaaB00
import Derived.WalkKit
import Derived.WalkSpells
import Derived.WalkLawsBesides
import Derived.Test.YtghdiolnonejaaaRows
import Derived.BigQuiet
import Derived.Deep.QuietTactic
import Derived.Deep.Light
set_option linter.unusedVariables false
set_option linter.unusedSimpArgs false

section
namespace Go.Proofs.Ytghdiolnonejaaa.Pl
variable {d : Dg}
/-- As many components. -/
def Same (d d' : Dg) : Prop := ∀ s s', Str d s → Str d' s' → s + d.lp = s' + d'.lp
theorem Same.symm {d d' : Dg} (h : Same d d') : Same d' d := fun s s' a b => (h s' s b a).symm
theorem kink_gp (hd : Valid d) {o : Nat} (ho : o < 4 * d.n) (hk : d.m o / 4 = o / 4) : Gp d.n d.m o (d.m o) := by
  have hw := (Valid.iff.1 hd).1
  have hi := hw.lt o ho
  have four := kink_four hd ho hk
  exact ⟨hw.hm, ho, hi, rfl, fun e => hw.ne o ho e.symm, fun e => by rcases four with h | h <;> rw [h] at e <;> (unfold tn at e; omega), fun e => no_opp hd ho e⟩
theorem kink_gone (hd : Valid d) {o : Nat} (ho : o < 4 * d.n) (hk : d.m o / 4 = o / 4) (z : Nat) : grp o (d.m o) z ↔ gone d [o / 4] z := by
  have four := kink_four hd ho hk
  unfold grp gone
  rw [List.mem_singleton]
  constructor
  · rintro (rfl | rfl | rfl | rfl)
    · exact ⟨ho, rfl⟩
    · exact ⟨(Valid.iff.1 hd).1.lt _ ho, hk⟩
    · exact ⟨tn_lt ho, tn_div _ _⟩
    · exact ⟨tn_lt ((Valid.iff.1 hd).1.lt _ ho), by rw [tn_div, hk]⟩
  · rintro ⟨_, hc⟩
    rcases four with h | h <;> rw [h] <;> unfold tn at * <;> omega
/-- A kink on an edge: what stays has as many classes. -/
theorem kink_cls (hd : Valid d) {o : Nat} (ho : o < 4 * d.n) (hk : d.m o / 4 = o / 4) (hn : d.m (tn o 2) ≠ tn (d.m o) 2) {k : Nat} (hk2 : Cls (dart d) (Orb (st d)) k) :
    Cls (dart d) (Orb (phi op (byp d.m (tn (d.m o) 2) (tn o 2)))) (k + 1) ∧ Cls (gone d [o / 4]) (Orb (phi op (byp d.m (tn (d.m o) 2) (tn o 2)))) 1 := by
  have hw := (Valid.iff.1 hd).1
  have hi := hw.lt o ho
  have hA : tn o 2 < 4 * d.n := tn_lt ho
  have hB : tn (d.m o) 2 < 4 * d.n := tn_lt hi
  have hBA : tn (d.m o) 2 ≠ tn o 2 := fun e => hw.ne o ho (tn_inj e)
  have hmBA : d.m (tn (d.m o) 2) ≠ tn o 2 := fun e => hn (by rw [← e, hw.inv _ hB])
  have inv := hw.inv o ho
  have hmi : d.m (d.m o) / 4 = d.m o / 4 := by rw [inv, hk]
  have G : Gp d.n d.m (d.m o) o := by have := kink_gp hd hi hmi; rwa [inv] at this
  have h1 := G.cls (hw.ne _ hB) (hw.ne _ hA) hk2
  unfold cls at h1
  rw [if_neg hmBA, if_neg hmBA] at h1
  obtain ⟨b1, b2, b3, b4, b5⟩ := byp_at hw.hm hB hA hBA (hw.ne _ hB) (hw.ne _ hA) hmBA
  obtain ⟨q1, q2⟩ := kink_byp hd ho hk hn
  have R := kink_rs hd ho hk hn (lp := 0) (by omega) (mt := List.ofFn (n := 4 * d.n) (fun h => if h.1 = d.m (tn o 2) then d.m (tn (d.m o) 2) else if h.1 = d.m (tn (d.m o) 2) then d.m (tn o 2) else d.m h.1)) (fun h hh => by
    rw [List.getD_eq_getElem?_getD, List.getElem?_ofFn, dif_pos hh]; rfl)
  have e0 : byp d.m (tn (d.m o) 2) (tn o 2) (d.m o) = o := by
    have n1 : d.m o ≠ tn (d.m o) 2 := by unfold tn; omega
    have n2 : d.m o ≠ tn o 2 := no_opp hd ho
    have n3 : d.m o ≠ d.m (tn (d.m o) 2) := fun e => by have := hw.bij.inj _ _ ho hB e; rcases kink_four hd ho hk with h | h <;> rw [h] at this <;> (unfold tn at this; omega)
    have n4 : d.m o ≠ d.m (tn o 2) := fun e => by have := hw.bij.inj _ _ ho hA e; unfold tn at this; omega
    rw [b5 _ n1 n2 n3 n4, inv]
  have G2 : Gp d.n (byp d.m (tn (d.m o) 2) (tn o 2)) (d.m o) o := ⟨q1, hi, ho, e0, G.n1, G.n2, G.n3⟩
  refine ⟨h1, Cls.congr (G2.free b1 b2).1 (fun z => ?_) (fun _ _ _ _ => Iff.rfl)⟩
  rw [← kink_gone hd ho hk z]
  unfold grp
  constructor
  · rintro (h | h | h | h)
    · exact .inr (.inl h)
    · exact .inl h
    · exact .inr (.inr (.inr h))
    · exact .inr (.inr (.inl h))
  · rintro (h | h | h | h)
    · exact .inr (.inl h)
    · exact .inl h
    · exact .inr (.inr (.inr h))
    · exact .inr (.inr (.inl h))
theorem kink_cls0 (hd : Valid d) {o : Nat} (ho : o < 4 * d.n) (hk : d.m o / 4 = o / 4) (hn : d.m (tn o 2) = tn (d.m o) 2) : Cls (gone d [o / 4]) (Orb (phi op d.m)) 2 :=
  Cls.congr ((kink_gp hd ho hk).closed hn).1 (kink_gone hd ho hk) (fun _ _ _ _ => Iff.rfl)
/-- Out: a kink of an edge. -/
theorem kink_same (hd : Valid d) {o : Nat} (ho : o < 4 * d.n) (hk : d.m o / 4 = o / 4) (hn : d.m (tn o 2) ≠ tn (d.m o) 2) {mt : List Nat} {lp : Nat} (hl : lp ≤ 64) (hlp : lp = d.lp)
    (hmt : ∀ h, h < 4 * d.n → mt.getD h 0 = if h = d.m (tn o 2) then d.m (tn (d.m o) 2) else if h = d.m (tn (d.m o) 2) then d.m (tn o 2) else d.m h) : Same d (rsD d [o / 4] mt lp) := by
  intro s s' h h'
  have hw := (Valid.iff.1 hd).1
  have R := kink_rs hd ho hk hn hl hmt
  obtain ⟨c1, c2⟩ := kink_cls hd ho hk hn (h.all hw)
  obtain ⟨ks, e1, _, e2⟩ := R.cls c1 c2
  have := h'.iff (R.wf hw) e2
  show s + d.lp = s' + lp
  omega
/-- Out: a kink of a loop. -/
theorem kink_same0 (hd : Valid d) {o : Nat} (ho : o < 4 * d.n) (hk : d.m o / 4 = o / 4) (hn : d.m (tn o 2) = tn (d.m o) 2) {lp : Nat} (hl : lp ≤ 64) (hlp : lp = d.lp + 1) : Same d (rsD d [o / 4] d.mt lp) := by
  intro s s' h h'
  have hw := (Valid.iff.1 hd).1
  have R := kink_rs0 hd ho hk hn hl
  obtain ⟨ks, e1, _, e2⟩ := R.cls (h.all hw) (kink_cls0 hd ho hk hn)
  have := h'.iff (R.wf hw) e2
  show s + d.lp = s' + lp
  omega
/-- In: what d' has more than d is gone's part. -/
theorem in_same {d' : Dg} (hd : Wf d) (hd' : Wf d') {gs mt : List Nat} {lp : Nat} {b : Nat → Nat} (R : Rs d' gs mt lp b) (hs : ∀ z, stay d' gs z ↔ z < 4 * d.n) (hb : ∀ z, z < 4 * d.n → b z = d.m z) {k g s : Nat}
    (hk : Cls (dart d') (Orb (phi op b)) k) (hg : Cls (gone d' gs) (Orb (phi op b)) g) (h : Str d s) : k = 2 * s + g := by
  obtain ⟨ks, e1, e2, _⟩ := R.cls hk hg
  have : Cls (dart d) (Orb (st d)) ks := Cls.congr e2 hs fun x y hx hy => by
    rw [st_phi]
    refine Orb.congr (S := fun z => z < 4 * d.n) (fun z hz => ?_) (fun z hz => ?_) ((hs x).1 hx)
    · show tn (b z) 2 < 4 * d.n; rw [hb z hz]; exact tn_lt (hd.lt z hz)
    · show tn (b z) 2 = tn (d.m z) 2; rw [hb z hz]
  have := h.iff hd this
  omega
section
variable {h u : Nat}
/-- Both strands' pieces of a lens, and what they are when closed. -/
theorem Lens.g1 {b : Nat → Nat} (hw : Wf d) (L : Lens d h u) (hm : Hm (4 * d.n) (dart d) rot b) (e0 : b h = u) : Gp d.n b h u :=
  ⟨hm, L.hh, L.hu hw, e0, ap L.ne, pm1 L.ne, Ne.symm (pm0 L.ne)⟩
theorem Lens.g2 {b : Nat → Nat} (hw : Wf d) (L : Lens d h u) (hm : Hm (4 * d.n) (dart d) rot b) (e1 : b (tn h 1) = tn u 3) : Gp d.n b (tn h 1) (tn u 3) :=
  ⟨hm, tn_lt L.hh, tn_lt (L.hu hw), e1, pm L.ne, by rw [tn_tn]; exact pm L.ne, by rw [tn_tn]; exact Ne.symm (pm L.ne)⟩
theorem tn12 (h : Nat) : tn (tn h 1) 2 = tn h 3 := tn_tn h 1 2
theorem tn32 (u : Nat) : tn (tn u 3) 2 = tn u 1 := by rw [tn_tn]; unfold tn; omega
theorem Lens.cls (hd : Valid d) (L : Lens d h u) {k : Nat} (hk : Cls (dart d) (Orb (st d)) k) :
    Cls (dart d) (Orb (phi op (lB d h u))) (k + (if d.m (tn h 2) = tn u 2 then 0 else 1) + (if lA d h u (tn h 3) = tn u 1 then 0 else 1)) := by
  have hw := (Valid.iff.1 hd).1
  have hu := L.hu hw
  have A := L.la hd
  have h1 := (L.g1 hw hw.hm L.m0).cls (hw.ne _ (tn_lt L.hh)) (hw.ne _ (tn_lt hu)) hk
  have h2 := (L.g2 hw A.hm A.e1).cls (by rw [tn12]; exact A.nf _ (tn_lt L.hh) (tn_ne (by omega)) (pm L.ne)) (by rw [tn32]; exact A.nf _ (tn_lt hu) (Ne.symm (pm L.ne)) (tn_ne (by omega))) h1
  rw [tn12, tn32] at h2
  exact h2
theorem Lens.gone (hd : Valid d) (L : Lens d h u) {x y : Nat} (hx : (x = h / 4 ∧ y = u / 4) ∨ (x = u / 4 ∧ y = h / 4)) :
    Cls (Pl.gone d [x, y]) (Orb (phi op (lB d h u))) ((if d.m (tn h 2) = tn u 2 then 2 else 1) + (if lA d h u (tn h 3) = tn u 1 then 2 else 1)) := by
  have hw := (Valid.iff.1 hd).1
  have hu := L.hu hw
  have hh := L.hh
  have E := L.ne
  have A := L.la hd
  have B := L.lb hd
  have G1 := L.g1 hw B.hm B.e0
  have G2 := L.g2 hw B.hm B.e1
  -- which ends are joined
  have j1 : (d.m (tn h 2) = tn u 2 → lB d h u (tn h 2) = tn u 2) ∧ (d.m (tn h 2) ≠ tn u 2 → lB d h u (tn h 2) = tn h 2 ∧ lB d h u (tn u 2) = tn u 2) := by
    have k1 : (d.m (tn h 2) = tn u 2 → lA d h u (tn h 2) = tn u 2) ∧ (d.m (tn h 2) ≠ tn u 2 → lA d h u (tn h 2) = tn h 2 ∧ lA d h u (tn u 2) = tn u 2) := by
      unfold lA Pl.cls
      constructor
      · intro e; rw [if_pos e]; exact e
      · intro e; rw [if_neg e]
        obtain ⟨b1, b2, _⟩ := byp_at hw.hm (tn_lt hh) (tn_lt hu) (pm E) (hw.ne _ (tn_lt (k := 2) hh)) (hw.ne _ (tn_lt (k := 2) hu)) e
        exact ⟨b1, b2⟩
    have e2 : ∀ z, (z = tn h 2 ∨ z = tn u 2) → lB d h u z = lA d h u z := by
      intro z hz
      unfold lB Pl.cls
      by_cases hc : lA d h u (tn h 3) = tn u 1
      · rw [if_pos hc]
      · rw [if_neg hc]
        have n3 := A.nf _ (tn_lt (k := 3) hh) (tn_ne (by omega)) (pm E)
        have n1 := A.nf _ (tn_lt (k := 1) hu) (Ne.symm (pm E)) (tn_ne (by omega))
        obtain ⟨b1, b2, b3, b4, b5⟩ := byp_at A.hm (tn_lt hh) (tn_lt hu) (pm E) n3 n1 hc
        have az : lA d h u z = tn h 2 ∨ lA d h u z = tn u 2 := by
          rcases hz with rfl | rfl <;> rcases A.c with ⟨a1, a2⟩ | ⟨a1, a2⟩
          · exact .inr a1
          · exact .inl a1
          · exact .inl a2
          · exact .inr a2
        have zl : z < 4 * d.n := by rcases hz with rfl | rfl; exact tn_lt hh; exact tn_lt hu
        refine b5 z ?_ ?_ (fun e => ?_) (fun e => ?_)
        · rcases hz with rfl | rfl; exact tn_ne (by omega); exact Ne.symm (pm E)
        · rcases hz with rfl | rfl; exact pm E; exact tn_ne (by omega)
        · have := A.hm.inv _ (tn_lt (k := 3) hh); rw [← e] at this
          rcases az with e2 | e2 <;> rw [e2] at this
          · exact tn_ne (by omega) this
          · exact pm E this.symm
        · have := A.hm.inv _ (tn_lt (k := 1) hu); rw [← e] at this
          rcases az with e2 | e2 <;> rw [e2] at this
          · exact pm E this
          · exact tn_ne (by omega) this
    rw [e2 _ (.inl rfl), e2 _ (.inr rfl)]
    exact k1
  have j2 : (lA d h u (tn h 3) = tn u 1 → lB d h u (tn h 3) = tn u 1) ∧ (lA d h u (tn h 3) ≠ tn u 1 → lB d h u (tn h 3) = tn h 3 ∧ lB d h u (tn u 1) = tn u 1) := by
    unfold lB Pl.cls
    constructor
    · intro e; rw [if_pos e]; exact e
    · intro e; rw [if_neg e]
      obtain ⟨b1, b2, _⟩ := byp_at A.hm (tn_lt hh) (tn_lt hu) (pm E) (A.nf _ (tn_lt (k := 3) hh) (tn_ne (by omega)) (pm E)) (A.nf _ (tn_lt (k := 1) hu) (Ne.symm (pm E)) (tn_ne (by omega))) e
      exact ⟨b1, b2⟩
  have c1 : Cls (grp h u) (Orb (phi op (lB d h u))) (if d.m (tn h 2) = tn u 2 then 2 else 1) ∧ ∀ z, grp h u z → grp h u (phi op (lB d h u) z) := by
    by_cases e : d.m (tn h 2) = tn u 2
    · rw [if_pos e]; exact G1.closed (j1.1 e)
    · rw [if_neg e]; have := G1.free (j1.2 e).1 (j1.2 e).2; exact ⟨this.1, this.2.1⟩
  have c2 : Cls (grp (tn h 1) (tn u 3)) (Orb (phi op (lB d h u))) (if lA d h u (tn h 3) = tn u 1 then 2 else 1) ∧ ∀ z, grp (tn h 1) (tn u 3) z → grp (tn h 1) (tn u 3) (phi op (lB d h u) z) := by
    by_cases e : lA d h u (tn h 3) = tn u 1
    · rw [if_pos e]; exact G2.closed (by rw [tn12, tn32]; exact j2.1 e)
    · rw [if_neg e]; have := G2.free (by rw [tn12]; exact (j2.2 e).1) (by rw [tn32]; exact (j2.2 e).2); exact ⟨this.1, this.2.1⟩
  have dis : ∀ z, grp h u z → ¬ grp (tn h 1) (tn u 3) z := by
    unfold grp
    rw [tn12, tn32]
    rintro z (rfl | rfl | rfl | rfl) (e | e | e | e)
    · exact pmz (by omega) e
    · exact pm1 E e
    · exact pmz (by omega) e
    · exact pm1 E e
    · exact pm0 E e.symm
    · exact pmz (by omega) e
    · exact pm0 E e.symm
    · exact pmz (by omega) e
    · exact tn_ne (by omega) e
    · exact pm E e
    · exact tn_ne (by omega) e
    · exact pm E e
    · exact pm E e.symm
    · exact tn_ne (by omega) e
    · exact pm E e.symm
    · exact tn_ne (by omega) e
  have ha := Cls.add c1.1 c2.1 (fun x y hx hy e => dis _ (orb_closed (P := grp h u) c1.2 hx e) hy) (fun x y hx hy e => dis _ hx (orb_closed (P := grp (tn h 1) (tn u 3)) c2.2 hy e)) dis
  refine Cls.congr ha (fun z => ?_) (fun _ _ _ _ => Iff.rfl)
  unfold grp Pl.gone
  rw [tn12, tn32, List.mem_cons, List.mem_singleton]
  have hin : (z / 4 = x ∨ z / 4 = y) ↔ z / 4 = h / 4 ∨ z / 4 = u / 4 := by
    rcases hx with ⟨rfl, rfl⟩ | ⟨rfl, rfl⟩
    · exact Iff.rfl
    · exact Or.comm
  rw [hin]
  have d0 : ∀ k, tn h k / 4 = h / 4 := tn_div h
  have d1 : ∀ k, tn u k / 4 = u / 4 := tn_div u
  constructor
  · rintro ((rfl | rfl | rfl | rfl) | (rfl | rfl | rfl | rfl))
    · exact ⟨hh, .inl rfl⟩
    · exact ⟨hu, .inr rfl⟩
    · exact ⟨tn_lt hh, .inl (d0 _)⟩
    · exact ⟨tn_lt hu, .inr (d1 _)⟩
    · exact ⟨tn_lt hh, .inl (d0 _)⟩
    · exact ⟨tn_lt hu, .inr (d1 _)⟩
    · exact ⟨tn_lt hh, .inl (d0 _)⟩
    · exact ⟨tn_lt hu, .inr (d1 _)⟩
  · rintro ⟨_, h2 | h2⟩
    · have : z = h ∨ z = tn h 1 ∨ z = tn h 2 ∨ z = tn h 3 := by unfold tn; omega
      rcases this with e | e | e | e
      · exact .inl (.inl e)
      · exact .inr (.inl e)
      · exact .inl (.inr (.inr (.inl e)))
      · exact .inr (.inr (.inr (.inl e)))
    · have : z = u ∨ z = tn u 1 ∨ z = tn u 2 ∨ z = tn u 3 := by unfold tn; omega
      rcases this with e | e | e | e
      · exact .inl (.inr (.inl e))
      · exact .inr (.inr (.inr (.inr e)))
      · exact .inl (.inr (.inr (.inr e)))
      · exact .inr (.inr (.inl e))
/-- Out: a lens. -/
theorem Lens.same (hd : Valid d) (L : Lens d h u) {x y : Nat} (hxy : x < y) (hx : (x = h / 4 ∧ y = u / 4) ∨ (x = u / 4 ∧ y = h / 4)) {mt : List Nat} {lp : Nat} (hl : lp ≤ 64)
    (hlp : lp = d.lp + (if d.m (tn h 2) = tn u 2 then 1 else 0) + (if lA d h u (tn h 3) = tn u 1 then 1 else 0)) (hmt : ∀ z, Pl.stay d [x, y] z → mt.getD z 0 = lB d h u z) : Same d (rsD d [x, y] mt lp) := by
  intro s s' h1 h2
  have hw := (Valid.iff.1 hd).1
  have R := (L.lb hd).rs hw L hxy hx hl hmt
  obtain ⟨ks, e1, _, e2⟩ := R.cls (L.cls hd (h1.all hw)) (L.gone hd hx)
  have := h2.iff (R.wf hw) e2
  show s + d.lp = s' + lp
  by_cases a1 : d.m (tn h 2) = tn u 2 <;> by_cases a2 : lA d h u (tn h 3) = tn u 1 <;> simp only [a1, a2, if_true, if_false] at e1 hlp <;> omega
end
end Go.Proofs.Ytghdiolnonejaaa.Pl
end

section
namespace Go.Proofs.Ytghdiolnonejaaa.Pl
variable {d d' : Dg}
theorem Kq.opp {n i0 o0 i1 o1 : Nat} (k : Kq n i0 o0 i1 o1) : tn o0 2 = i0 ∧ tn i1 2 = o1 ∧ o0 / 4 = n ∧ i1 / 4 = n := by
  have := k.bd
  unfold Kq at k
  unfold tn
  omega
theorem kd_stay (n : d'.n = d.n + 1) (z : Nat) : stay d' [d.n] z ↔ z < 4 * d.n := by
  unfold stay
  rw [List.mem_singleton, n]
  omega
/-- In: a kink of a loop. -/
theorem Kd.same0 (hd : Valid d) (hd' : Valid d') {i0 o0 i1 o1 : Nat} (K : Kd d d' i0 o0 i1 o1) (mo : ∀ h, h < 4 * d.n → d'.m h = d.m h) (m4 : d'.m i0 = o1) (hlp : d.lp = d'.lp + 1) : Same d d' := by
  intro s s' h h'
  have hw := (Valid.iff.1 hd).1
  have hw' := (Valid.iff.1 hd').1
  obtain ⟨q1, q2, q3, q4⟩ := K.k.opp
  obtain ⟨a1, a2, a3, a4, n1, n2, n3, n4, n5, n6⟩ := K.k.bd
  have ho : o0 < 4 * d'.n := by rw [K.n]; exact a2.2
  have hk : d'.m o0 / 4 = o0 / 4 := by rw [K.m1, q4, q3]
  have hn : d'.m (tn o0 2) = tn (d'.m o0) 2 := by rw [q1, m4, K.m1, q2]
  have R := kink_rs0 hd' ho hk hn (lp := 0) (by omega)
  have hg := kink_cls0 hd' ho hk hn
  rw [q3] at R hg
  have := in_same hw hw' R (kd_stay K.n) mo (h'.all hw') hg h
  omega
/-- In: a kink of an edge. -/
theorem Kd.same (hd : Valid d) (hd' : Valid d') {i0 o0 i1 o1 x : Nat} (K : Kd d d' i0 o0 i1 o1) (hx : x < 4 * d.n) (mo : ∀ h, h < 4 * d.n → h ≠ x → h ≠ d.m x → d'.m h = d.m h)
    (m3 : d'.m o1 = d.m x) (m4 : d'.m (d.m x) = o1) (m5 : d'.m x = i0) (m6 : d'.m i0 = x) (hlp : d.lp = d'.lp) : Same d d' := by
  intro s s' h h'
  have hw := (Valid.iff.1 hd).1
  have hw' := (Valid.iff.1 hd').1
  obtain ⟨q1, q2, q3, q4⟩ := K.k.opp
  obtain ⟨a1, a2, a3, a4, n1, n2, n3, n4, n5, n6⟩ := K.k.bd
  have ho : o0 < 4 * d'.n := by rw [K.n]; exact a2.2
  have hi0 : i0 < 4 * d'.n := by rw [K.n]; exact a1.2
  have ho1 : o1 < 4 * d'.n := by rw [K.n]; exact a4.2
  have hk : d'.m o0 / 4 = o0 / 4 := by rw [K.m1, q4, q3]
  have hn : d'.m (tn o0 2) ≠ tn (d'.m o0) 2 := by rw [q1, m6, K.m1, q2]; omega
  obtain ⟨c1, c2⟩ := kink_cls hd' ho hk hn (h'.all hw')
  have R := kink_rs hd' ho hk hn (lp := 0) (by omega) (mt := List.ofFn (n := 4 * d'.n) (fun h => if h.1 = d'.m (tn o0 2) then d'.m (tn (d'.m o0) 2) else if h.1 = d'.m (tn (d'.m o0) 2) then d'.m (tn o0 2) else d'.m h.1)) (fun h hh => by
    rw [List.getD_eq_getElem?_getD, List.getElem?_ofFn, dif_pos hh]; rfl)
  have hnb : d'.m o1 ≠ i0 := by rw [m3]; have := hw.lt x hx; omega
  obtain ⟨b1, b2, b3, b4, b5⟩ := byp_at hw'.hm ho1 hi0 (Ne.symm n3) (hw'.ne _ ho1) (hw'.ne _ hi0) hnb
  rw [K.m1, q1, q2] at c1
  rw [K.m1, q1, q2, q3] at c2 R
  have := in_same hw hw' R (kd_stay K.n) (fun z hz => ?_) c1 c2 h
  · omega
  · by_cases z1 : z = x
    · rw [z1]; rw [m6] at b4; rw [b4, m3]
    · by_cases z2 : z = d.m x
      · rw [z2]; rw [m3] at b3; rw [b3, m6, hw.inv x hx]
      · rw [b5 z (by omega) (by omega) (by rw [m3]; exact z2) (by rw [m6]; exact z1), mo z hz z1 z2]
theorem slide_cls {n : Nat} {a t : Nat → Nat} (hm : Hm (4 * n) (fun h => h < 4 * n) rot a) (hm' : Hm (4 * n) (fun h => h < 4 * n) rot (cj t a)) (D : Nat → Prop) (Q : Nat → Nat → Nat → Nat → Prop)
    (q : ∀ u h p v, Q u h p v → op u = h ∧ op p = v ∧ a h = p ∧ t u = p ∧ t h = v ∧ t p = u ∧ t v = h ∧ D u ∧ D v ∧ ¬ D h ∧ ¬ D p ∧ h < 4 * n ∧ p < 4 * n)
    (dS : ∀ x, D x → x < 4 * n) (da : ∀ x, D x → D (a x)) (din : ∀ x, x < 4 * n → ¬ D x → ∃ u h p v, Q u h p v ∧ (x = h ∨ x = p))
    (dout : ∀ x, D x → (∃ u h p v, Q u h p v ∧ (x = u ∨ x = v)) ∨ (t x = x ∧ D (op x))) {k : Nat} (hk : Cls (fun h => h < 4 * n) (Orb (phi op a)) k) : Cls (fun h => h < 4 * n) (Orb (phi op (cj t a))) k := by
  have hR : ∀ w, D w → D (op (t w)) := by
    intro w hw
    rcases dout w hw with ⟨u, h, p, v, hq, rfl | rfl⟩ | ⟨e, hd⟩
    · obtain ⟨e1, e2, e3, e4, e5, e6, e7, d1, d2, d3, d4, l1, l2⟩ := q _ _ _ _ hq
      rw [e4, e2]; exact d2
    · obtain ⟨e1, e2, e3, e4, e5, e6, e7, d1, d2, d3, d4, l1, l2⟩ := q _ _ _ _ hq
      rw [e7, ← e1, op_op]; exact d1
    · rw [e]; exact hd
  -- both come back to the outer half-edges at the same one
  have fR : ∀ x, D x → (phi op a x = op (t (a x))) ∨ (¬ D (phi op a x) ∧ phi op a (phi op a x) = op (t (a x))) := by
    intro x hx
    rcases dout (a x) (da x hx) with ⟨u, h, p, v, hq, e | e⟩ | ⟨e, hd⟩
    · obtain ⟨e1, e2, e3, e4, e5, e6, e7, d1, d2, d3, d4, l1, l2⟩ := q _ _ _ _ hq
      right
      have s1 : phi op a x = h := by show op (a x) = h; rw [e, e1]
      rw [s1]
      exact ⟨d3, by show op (a h) = _; rw [e3, e2, e, e4, e2]⟩
    · obtain ⟨e1, e2, e3, e4, e5, e6, e7, d1, d2, d3, d4, l1, l2⟩ := q _ _ _ _ hq
      right
      have s1 : phi op a x = p := by show op (a x) = p; rw [e, ← e2, op_op]
      have s2 : a p = h := by rw [← e3, hm.inv _ l1]
      rw [s1]
      exact ⟨d4, by show op (a p) = _; rw [s2, e, e7]⟩
    · left; show op (a x) = _; rw [e]
  have gR : ∀ x, D x → (phi op (cj t a) x = op (t (a x))) ∨ (¬ D (phi op (cj t a) x) ∧ phi op (cj t a) (phi op (cj t a) x) = op (t (a x))) := by
    intro x hx
    rcases dout x hx with ⟨u, h, p, v, hq, rfl | rfl⟩ | ⟨e, hd⟩
    · obtain ⟨e1, e2, e3, e4, e5, e6, e7, d1, d2, d3, d4, l1, l2⟩ := q _ _ _ _ hq
      right
      have s2 : a p = h := by rw [← e3, hm.inv _ l1]
      have s1 : phi op (cj t a) x = p := by show op (t (a (t x))) = p; rw [e4, s2, e5, ← e2, op_op]
      rw [s1]
      exact ⟨d4, by show op (t (a (t p))) = _; rw [e6]⟩
    · obtain ⟨e1, e2, e3, e4, e5, e6, e7, d1, d2, d3, d4, l1, l2⟩ := q _ _ _ _ hq
      right
      have s1 : phi op (cj t a) x = h := by show op (t (a (t x))) = h; rw [e7, e3, e6, e1]
      rw [s1]
      exact ⟨d3, by show op (t (a (t h))) = _; rw [e5]⟩
    · left; show op (t (a (t x))) = _; rw [e]
  have fo : ∀ x, D x → Orb (phi op a) x (op (t (a x))) := fun x hx => by
    rcases fR x hx with e | ⟨_, e⟩
    · exact ⟨1, e⟩
    · exact ⟨2, e⟩
  have go : ∀ x, D x → Orb (phi op (cj t a)) x (op (t (a x))) := fun x hx => by
    rcases gR x hx with e | ⟨_, e⟩
    · exact ⟨1, e⟩
    · exact ⟨2, e⟩
  have fE := hm.op.pb.eqv
  have gE := hm'.op.pb.eqv
  have fin : ∀ x, x < 4 * n → ∃ y, D y ∧ Orb (phi op a) x y := by
    intro x hx
    by_cases hD : D x
    · exact ⟨x, hD, Orb.refl _ _⟩
    · obtain ⟨u, h, p, v, hq, rfl | rfl⟩ := din x hx hD
      · obtain ⟨e1, e2, e3, e4, e5, e6, e7, d1, d2, d3, d4, l1, l2⟩ := q _ _ _ _ hq
        exact ⟨v, d2, ⟨1, by show op (a x) = v; rw [e3, e2]⟩⟩
      · obtain ⟨e1, e2, e3, e4, e5, e6, e7, d1, d2, d3, d4, l1, l2⟩ := q _ _ _ _ hq
        have s2 : a x = h := by rw [← e3, hm.inv _ l1]
        exact ⟨u, d1, ⟨1, by show op (a x) = u; rw [s2, ← e1, op_op]⟩⟩
  have gin : ∀ x, x < 4 * n → ∃ y, D y ∧ Orb (phi op (cj t a)) x y := by
    intro x hx
    by_cases hD : D x
    · exact ⟨x, hD, Orb.refl _ _⟩
    · obtain ⟨u, h, p, v, hq, rfl | rfl⟩ := din x hx hD
      · obtain ⟨e1, e2, e3, e4, e5, e6, e7, d1, d2, d3, d4, l1, l2⟩ := q _ _ _ _ hq
        exact ⟨_, hR _ (da _ d2), ⟨1, by show op (t (a (t x))) = _; rw [e5]⟩⟩
      · obtain ⟨e1, e2, e3, e4, e5, e6, e7, d1, d2, d3, d4, l1, l2⟩ := q _ _ _ _ hq
        exact ⟨_, hR _ (da _ d1), ⟨1, by show op (t (a (t x))) = _; rw [e6]⟩⟩
  have h1 := hk.sub (D := D) dS fin
  have h2 : Cls D (Orb (phi op (cj t a))) k := Cls.congr h1 (fun _ => Iff.rfl) fun x y hx hy => by
    constructor
    · refine orb_ret (D := D) (fun x hx => ?_) hx hy
      rcases fR x hx with e | ⟨n1, e⟩
      · left; rw [e]; exact ⟨hR _ (da x hx), go x hx⟩
      · right; rw [e]; exact ⟨hR _ (da x hx), n1, go x hx⟩
    · refine orb_ret (D := D) (fun x hx => ?_) hx hy
      rcases gR x hx with e | ⟨n1, e⟩
      · left; rw [e]; exact ⟨hR _ (da x hx), fo x hx⟩
      · right; rw [e]; exact ⟨hR _ (da x hx), n1, fo x hx⟩
  exact h2.sup gE dS gin
theorem Tr.same (hd : Valid d) {h0 h1 h2 : Nat} (t : Tr d h0 h1 h2) (sg : d'.sg = d.sg) (lp : d'.lp = d.lp) (len : d'.mt.length = 4 * d.n) (hm : ∀ x, x < 4 * d.n → d'.m x = cj (tu h0 h1 h2) d.m x) : Same d d' := by
  intro s s' h h'
  have hv := Valid.iff.1 hd
  have hw := hv.1
  have hw' := (Valid.iff.1 (t.valid hd sg lp len hm)).1
  have T := t.tri hw
  have hn : d'.n = d.n := by unfold Dg.n; rw [sg]
  have hj := hw.hm.cj (t := tu h0 h1 h2) T.tS (fun x _ => T.tt x)
  have hm' : Hm (4 * d.n) (fun h => h < 4 * d.n) rot (cj (tu h0 h1 h2) d.m) := ⟨hw.hm.rb, hj.ab, hj.inv⟩
  have o1 : ∀ x y z, rot x = y → rot y = z → op x = z := fun x y z e1 e2 => by show tn x 2 = z; rw [← rot_rot, e1, e2]
  have key := slide_cls (k := 2 * s) hw.hm hm' (Dout (dart d) h0 h1 h2 (tn h0 1) (tn h1 1) (tn h2 1))
    (fun u h p v => (u = tn h0 2 ∧ h = h0 ∧ p = tn h1 1 ∧ v = tn h1 3) ∨ (u = tn h1 2 ∧ h = h1 ∧ p = tn h2 1 ∧ v = tn h2 3) ∨ (u = tn h2 2 ∧ h = h2 ∧ p = tn h0 1 ∧ v = tn h0 3))
    (fun u h p v hq => by
      rcases hq with ⟨rfl, rfl, rfl, rfl⟩ | ⟨rfl, rfl, rfl, rfl⟩ | ⟨rfl, rfl, rfl, rfl⟩
      · exact ⟨o1 _ _ _ T.ru0 T.rp0, o1 _ _ _ T.rp1 T.rh1, T.ah0, T.tu0, T.th0, T.tp1, T.tv1, T.du0, T.dv1, T.nh0, T.np1, T.mem _ (by simp), T.mem _ (by simp)⟩
      · exact ⟨o1 _ _ _ T.ru1 T.rp1, o1 _ _ _ T.rp2 T.rh2, T.ah1, T.tu1, T.th1, T.tp2, T.tv2, T.du1, T.dv2, T.nh1, T.np2, T.mem _ (by simp), T.mem _ (by simp)⟩
      · exact ⟨o1 _ _ _ T.ru2 T.rp2, o1 _ _ _ T.rp0 T.rh0, T.ah2, T.tu2, T.th2, T.tp0, T.tv0, T.du2, T.dv0, T.nh2, T.np0, T.mem _ (by simp), T.mem _ (by simp)⟩)
    (fun x hx => hx.1) (fun x hx => T.da hw.hm hx)
    (fun x hx hD => by
      have hD2 : x = h0 ∨ x = h1 ∨ x = h2 ∨ x = tn h0 1 ∨ x = tn h1 1 ∨ x = tn h2 1 := by
        rw [T.out hx] at hD
        exact Classical.byContradiction fun e => hD e
      rcases hD2 with e | e | e | e | e | e
      · exact ⟨_, _, _, _, .inl ⟨rfl, rfl, rfl, rfl⟩, .inl e⟩
      · exact ⟨_, _, _, _, .inr (.inl ⟨rfl, rfl, rfl, rfl⟩), .inl e⟩
      · exact ⟨_, _, _, _, .inr (.inr ⟨rfl, rfl, rfl, rfl⟩), .inl e⟩
      · exact ⟨_, _, _, _, .inr (.inr ⟨rfl, rfl, rfl, rfl⟩), .inr e⟩
      · exact ⟨_, _, _, _, .inl ⟨rfl, rfl, rfl, rfl⟩, .inr e⟩
      · exact ⟨_, _, _, _, .inr (.inl ⟨rfl, rfl, rfl, rfl⟩), .inr e⟩)
    (fun x hx => by
      by_cases e : x ∈ [tn h0 2, tn h1 2, tn h2 2, tn h0 3, tn h1 3, tn h2 3]
      · left
        simp only [List.mem_cons, List.not_mem_nil, or_false] at e
        rcases e with e | e | e | e | e | e
        · exact ⟨_, _, _, _, .inl ⟨rfl, rfl, rfl, rfl⟩, .inl e⟩
        · exact ⟨_, _, _, _, .inr (.inl ⟨rfl, rfl, rfl, rfl⟩), .inl e⟩
        · exact ⟨_, _, _, _, .inr (.inr ⟨rfl, rfl, rfl, rfl⟩), .inl e⟩
        · exact ⟨_, _, _, _, .inr (.inr ⟨rfl, rfl, rfl, rfl⟩), .inr e⟩
        · exact ⟨_, _, _, _, .inl ⟨rfl, rfl, rfl, rfl⟩, .inr e⟩
        · exact ⟨_, _, _, _, .inr (.inl ⟨rfl, rfl, rfl, rfl⟩), .inr e⟩
      · right
        have hx0 := (T.out hx.1).1 hx
        have hno : x ∉ [h0, h1, h2, tn h0 1, tn h1 1, tn h2 1, tn h0 2, tn h1 2, tn h2 2, tn h0 3, tn h1 3, tn h2 3] := fun hm => by
          simp only [List.mem_cons, List.not_mem_nil, or_false] at hm e
          rcases hm with h | h | h | h | h | h | h
          · exact hx0 (.inl h)
          · exact hx0 (.inr (.inl h))
          · exact hx0 (.inr (.inr (.inl h)))
          · exact hx0 (.inr (.inr (.inr (.inl h))))
          · exact hx0 (.inr (.inr (.inr (.inr (.inl h)))))
          · exact hx0 (.inr (.inr (.inr (.inr (.inr h)))))
          · exact e h
        refine ⟨T.tx x hno, ?_⟩
        have c1 := (T.cx hw.hm hx.1 hno).1
        have c2 := (T.cx hw.hm (rot_lt hx.1) c1).1
        rw [T.out (show dart d (op x) from tn_lt hx.1)]
        intro hm
        apply c2
        rw [rot_rot]
        simp only [List.mem_cons, List.not_mem_nil, or_false]
        rcases hm with h | h | h | h | h | h
        · exact .inl h
        · exact .inr (.inl h)
        · exact .inr (.inr (.inl h))
        · exact .inr (.inr (.inr (.inl h)))
        · exact .inr (.inr (.inr (.inr (.inl h))))
        · exact .inr (.inr (.inr (.inr (.inr (.inl h))))))
    (h.all hw)
  have e2 : Cls (dart d') (Orb (st d')) (2 * s) := Cls.congr key (fun x => by unfold dart; rw [hn]) fun x y hx hy => by
    refine Orb.congr (S := fun z => z < 4 * d.n) (fun z hz => tn_lt (hm'.ab.maps z hz)) (fun z hz => ?_) hx
    show tn _ 2 = tn (d'.m z) 2
    rw [hm z hz]
  have := h'.iff hw' e2
  omega
end Go.Proofs.Ytghdiolnonejaaa.Pl
end

section
namespace Go.Proofs.Ytghdiolnonejaaa.Pl
section
variable {d : Dg} {h u : Nat}
theorem Lens.lA_c (E : d.m (tn h 2) = tn u 2) : lA d h u = d.m := by unfold lA Pl.cls; rw [if_pos E]
theorem Lens.lA_e (hw : Wf d) (L : Lens d h u) (E : d.m (tn h 2) ≠ tn u 2) : lA d h u (d.m (tn h 2)) = d.m (tn u 2) ∧ lA d h u (d.m (tn u 2)) = d.m (tn h 2) ∧ ∀ z, z ≠ tn h 2 → z ≠ tn u 2 → z ≠ d.m (tn h 2) → z ≠ d.m (tn u 2) → lA d h u z = d.m z := by
  have hh := L.hh
  have hu := L.hu hw
  obtain ⟨b1, b2, b3, b4, b5⟩ := byp_at hw.hm (tn_lt hh) (tn_lt hu) (pm L.ne) (hw.ne _ (tn_lt (k := 2) hh)) (hw.ne _ (tn_lt (k := 2) hu)) E
  unfold lA Pl.cls
  rw [if_neg E]
  exact ⟨b3, b4, b5⟩
theorem Lens.lB_c (E : lA d h u (tn h 3) = tn u 1) : lB d h u = lA d h u := by unfold lB; unfold Pl.cls; rw [if_pos E]
theorem Lens.lB_e (hd : Valid d) (L : Lens d h u) (E : lA d h u (tn h 3) ≠ tn u 1) : lB d h u (lA d h u (tn h 3)) = lA d h u (tn u 1) ∧ lB d h u (lA d h u (tn u 1)) = lA d h u (tn h 3) ∧
    ∀ z, z ≠ tn h 3 → z ≠ tn u 1 → z ≠ lA d h u (tn h 3) → z ≠ lA d h u (tn u 1) → lB d h u z = lA d h u z := by
  have hw := (Valid.iff.1 hd).1
  have hh := L.hh
  have hu := L.hu hw
  have A := L.la hd
  obtain ⟨b1, b2, b3, b4, b5⟩ := byp_at A.hm (tn_lt hh) (tn_lt hu) (pm L.ne) (A.nf _ (tn_lt (k := 3) hh) (tn_ne (by omega)) (pm L.ne)) (A.nf _ (tn_lt (k := 1) hu) (Ne.symm (pm L.ne)) (tn_ne (by omega))) E
  unfold lB
  unfold Pl.cls
  rw [if_neg E]
  exact ⟨b3, b4, b5⟩
end
theorem tn_pp (n f t k : Nat) : tn (pp n f t) k = pp n f (t + k) := by unfold tn pp; omega
/-- What a poke laid in, taken out. -/
structure Out (d d' : Dg) (f g c1 c2 : Nat) : Prop where
  n : d'.n = d.n + 2
  L : Lens d' (pp d.n f 0) (pp (d.n + 1) g 2)
  b : ∀ z, z < 4 * d.n → lB d' (pp d.n f 0) (pp (d.n + 1) g 2) z = d.m z
  e1 : c1 = if d'.m (pp d.n f 2) = pp (d.n + 1) g 0 then 1 else 0
  e2 : c2 = if lA d' (pp d.n f 0) (pp (d.n + 1) g 2) (pp d.n f 3) = pp (d.n + 1) g 3 then 1 else 0
section
variable {d d' : Dg} {f g c1 c2 : Nat}
theorem Out.stay (O : Out d d' f g c1 c2) (z : Nat) : Pl.stay d' [d.n, d.n + 1] z ↔ z < 4 * d.n := by
  unfold Pl.stay
  rw [O.n, List.mem_cons, List.mem_singleton]
  omega
theorem Out.hx (O : Out d d' f g c1 c2) : (d.n = pp d.n f 0 / 4 ∧ d.n + 1 = pp (d.n + 1) g 2 / 4) ∨ (d.n = pp (d.n + 1) g 2 / 4 ∧ d.n + 1 = pp d.n f 0 / 4) := by
  left; unfold pp; omega
theorem Out.same (hd : Valid d) (hd' : Valid d') (O : Out d d' f g c1 c2) (hlp : d.lp = d'.lp + c1 + c2) : Same d d' := by
  intro s s' h h'
  have hw := (Valid.iff.1 hd).1
  have hw' := (Valid.iff.1 hd').1
  have R := (O.L.lb hd').rs hw' O.L (x := d.n) (y := d.n + 1) (by omega) O.hx (lp := 0) (by omega) (mt := List.ofFn (n := 4 * d'.n) (fun z => lB d' (pp d.n f 0) (pp (d.n + 1) g 2) z.1)) (fun z hz => by
    rw [List.getD_eq_getElem?_getD, List.getElem?_ofFn, dif_pos hz.1]; rfl)
  have := in_same hw hw' R O.stay O.b (O.L.cls hd' (h'.all hw')) (O.L.gone hd' O.hx) h
  have q1 : tn (pp d.n f 0) 2 = pp d.n f 2 := tn_pp _ _ _ _
  have q2 : tn (pp (d.n + 1) g 2) 2 = pp (d.n + 1) g 0 := by rw [tn_pp, show 2 + 2 = 0 + 4 from rfl, pp_mod]
  have q3 : tn (pp d.n f 0) 3 = pp d.n f 3 := tn_pp _ _ _ _
  have q4 : tn (pp (d.n + 1) g 2) 1 = pp (d.n + 1) g 3 := tn_pp _ _ _ _
  rw [q1, q2, q3, q4] at this
  have e1 := O.e1
  have e2 := O.e2
  by_cases a1 : d'.m (pp d.n f 2) = pp (d.n + 1) g 0 <;> by_cases a2 : lA d' (pp d.n f 0) (pp (d.n + 1) g 2) (pp d.n f 3) = pp (d.n + 1) g 3 <;> simp only [a1, a2, if_true, if_false] at this e1 e2 <;> omega
/-- The inner mates. -/
structure In (d d' : Dg) (f g : Nat) : Prop where
  n : d'.n = d.n + 2
  v : Valid d'
  m0 : d'.m (pp d.n f 0) = pp (d.n + 1) g 2
  m1 : d'.m (pp d.n f 1) = pp (d.n + 1) g 1
theorem In.lens (I : In d d' f g) : Lens d' (pp d.n f 0) (pp (d.n + 1) g 2) :=
  ⟨by rw [I.n]; unfold pp; omega, I.m0, by rw [tn_pp, I.m1, tn_pp, show 2 + 3 = 1 + 4 from rfl, pp_mod], by unfold pp; omega⟩
section
variable (I : In d d' f g)
include I
theorem In.e1 (E : d'.m (pp d.n f 2) ≠ pp (d.n + 1) g 0) : lA d' (pp d.n f 0) (pp (d.n + 1) g 2) (d'.m (pp d.n f 2)) = d'.m (pp (d.n + 1) g 0) ∧ lA d' (pp d.n f 0) (pp (d.n + 1) g 2) (d'.m (pp (d.n + 1) g 0)) = d'.m (pp d.n f 2) ∧
    ∀ z, z ≠ pp d.n f 2 → z ≠ pp (d.n + 1) g 0 → z ≠ d'.m (pp d.n f 2) → z ≠ d'.m (pp (d.n + 1) g 0) → lA d' (pp d.n f 0) (pp (d.n + 1) g 2) z = d'.m z := by
  have q1 : tn (pp d.n f 0) 2 = pp d.n f 2 := tn_pp _ _ _ _
  have q2 : tn (pp (d.n + 1) g 2) 2 = pp (d.n + 1) g 0 := by rw [tn_pp, show 2 + 2 = 0 + 4 from rfl, pp_mod]
  have := I.lens.lA_e (Valid.iff.1 I.v).1 (by rw [q1, q2]; exact E)
  rwa [q1, q2] at this
theorem In.k1 (E : d'.m (pp d.n f 2) = pp (d.n + 1) g 0) : lA d' (pp d.n f 0) (pp (d.n + 1) g 2) = d'.m := by
  have _ := I
  have q1 : tn (pp d.n f 0) 2 = pp d.n f 2 := tn_pp _ _ _ _
  have q2 : tn (pp (d.n + 1) g 2) 2 = pp (d.n + 1) g 0 := by rw [tn_pp, show 2 + 2 = 0 + 4 from rfl, pp_mod]
  exact Lens.lA_c (by rw [q1, q2]; exact E)
theorem In.e2 (E : lA d' (pp d.n f 0) (pp (d.n + 1) g 2) (pp d.n f 3) ≠ pp (d.n + 1) g 3) : lB d' (pp d.n f 0) (pp (d.n + 1) g 2) (lA d' (pp d.n f 0) (pp (d.n + 1) g 2) (pp d.n f 3)) = lA d' (pp d.n f 0) (pp (d.n + 1) g 2) (pp (d.n + 1) g 3) ∧
    lB d' (pp d.n f 0) (pp (d.n + 1) g 2) (lA d' (pp d.n f 0) (pp (d.n + 1) g 2) (pp (d.n + 1) g 3)) = lA d' (pp d.n f 0) (pp (d.n + 1) g 2) (pp d.n f 3) ∧
    ∀ z, z ≠ pp d.n f 3 → z ≠ pp (d.n + 1) g 3 → z ≠ lA d' (pp d.n f 0) (pp (d.n + 1) g 2) (pp d.n f 3) → z ≠ lA d' (pp d.n f 0) (pp (d.n + 1) g 2) (pp (d.n + 1) g 3) → lB d' (pp d.n f 0) (pp (d.n + 1) g 2) z = lA d' (pp d.n f 0) (pp (d.n + 1) g 2) z := by
  have q3 : tn (pp d.n f 0) 3 = pp d.n f 3 := tn_pp _ _ _ _
  have q4 : tn (pp (d.n + 1) g 2) 1 = pp (d.n + 1) g 3 := tn_pp _ _ _ _
  have := I.lens.lB_e I.v (by rw [q3, q4]; exact E)
  rwa [q3, q4] at this
theorem In.k2 (E : lA d' (pp d.n f 0) (pp (d.n + 1) g 2) (pp d.n f 3) = pp (d.n + 1) g 3) : lB d' (pp d.n f 0) (pp (d.n + 1) g 2) = lA d' (pp d.n f 0) (pp (d.n + 1) g 2) := by
  have _ := I
  have q3 : tn (pp d.n f 0) 3 = pp d.n f 3 := tn_pp _ _ _ _
  have q4 : tn (pp (d.n + 1) g 2) 1 = pp (d.n + 1) g 3 := tn_pp _ _ _ _
  exact Lens.lB_c (by rw [q3, q4]; exact E)
theorem In.po (t : Nat) {z : Nat} (hz : z < 4 * d.n) : z ≠ pp d.n f t := by have _ := I; have := pp_bd d.n f t; omega
theorem In.qo (t : Nat) {z : Nat} (hz : z < 4 * d.n) : z ≠ pp (d.n + 1) g t := by have _ := I; have := pp_bd (d.n + 1) g t; omega
/-- Two edges. -/
theorem In.edges (hw : Wf d) {x y : Nat} (hx : x < 4 * d.n) (hy : y < 4 * d.n) (xy : x ≠ y) (xm : d.m x ≠ y) (v2 : d'.m (pp d.n f 2) = d.m y) (v0 : d'.m (pp (d.n + 1) g 0) = y) (v3 : d'.m (pp d.n f 3) = x) (w3 : d'.m (pp (d.n + 1) g 3) = d.m x)
    (old : ∀ z, z < 4 * d.n → z ≠ x → z ≠ d.m x → z ≠ y → z ≠ d.m y → d'.m z = d.m z) : Out d d' f g 0 0 := by
  have hmx := hw.lt x hx
  have hmy := hw.lt y hy
  have n1 : d'.m (pp d.n f 2) ≠ pp (d.n + 1) g 0 := by rw [v2]; exact I.qo 0 hmy
  obtain ⟨a1, a2, a3⟩ := I.e1 n1
  rw [v2, v0] at a1 a2 a3
  have k1 := a3 (pp d.n f 3) (pp_ne (by omega)) pp_nq (Ne.symm (I.po 3 hmy)) (Ne.symm (I.po 3 hy))
  have k2 := a3 (pp (d.n + 1) g 3) (Ne.symm pp_nq) (pp_ne (by omega)) (Ne.symm (I.qo 3 hmy)) (Ne.symm (I.qo 3 hy))
  rw [v3] at k1
  rw [w3] at k2
  have n2 : lA d' (pp d.n f 0) (pp (d.n + 1) g 2) (pp d.n f 3) ≠ pp (d.n + 1) g 3 := by rw [k1]; exact I.qo 3 hx
  obtain ⟨b1, b2, b3⟩ := I.e2 n2
  rw [k1, k2] at b1 b2 b3
  refine ⟨I.n, I.lens, fun z hz => ?_, by rw [if_neg n1], by rw [if_neg n2]⟩
  by_cases z1 : z = x
  · rw [z1, b1]
  · by_cases z2 : z = d.m x
    · rw [z2, b2, hw.inv x hx]
    · rw [b3 z (I.po 3 hz) (I.qo 3 hz) z1 z2]
      by_cases z3 : z = y
      · rw [z3, a2]
      · by_cases z4 : z = d.m y
        · rw [z4, a1, hw.inv y hy]
        · rw [a3 z (I.po 2 hz) (I.qo 0 hz) z4 z3, old z hz z1 z2 z3 z4]
/-- Two loops. -/
theorem In.loops (v2 : d'.m (pp d.n f 2) = pp (d.n + 1) g 0) (v3 : d'.m (pp d.n f 3) = pp (d.n + 1) g 3) (old : ∀ z, z < 4 * d.n → d'.m z = d.m z) : Out d d' f g 1 1 := by
  have k := I.k1 v2
  have n2 : lA d' (pp d.n f 0) (pp (d.n + 1) g 2) (pp d.n f 3) = pp (d.n + 1) g 3 := by rw [k, v3]
  exact ⟨I.n, I.lens, fun z hz => by rw [I.k2 n2, k, old z hz], by rw [if_pos v2], by rw [if_pos n2]⟩
/-- The first an edge, the second a loop. -/
theorem In.xedge (hw : Wf d) {x : Nat} (hx : x < 4 * d.n) (v2 : d'.m (pp d.n f 2) = pp (d.n + 1) g 0) (v3 : d'.m (pp d.n f 3) = x) (w3 : d'.m (pp (d.n + 1) g 3) = d.m x)
    (old : ∀ z, z < 4 * d.n → z ≠ x → z ≠ d.m x → d'.m z = d.m z) : Out d d' f g 1 0 := by
  have k := I.k1 v2
  have n2 : lA d' (pp d.n f 0) (pp (d.n + 1) g 2) (pp d.n f 3) ≠ pp (d.n + 1) g 3 := by rw [k, v3]; exact I.qo 3 hx
  obtain ⟨b1, b2, b3⟩ := I.e2 n2
  rw [k, v3, w3] at b1 b2 b3
  refine ⟨I.n, I.lens, fun z hz => ?_, by rw [if_pos v2], by rw [if_neg n2]⟩
  by_cases z1 : z = x
  · rw [z1, b1]
  · by_cases z2 : z = d.m x
    · rw [z2, b2, hw.inv x hx]
    · rw [b3 z (I.po 3 hz) (I.qo 3 hz) z1 z2, old z hz z1 z2]
/-- The first a loop, the second an edge. -/
theorem In.yedge (hw : Wf d) {y : Nat} (hy : y < 4 * d.n) (v2 : d'.m (pp d.n f 2) = d.m y) (v0 : d'.m (pp (d.n + 1) g 0) = y) (v3 : d'.m (pp d.n f 3) = pp (d.n + 1) g 3)
    (old : ∀ z, z < 4 * d.n → z ≠ y → z ≠ d.m y → d'.m z = d.m z) : Out d d' f g 0 1 := by
  have hmy := hw.lt y hy
  have n1 : d'.m (pp d.n f 2) ≠ pp (d.n + 1) g 0 := by rw [v2]; exact I.qo 0 hmy
  obtain ⟨a1, a2, a3⟩ := I.e1 n1
  rw [v2, v0] at a1 a2 a3
  have n2 : lA d' (pp d.n f 0) (pp (d.n + 1) g 2) (pp d.n f 3) = pp (d.n + 1) g 3 := by
    rw [a3 (pp d.n f 3) (pp_ne (by omega)) pp_nq (Ne.symm (I.po 3 hmy)) (Ne.symm (I.po 3 hy)), v3]
  refine ⟨I.n, I.lens, fun z hz => ?_, by rw [if_neg n1], by rw [if_pos n2]⟩
  rw [I.k2 n2]
  by_cases z3 : z = y
  · rw [z3, a2]
  · by_cases z4 : z = d.m y
    · rw [z4, a1, hw.inv y hy]
    · rw [a3 z (I.po 2 hz) (I.qo 0 hz) z4 z3, old z hz z3 z4]
/-- A loop over itself. -/
theorem In.self0 (v2 : d'.m (pp d.n f 2) = pp d.n f 3) (v0 : d'.m (pp (d.n + 1) g 0) = pp (d.n + 1) g 3) (old : ∀ z, z < 4 * d.n → d'.m z = d.m z) : Out d d' f g 0 1 := by
  have n1 : d'.m (pp d.n f 2) ≠ pp (d.n + 1) g 0 := by rw [v2]; exact pp_nq
  obtain ⟨a1, a2, a3⟩ := I.e1 n1
  rw [v2, v0] at a1 a2 a3
  refine ⟨I.n, I.lens, fun z hz => ?_, by rw [if_neg n1], by rw [if_pos a1]⟩
  rw [I.k2 a1, a3 z (I.po 2 hz) (I.qo 0 hz) (I.po 3 hz) (I.qo 3 hz), old z hz]
/-- An edge over itself. -/
theorem In.self1 (hw : Wf d) {x : Nat} (hx : x < 4 * d.n) (v2 : d'.m (pp d.n f 2) = d.m x) (v0 : d'.m (pp (d.n + 1) g 0) = pp (d.n + 1) g 3) (v3 : d'.m (pp d.n f 3) = x)
    (old : ∀ z, z < 4 * d.n → z ≠ x → z ≠ d.m x → d'.m z = d.m z) : Out d d' f g 0 0 := by
  have hmx := hw.lt x hx
  have n1 : d'.m (pp d.n f 2) ≠ pp (d.n + 1) g 0 := by rw [v2]; exact I.qo 0 hmx
  obtain ⟨a1, a2, a3⟩ := I.e1 n1
  rw [v2, v0] at a1 a2 a3
  have k1 := a3 (pp d.n f 3) (pp_ne (by omega)) pp_nq (Ne.symm (I.po 3 hmx)) pp_nq
  rw [v3] at k1
  have n2 : lA d' (pp d.n f 0) (pp (d.n + 1) g 2) (pp d.n f 3) ≠ pp (d.n + 1) g 3 := by rw [k1]; exact I.qo 3 hx
  obtain ⟨b1, b2, b3⟩ := I.e2 n2
  rw [k1, a2] at b1 b2 b3
  refine ⟨I.n, I.lens, fun z hz => ?_, by rw [if_neg n1], by rw [if_neg n2]⟩
  by_cases z1 : z = x
  · rw [z1, b1]
  · by_cases z2 : z = d.m x
    · rw [z2, b2, hw.inv x hx]
    · rw [b3 z (I.po 3 hz) (I.qo 3 hz) z1 z2, a3 z (I.po 2 hz) (I.qo 0 hz) z2 (I.qo 3 hz), old z hz z1 z2]
theorem In.self2 (hw : Wf d) {x : Nat} (hx : x < 4 * d.n) (v2 : d'.m (pp d.n f 2) = pp d.n f 3) (v0 : d'.m (pp (d.n + 1) g 0) = x) (w3 : d'.m (pp (d.n + 1) g 3) = d.m x)
    (old : ∀ z, z < 4 * d.n → z ≠ x → z ≠ d.m x → d'.m z = d.m z) : Out d d' f g 0 0 := by
  have hmx := hw.lt x hx
  have n1 : d'.m (pp d.n f 2) ≠ pp (d.n + 1) g 0 := by rw [v2]; exact pp_nq
  obtain ⟨a1, a2, a3⟩ := I.e1 n1
  rw [v2, v0] at a1 a2 a3
  have k2 := a3 (pp (d.n + 1) g 3) (Ne.symm pp_nq) (pp_ne (by omega)) (Ne.symm pp_nq) (Ne.symm (I.qo 3 hx))
  rw [w3] at k2
  have n2 : lA d' (pp d.n f 0) (pp (d.n + 1) g 2) (pp d.n f 3) ≠ pp (d.n + 1) g 3 := by rw [a1]; exact I.qo 3 hx
  obtain ⟨b1, b2, b3⟩ := I.e2 n2
  rw [a1, k2] at b1 b2 b3
  refine ⟨I.n, I.lens, fun z hz => ?_, by rw [if_neg n1], by rw [if_neg n2]⟩
  by_cases z1 : z = x
  · rw [z1, b1]
  · by_cases z2 : z = d.m x
    · rw [z2, b2, hw.inv x hx]
    · rw [b3 z (I.po 3 hz) (I.qo 3 hz) z1 z2, a3 z (I.po 2 hz) (I.qo 0 hz) (I.po 3 hz) z1, old z hz z1 z2]
end
end
end Go.Proofs.Ytghdiolnonejaaa.Pl
end

section
namespace Go.Proofs.Ytghdiolnonejaaa.Pl
variable {N : Nat} {S : Nat → Prop} {f : Nat → Nat}
/-- p is the period of x. -/
def Per (f : Nat → Nat) (x p : Nat) : Prop := 0 < p ∧ it f p x = x ∧ ∀ i, 0 < i → i < p → it f i x ≠ x
theorem least_nat {P : Nat → Prop} : ∀ (n : Nat), P n → ∃ m, m ≤ n ∧ P m ∧ ∀ k, k < m → ¬ P k
  | 0, h => ⟨0, Nat.le_refl _, h, fun k hk => absurd hk (by omega)⟩
  | n + 1, h => by
    by_cases e : ∃ k, k < n + 1 ∧ P k
    · obtain ⟨k, hk, hp⟩ := e
      obtain ⟨m, h1, h2, h3⟩ := least_nat k hp
      exact ⟨m, by omega, h2, h3⟩
    · exact ⟨n + 1, Nat.le_refl _, h, fun k hk hp => e ⟨k, hk, hp⟩⟩
termination_by n => n
theorem Bij.per (h : Bij N S f) {x : Nat} (hx : S x) : ∃ p, p ≤ N ∧ Per f x p := by
  obtain ⟨q, h1, h2, h3⟩ := h.back hx
  obtain ⟨m, g1, ⟨g2, g3⟩, g4⟩ := least_nat (P := fun p => 0 < p ∧ Pl.it f p x = x) q ⟨h1, h3⟩
  exact ⟨m, by omega, g2, g3, fun i hi hm e => g4 i hm ⟨hi, e⟩⟩
/-- The cycle from x, as a list. -/
def cyc (f : Nat → Nat) (x p : Nat) : List Nat := (List.range p).map (fun i => it f i x)
theorem cyc_len (f : Nat → Nat) (x p : Nat) : (cyc f x p).length = p := by unfold cyc; simp
theorem cyc_succ (f : Nat → Nat) (x p : Nat) : cyc f x (p + 1) = cyc f x p ++ [it f p x] := by unfold cyc; rw [List.range_succ, List.map_append]; rfl
theorem cyc_get {f : Nat → Nat} {x p i : Nat} (hi : i < p) : (cyc f x p).getD i 0 = it f i x := by
  unfold cyc
  rw [List.getD_eq_getElem?_getD, List.getElem?_map, List.getElem?_range hi]; rfl
theorem mem_cyc {x p : Nat} (hp : Per f x p) {y : Nat} : y ∈ cyc f x p ↔ Orb f x y := by
  unfold cyc
  rw [List.mem_map]
  constructor
  · rintro ⟨i, _, e⟩; exact ⟨i, e⟩
  · rintro ⟨k, e⟩
    refine ⟨k % p, List.mem_range.2 (Nat.mod_lt _ hp.1), ?_⟩
    have h1 : k = k % p + k / p * p := by rw [Nat.mul_comm]; exact (Nat.mod_add_div k p).symm
    rw [h1, it_add, it_mul f p x hp.2.1] at e
    exact e
/-- The cycles that begin below k, in order; all wanted ones, each once. -/
structure Fcs (f : Nat → Nat) (W : Nat → Prop) (N k : Nat) (fs : List (List Nat)) (bs : List Bool) : Prop where
  len : bs.length = N
  is : ∀ l, l ∈ fs → ∃ h p, h < N ∧ W h ∧ Per f h p ∧ l = cyc f h p
  seen : ∀ h, h < N → (gb bs h = true ↔ ∃ l, l ∈ fs ∧ h ∈ l)
  all : ∀ h, h < k → W h → gb bs h = true
  one : ∀ (i j : Nat) (l m : List Nat) (h : Nat), fs[i]? = some l → fs[j]? = some m → h ∈ l → h ∈ m → i = j
theorem Fcs.start (f : Nat → Nat) (W : Nat → Prop) (N : Nat) : Fcs f W N 0 [] (List.replicate N false) := by
  refine ⟨by simp, fun l h => by simp at h, fun h hh => ?_, fun h hh => absurd hh (by omega), fun i j l m h e => by simp at e⟩
  constructor
  · intro e; unfold gb at e; rw [List.getD_eq_getElem?_getD, List.getElem?_replicate, if_pos hh] at e; exact absurd e (by decide)
  · rintro ⟨l, h, _⟩; simp at h
theorem Fcs.skip {W : Nat → Prop} {k : Nat} {fs : List (List Nat)} {bs : List Bool} (h : Fcs f W N k fs bs) (hs : gb bs k = true ∨ ¬ W k) : Fcs f W N (k + 1) fs bs :=
  ⟨h.len, h.is, h.seen, fun x hx hw => by
    by_cases e : x = k
    · subst e
      rcases hs with hs | hs
      · exact hs
      · exact absurd hw hs
    · exact h.all x (by omega) hw, h.one⟩
/-- A cycle's members marked, j of them. -/
def mark (bs : List Bool) : List Nat → List Bool
  | [] => bs
  | x :: l => mark (bs.set x true) l
theorem mark_append (bs : List Bool) : ∀ (l m : List Nat), mark bs (l ++ m) = mark (mark bs l) m := by
  intro l
  induction l generalizing bs with
  | nil => intro m; rfl
  | cons x l ih => intro m; exact ih (bs.set x true) m
theorem mark_len (bs : List Bool) (l : List Nat) : (mark bs l).length = bs.length := by
  induction l generalizing bs with
  | nil => rfl
  | cons x l ih => show (mark (bs.set x true) l).length = _; rw [ih, List.length_set]
theorem gb_mark {bs : List Bool} {l : List Nat} (hl : ∀ x, x ∈ l → x < bs.length) (h : Nat) : gb (mark bs l) h = true ↔ gb bs h = true ∨ h ∈ l := by
  induction l generalizing bs with
  | nil => simp [mark]
  | cons x l ih =>
    show gb (mark (bs.set x true) l) h = true ↔ _
    rw [ih (fun y hy => by rw [List.length_set]; exact hl y (List.mem_cons_of_mem _ hy)), gb_set (hl x List.mem_cons_self) true h, List.mem_cons]
    by_cases e : h = x
    · simp [e]
    · simp [e]
theorem Fcs.add {W : Nat → Prop} (hb : Bij N S f) (hS : ∀ x, x < N → S x) (hN : ∀ x, S x → x < N) {k p : Nat} {fs : List (List Nat)} {bs : List Bool} (h : Fcs f W N k fs bs) (hk : k < N) (hw : W k) (hn : gb bs k = false) (hp : Per f k p) :
    Fcs f W N (k + 1) (fs ++ [cyc f k p]) (mark bs (cyc f k p)) := by
  have hin : ∀ x, x ∈ cyc f k p → x < bs.length := fun x hx => by
    rw [h.len]; exact hN x (hb.orb_mem (hS k hk) ((mem_cyc hp).1 hx))
  have apart : ∀ l x, l ∈ fs → x ∈ l → ¬ x ∈ cyc f k p := fun l x hl hx hc => by
    obtain ⟨g, q, h1, h2, h3, rfl⟩ := h.is l hl
    have e1 := (mem_cyc h3).1 hx
    have e2 := (mem_cyc hp).1 hc
    have e3 : Orb f g k := e1.trans (hb.symm (hS k hk) e2)
    have := (h.seen k hk).2 ⟨_, hl, (mem_cyc h3).2 e3⟩
    rw [hn] at this
    exact absurd this (by decide)
  refine ⟨by rw [mark_len, h.len], fun l hl => ?_, fun x hx => ?_, fun x hx hwx => ?_, fun i j l m x e1 e2 h1 h2 => ?_⟩
  · rcases List.mem_append.1 hl with hl | hl
    · exact h.is l hl
    · rw [List.mem_singleton] at hl
      exact ⟨k, p, hk, hw, hp, hl⟩
  · rw [gb_mark hin, h.seen x hx]
    constructor
    · rintro (⟨l, h1, h2⟩ | h2)
      · exact ⟨l, List.mem_append_left _ h1, h2⟩
      · exact ⟨_, List.mem_append_right _ (List.mem_singleton.2 rfl), h2⟩
    · rintro ⟨l, h1, h2⟩
      rcases List.mem_append.1 h1 with h1 | h1
      · exact .inl ⟨l, h1, h2⟩
      · rw [List.mem_singleton] at h1; subst h1; exact .inr h2
  · rw [gb_mark hin]
    by_cases e : x = k
    · subst e; exact .inr ((mem_cyc hp).2 (Orb.refl f x))
    · exact .inl (h.all x (by omega) hwx)
  · rw [List.getElem?_append] at e1 e2
    by_cases c1 : i < fs.length
    · rw [if_pos c1] at e1
      by_cases c2 : j < fs.length
      · rw [if_pos c2] at e2
        exact h.one i j l m x e1 e2 h1 h2
      · rw [if_neg c2] at e2
        have := List.mem_of_getElem? e2
        rw [List.mem_singleton] at this
        subst this
        exact absurd h2 (apart l x (List.mem_of_getElem? e1) h1)
    · rw [if_neg c1] at e1
      have t1 := List.mem_of_getElem? e1
      rw [List.mem_singleton] at t1
      by_cases c2 : j < fs.length
      · rw [if_pos c2] at e2
        subst t1
        exact absurd h1 (apart m x (List.mem_of_getElem? e2) h2)
      · rw [if_neg c2] at e2
        have a1 := (List.getElem?_eq_some_iff.1 e1).1
        have a2 := (List.getElem?_eq_some_iff.1 e2).1
        simp only [List.length_singleton] at a1 a2
        omega
/-- Numbers of cycles: two numbers agree just where one cycle holds both. -/
theorem Fcs.label {W : Nat → Prop} (hb : Bij N S f) (hS : ∀ x, x < N → S x) {fs : List (List Nat)} {bs : List Bool} (h : Fcs f W N N fs bs) (hW : ∀ x, x < N → W x) {F : Nat → Nat} (hF : ∀ (i : Nat) (l : List Nat) (x : Nat), fs[i]? = some l → x ∈ l → F x = i) {x y : Nat} (hx : x < N) (hy : y < N) : F x = F y ↔ Orb f x y := by
  obtain ⟨l, h1, h2⟩ := (h.seen x hx).1 (h.all x hx (hW x hx))
  obtain ⟨m, g1, g2⟩ := (h.seen y hy).1 (h.all y hy (hW y hy))
  obtain ⟨i, hi⟩ := List.getElem?_of_mem h1
  obtain ⟨j, hj⟩ := List.getElem?_of_mem g1
  rw [hF i l x hi h2, hF j m y hj g2]
  obtain ⟨a, p, a1, a2, a3, rfl⟩ := h.is l h1
  have ox := (mem_cyc a3).1 h2
  constructor
  · intro e
    subst e
    rw [hi] at hj
    injection hj with hj
    subst hj
    have oy := (mem_cyc a3).1 g2
    exact (hb.symm (hS a a1) ox).trans oy
  · intro e
    exact h.one i j _ m y hi hj ((mem_cyc a3).2 (ox.trans e)) g2
end Go.Proofs.Ytghdiolnonejaaa.Pl
end

section
namespace Go.Proofs.Ytghdiolnonejaaa
open Go.RowKit
theorem hide {p : Prop} (h : p) : Hid p := h
theorem ret_bool {a b : Bool} (h : a = b) : Ending.returned (.bool a) = Ending.returned (.bool b) := by rw [h]
theorem ret_int {k : IntKind} {a b : Int} (h : a = b) : Ending.returned (.int k a) = Ending.returned (.int k b) := by rw [h]
theorem lt_of_cell {w : World} {p : Addr} {v : Value} (h : w.cell? p = some v) : p.block < w.heap.size := by
  rcases Nat.lt_or_ge p.block w.heap.size with h1 | h1
  · exact h1
  · unfold World.cell? at h
    rw [Array.getElem?_eq_none h1] at h
    cases h
theorem cell_below {w w' : World} {p : Addr} {v : Value} (h : w.cell? p = some v) (hb : Below w.heap.size w w') : w'.cell? p = some v :=
  (hb.cell (lt_of_cell h)).trans h
/-- The slice value '.slice A n _' reads as the cells 'xs' (a cell an element). -/
def RowAt (w : World) (A : Option Addr) (n : Nat) (xs : List Value) : Prop :=
  xs.length = n ∧ (0 < n → ∃ b o, A = some ⟨b, o, none⟩ ∧ ∀ (j : Nat) u, xs[j]? = some u → w.cell? ⟨b, o + j, none⟩ = some u)
theorem RowAt.nil (w : World) : RowAt w none 0 [] := ⟨rfl, fun h => absurd h (by omega)⟩
theorem RowAt.zero (w : World) (A : Option Addr) : RowAt w A 0 [] := ⟨rfl, fun h => absurd h (by omega)⟩
theorem RowAt.keep {w w' : World} {A : Option Addr} {n : Nat} {xs : List Value} (h : RowAt w A n xs) (hb : Below w.heap.size w w') : RowAt w' A n xs :=
  ⟨h.1, fun hn => let ⟨b, o, e, hc⟩ := h.2 hn; ⟨b, o, e, fun j u hu => cell_below (hc j u hu) hb⟩⟩
theorem RowAt.at_ {w : World} {A : Option Addr} {n k : Nat} {xs : List Value} (h : RowAt w A n xs) (hk : k < n) :
    ∃ b o, A = some ⟨b, o, none⟩ ∧ w.cell? ⟨b, o + k, none⟩ = some (xs[k]'(by have := h.1; omega)) := by
  obtain ⟨b, o, e, hc⟩ := h.2 (by omega)
  have := h.1
  exact ⟨b, o, e, hc k _ (List.getElem?_eq_getElem (by omega))⟩
/-- The same, the row's block known, with its elements' type. -/
def RowT (w : World) (t : TypeId) (A : Option Addr) (n : Nat) (xs : List Value) : Prop :=
  xs.length = n ∧ (0 < n → ∃ b o cs fr, A = some ⟨b, o, none⟩ ∧ w.heap[b]? = some (.cells cs t fr) ∧ ∀ (j : Nat) u, xs[j]? = some u → cs[o + j]? = some u)
theorem RowT.row {w : World} {t : TypeId} {A : Option Addr} {n : Nat} {xs : List Value} (h : RowT w t A n xs) : RowAt w A n xs :=
  ⟨h.1, fun hn => let ⟨b, o, cs, fr, e, hb, hc⟩ := h.2 hn; ⟨b, o, e, fun j u hu => by rw [cell_of_row w b _ cs t fr hb]; exact hc j u hu⟩⟩
theorem RowT.keep {w w' : World} {t : TypeId} {A : Option Addr} {n : Nat} {xs : List Value} (h : RowT w t A n xs) (hb : Below w.heap.size w w') : RowT w' t A n xs :=
  ⟨h.1, fun hn => let ⟨b, o, cs, fr, e, hg, hc⟩ := h.2 hn; ⟨b, o, cs, fr, e, (hb.block b (by
    rcases Nat.lt_or_ge b w.heap.size with h1 | h1
    · exact h1
    · rw [Array.getElem?_eq_none h1] at hg; cases hg)).trans hg, hc⟩⟩
/-- .. behind an append to a row of another type's. -/
theorem RowT.grown {w w' : World} {t t' : TypeId} {A : Option Addr} {n : Nat} {xs : List Value} {row : Option Nat} (h : RowT w t A n xs) (hg : w.grownBy w' row) (hr : ∀ g, row = some g → ∃ cs fr, w.heap[g]? = some (.cells cs t' fr)) (hne : t ≠ t') : RowT w' t A n xs :=
  ⟨h.1, fun hn => let ⟨b, o, cs, fr, e, hb, hc⟩ := h.2 hn; ⟨b, o, cs, fr, e, (hg.block b (by
    rcases Nat.lt_or_ge b w.heap.size with h1 | h1
    · exact h1
    · rw [Array.getElem?_eq_none h1] at hb; cases hb) (fun he => by
      obtain ⟨cs', fr', h3⟩ := hr b he.symm
      rw [hb] at h3
      injection h3 with h3
      injection h3 with _ h4
      exact hne h4)).trans hb, hc⟩⟩
theorem ownsRow_block {w : World} {base : Nat} {e : TypeId} {size : Nat} {v : Value} {n : Nat} {xs : List Value} (h : w.ownsRow base e size v n xs) : ∀ g, v.ownBlock = some g → ∃ cs fr, w.heap[g]? = some (.cells cs e fr) := by
  intro g hg
  rcases h.2 with ⟨rfl, _⟩ | ⟨g', cap, cur, rfl, _, h3, _⟩
  · simp [Value.ownBlock] at hg
  · simp [Value.ownBlock] at hg
    subst hg
    exact ⟨_, _, h3⟩
/-- A slice of numbers. -/
def IntsAt (w : World) (A : Option Addr) (n : Nat) (zs : List Int) : Prop := RowAt w A n (zs.map (.int .i64))
theorem IntsAt.keep {w w' : World} {A : Option Addr} {n : Nat} {zs : List Int} (h : IntsAt w A n zs) (hb : Below w.heap.size w w') : IntsAt w' A n zs := RowAt.keep h hb
theorem IntsAt.len {w : World} {A : Option Addr} {n : Nat} {zs : List Int} (h : IntsAt w A n zs) : zs.length = n := by have := h.1; simpa using this
theorem IntsAt.at_ {w : World} {A : Option Addr} {n k : Nat} {zs : List Int} (h : IntsAt w A n zs) (hk : k < n) :
    ∃ b o, A = some ⟨b, o, none⟩ ∧ w.cell? ⟨b, o + k, none⟩ = some (.int .i64 (zs.getD k 0)) := by
  obtain ⟨b, o, e, hc⟩ := RowAt.at_ h hk
  refine ⟨b, o, e, hc.trans ?_⟩
  have := h.len
  rw [List.getElem_map, List.getD_eq_getElem?_getD, List.getElem?_eq_getElem (by omega)]; rfl
/-- Mates, as numbers. -/
def nats (l : List Nat) : List Int := l.map (fun m : Nat => (m : Int))
/-- The two slices of a diagram. -/
structure DgAt (w : World) (A : Option Addr) (B : Option Addr) (d : Pl.Dg) : Prop where
  s : IntsAt w A d.n d.sg
  m : IntsAt w B (4 * d.n) (nats d.mt)
theorem DgAt.keep {w w' : World} {A B : Option Addr} {d : Pl.Dg} (h : DgAt w A B d) (hb : Below w.heap.size w w') : DgAt w' A B d := ⟨h.s.keep hb, h.m.keep hb⟩
theorem DgAt.sign {w : World} {A B : Option Addr} {d : Pl.Dg} (h : DgAt w A B d) {c : Nat} (hc : c < d.n) :
    ∃ b o, A = some ⟨b, o, none⟩ ∧ w.cell? ⟨b, o + c, none⟩ = some (.int .i64 (d.s c)) := h.s.at_ hc
theorem sign_at {w : World} {A : Option Addr} {d : Pl.Dg} (h : IntsAt w A d.n d.sg) {c : Nat} (hc : c < d.n) :
    ∃ b o, A = some ⟨b, o, none⟩ ∧ w.cell? ⟨b, o + c, none⟩ = some (.int .i64 (d.s c)) := h.at_ hc
theorem mate_at {w : World} {B : Option Addr} {d : Pl.Dg} (h : IntsAt w B (4 * d.n) (nats d.mt)) {k : Nat} (hk : k < 4 * d.n) :
    ∃ b o, B = some ⟨b, o, none⟩ ∧ w.cell? ⟨b, o + k, none⟩ = some (.int .i64 (d.m k : Nat)) := by
  obtain ⟨b, o, e, hc⟩ := h.at_ hk
  refine ⟨b, o, e, hc.trans ?_⟩
  have hl := h.len
  unfold nats at hl
  rw [List.length_map] at hl
  unfold nats Pl.Dg.m
  rw [List.getD_eq_getElem?_getD, List.getD_eq_getElem?_getD, List.getElem?_map, List.getElem?_eq_getElem (by omega)]; rfl
theorem DgAt.mate {w : World} {A B : Option Addr} {d : Pl.Dg} (h : DgAt w A B d) {k : Nat} (hk : k < 4 * d.n) :
    ∃ b o, B = some ⟨b, o, none⟩ ∧ w.cell? ⟨b, o + k, none⟩ = some (.int .i64 (d.m k : Nat)) := mate_at h.m hk
end Go.Proofs.Ytghdiolnonejaaa
end

section
namespace Go.Proofs.Ytghdiolnonejaaa
open Go.RowKit
theorem turn_back (h : Nat) (w : World) (hh : h ≤ 1000000) :
    Calls Try.prog 77 #[.int .i64 (h : Int), .int .i64 (-1)] w fun e w' => e = .returned (.int .i64 (Pl.tn h 3 : Nat)) ∧ w = w' := by
  go_enter Try.func77, Try.ntmps77
  go_wp2
  go_ret
  exact ⟨ret_int (by unfold Pl.tn; omega), rfl⟩
theorem turn_opp (h : Nat) (w : World) (hh : h ≤ 1000000) :
    Calls Try.prog 77 #[.int .i64 (h : Int), .int .i64 2] w fun e w' => e = .returned (.int .i64 (Pl.tn h 2 : Nat)) ∧ w = w' := by
  go_enter Try.func77, Try.ntmps77
  go_wp2
  go_ret
  exact ⟨ret_int (by unfold Pl.tn; omega), rfl⟩
theorem opposite_any (h : Nat) (w : World) (hh : h ≤ 1000000) :
    Calls Try.prog 100 #[.int .i64 (h : Int)] w fun e w' => e = .returned (.int .i64 (Pl.tn h 2 : Nat)) ∧ w = w' := by
  go_enter Try.func100, Try.ntmps100
  go_wp2_with fail
  refine (turn_opp h _ hh).mono ?_
  rintro e w1 ⟨rfl, rfl⟩
  go_wp2
  go_ret
  exact ⟨rfl, rfl⟩
theorem out_zero {d : Pl.Dg} {h : Nat} (e : h % 4 = 0) : Pl.out d h = false := by unfold Pl.out; simp [e]
theorem out_one {d : Pl.Dg} {h : Nat} (e : h % 4 = 1) : Pl.out d h = (d.s (h / 4) == 1) := by unfold Pl.out; simp [e]
theorem out_two {d : Pl.Dg} {h : Nat} (e : h % 4 = 2) : Pl.out d h = true := by unfold Pl.out; simp [e]
theorem out_three {d : Pl.Dg} {h : Nat} (e : h % 4 = 3) : Pl.out d h = (d.s (h / 4) == -1) := by unfold Pl.out; simp [e]
/-- The first 'outgoing'. -/
theorem out_any (d : Pl.Dg) (A B : Option Addr) (cp q cq : Nat) (l : Value) (h : Nat) (w : World) (hh : h < 4 * d.n) (hn : d.n ≤ 1000) (hs : IntsAt w A d.n d.sg) :
    Calls Try.prog 46 #[.agg #[.slice A d.n cp, .slice B q cq, l], .int .i64 (h : Int)] w fun e w' => e = .returned (.bool (Pl.out d h)) ∧ Below w.heap.size w w' := by
  obtain ⟨b, o, rfl, hc⟩ := sign_at hs (c := h / 4) (by omega)
  have hb : Below w.heap.size w (w.alloc (.cells #[.slice (some ⟨b, o, none⟩) d.n cp, .slice B q cq, l] 24)) := (Below.refl _ _).alloc (Nat.le_refl _) _
  have hc2 := cell_below hc hb
  go_enter Try.func46, Try.ntmps46
  go_wp2
  all_goals
    go_ret
    refine ⟨ret_bool ?_, hb⟩
    simp only [beq_iff_eq, beq_eq_false_iff_ne, ne_eq] at *
  · rw [out_one (by omega)]
  · rw [out_two (by omega)]
  · rw [out_three (by omega)]
  · rw [out_zero (by omega)]
theorem out_n (d : Pl.Dg) (A B : Option Addr) (n cp q cq : Nat) (l : Value) (h : Nat) (w : World) (e : n = d.n) (hh : h < 4 * n) (hn : n ≤ 1000) (hs : IntsAt w A n d.sg) :
    Calls Try.prog 46 #[.agg #[.slice A n cp, .slice B q cq, l], .int .i64 (h : Int)] w fun e w' => e = .returned (.bool (Pl.out d h)) ∧ Below w.heap.size w w' := by
  subst e; exact out_any d A B cp q cq l h w hh hn hs
/-- The second. -/
theorem out2_any (d : Pl.Dg) (A B : Option Addr) (cp q cq : Nat) (l : Value) (h : Nat) (w : World) (hh : h < 4 * d.n) (hn : d.n ≤ 1000) (hs : IntsAt w A d.n d.sg) :
    Calls Try.prog 129 #[.agg #[.slice A d.n cp, .slice B q cq, l], .int .i64 (h : Int)] w fun e w' => e = .returned (.bool (Pl.out d h)) ∧ Below w.heap.size w w' := by
  obtain ⟨b, o, rfl, hc⟩ := sign_at hs (c := h / 4) (by omega)
  have hb : Below w.heap.size w (w.alloc (.cells #[.slice (some ⟨b, o, none⟩) d.n cp, .slice B q cq, l] 24)) := (Below.refl _ _).alloc (Nat.le_refl _) _
  have hc2 := cell_below hc hb
  go_enter Try.func129, Try.ntmps129
  go_wp2
  all_goals
    go_ret
    refine ⟨ret_bool ?_, hb⟩
  · rw [out_two (by omega)]
  · rename_i e1
    rw [out_one (by omega)]; try simp [e1]
  · rename_i e1
    rw [out_one (by omega)]; try simp [e1]
  · rw [out_three (by omega)]
  · rw [out_zero (by omega)]; simp; omega
theorem out2_n (d : Pl.Dg) (A B : Option Addr) (n cp q cq : Nat) (l : Value) (h : Nat) (w : World) (e : n = d.n) (hh : h < 4 * n) (hn : n ≤ 1000) (hs : IntsAt w A n d.sg) :
    Calls Try.prog 129 #[.agg #[.slice A n cp, .slice B q cq, l], .int .i64 (h : Int)] w fun e w' => e = .returned (.bool (Pl.out d h)) ∧ Below w.heap.size w w' := by
  subst e; exact out2_any d A B cp q cq l h w hh hn hs
/-- The next half-edge of a face. -/
theorem next_any (d : Pl.Dg) (B : Option Addr) (cq : Nat) (h : Nat) (w : World) (hh : h < 4 * d.n) (hn : d.n ≤ 1000) (hm : IntsAt w B (4 * d.n) (nats d.mt)) (hlt : d.m h < 4 * d.n) :
    Calls Try.prog 96 #[.slice B (4 * d.n) cq, .int .i64 (h : Int)] w fun e w' => e = .returned (.int .i64 (Pl.nx d h : Nat)) ∧ w = w' := by
  obtain ⟨b, o, rfl, hc⟩ := mate_at hm hh
  go_enter Try.func96, Try.ntmps96
  go_wp2_with fail
  refine (turn_back _ _ (by omega)).mono ?_
  rintro e w1 ⟨rfl, rfl⟩
  go_wp2
  go_ret
  exact ⟨rfl, rfl⟩
end Go.Proofs.Ytghdiolnonejaaa
end
