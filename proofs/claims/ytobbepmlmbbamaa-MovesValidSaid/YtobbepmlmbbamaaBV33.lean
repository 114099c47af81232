/-
  The texts Xl, Slt, Xo in one.
-/
import Derived.Test.YtobbepmlmbbamaaBAV24
import Derived.Test.YtobbepmlmbbamaaBV32
import Derived.Test.YtobbepmlmbbamaaBV29
import Derived.Test.YtobbepmlmbbamaaBAV23
set_option linter.unusedVariables false
set_option linter.unusedSimpArgs false

section
/-
  The law on signs, in plain Lean: what Apply does to the sum of the signs and to the number of crossings.
-/
namespace Go.Proofs.Ytobbepmlmbbamaa
open Go Go.RowKit

/-- By how much the sum of the signs changes; how many crossings are added. -/
def byK (m : Mv) (s : Int) : Int := if m.kind = 1 then m.sign else if m.kind = 2 then -s else 0
def moreK (m : Mv) : Int := if m.kind = 1 then 1 else if m.kind = 2 then -1 else if m.kind = 3 then 2 else if m.kind = 4 then -2 else 0
def Sml (l : List Int) : Prop := ∀ z, z ∈ l → -1 ≤ z ∧ z ≤ 1
theorem wf_sml {d : Pl.Dg} (hd : Pl.Wf d) : Sml d.sg := fun z hz => by
  obtain ⟨k, hk, rfl⟩ := List.getElem_of_mem hz
  have := hd.sign k hk
  unfold Pl.Dg.s at this
  rw [List.getD_eq_getElem?_getD, List.getElem?_eq_getElem hk] at this
  simp at this
  omega
theorem sml_app {l r : List Int} (h : Sml l) (h' : Sml r) : Sml (l ++ r) := fun z hz => by
  rcases List.mem_append.1 hz with h1 | h1
  · exact h z h1
  · exact h' z h1
theorem shr_sml {l : List Int} (h : Sml l) (gs : List Nat) : Sml (Pl.shrS gs l) := fun z hz => by
  unfold Pl.shrS at hz
  obtain ⟨c, _, rfl⟩ := List.mem_map.1 hz
  rw [List.getD_eq_getElem?_getD]
  cases hc : l[c]? with
  | none => simp
  | some v => exact h v (List.mem_of_getElem? hc)
theorem sgn2_sml (a b : Nat) : -1 ≤ sgn2 a b ∧ sgn2 a b ≤ 1 := by unfold sgn2; split <;> omega
theorem poke_signs (d : Pl.Dg) (x y : Int) (ov : Bool) : sgn2 (un0 d x y ov) (ov0 d x y ov) + sgn2 (un1 d x y ov) (ov1 d x y ov) = 0 := by
  unfold sgn2 un0 ov0 un1 ov1 lnS th0 th1 plc
  cases ov <;> cases fwd d y <;> cases fwd d x <;> decide
/-- THE LAW: at a move that is applied. -/
theorem signs_law {d : Pl.Dg} (hd : Pl.Valid d) (m : Mv) (h : apC d m = 0) :
    (apD d m).sg.sum = d.sg.sum + byK m (apI d m).sign ∧ ((apD d m).sg.length : Int) = d.sg.length + moreK m ∧ Sml (apD d m).sg := by
  obtain ⟨k, x, y, s, o⟩ := m
  have hs := wf_sml hd.wf
  by_cases hk : k < 1 ∨ 5 < k
  · unfold apC at h; rw [if_pos hk] at h; exact absurd h (by decide)
  by_cases hin : inR d.n ⟨k, x, y, s, o⟩
  · have hv : ¬ (Pl.vb (inR d.n ⟨k, x, y, s, o⟩) = false) := by rw [Pl.vb_true hin]; decide
    have e0 : apC d ⟨k, x, y, s, o⟩ = if k = 1 then curlableC d x else if k = 2 then uncC d x.toNat else if k = 3 then pkQ d x y s else if k = 4 then unpC d x.toNat y.toNat else sldC d x.toNat := by unfold apC; rw [if_neg hk, if_neg hv]
    rw [e0] at h
    have hk5 : k = 1 ∨ k = 2 ∨ k = 3 ∨ k = 4 ∨ k = 5 := by omega
    rcases hk5 with rfl | rfl | rfl | rfl | rfl
    · have hsg : s = 1 ∨ s = -1 := by have := hin; unfold inR at this; simp at this; omega
      refine ⟨?_, ?_, ?_⟩
      · show (d.sg ++ [s]).sum = d.sg.sum + s
        simp
      · show ((d.sg ++ [s]).length : Int) = d.sg.length + 1
        simp
      · show Sml (d.sg ++ [s])
        exact sml_app hs (fun z hz => by simp at hz; subst hz; omega)
    · obtain ⟨c, rfl⟩ := Int.eq_ofNat_of_zero_le (show 0 ≤ x by have := hin; unfold inR at this; simp at this; omega)
      have hc : c < d.sg.length := by have := hin; unfold inR at this; simp [Pl.Dg.n] at this; omega
      refine ⟨?_, ?_, ?_⟩
      · show (Pl.shrS [c] d.sg).sum = d.sg.sum + -(d.s c)
        rw [Pl.shrS_one d.sg hc]
        show _ - d.sg.getD c 0 = _ + -(d.sg.getD c 0)
        omega
      · show ((Pl.shrS [c] d.sg).length : Int) = d.sg.length + -1
        have := Pl.left_one hc
        rw [Pl.shrS_len]
        omega
      · show Sml (Pl.shrS [c] d.sg)
        exact shr_sml hs _
    · refine ⟨?_, ?_, ?_⟩
      · show (d.sg ++ [_, _]).sum = d.sg.sum + 0
        have := poke_signs d x y o
        simp
        omega
      · show ((d.sg ++ [_, _]).length : Int) = d.sg.length + 2
        simp
      · show Sml (d.sg ++ [_, _])
        refine sml_app hs (fun z hz => ?_)
        simp at hz
        rcases hz with rfl | rfl <;> exact sgn2_sml _ _
    · obtain ⟨a, rfl⟩ := Int.eq_ofNat_of_zero_le (show 0 ≤ x by have := hin; unfold inR at this; simp at this; omega)
      obtain ⟨b, rfl⟩ := Int.eq_ofNat_of_zero_le (show 0 ≤ y by have := hin; unfold inR at this; simp at this; omega)
      have hab : a < b ∧ b < d.n := by have := hin; unfold inR at this; simp at this; omega
      have h' : unpC d a b = 0 := h
      have eD : apD d ⟨4, (a : Int), (b : Int), s, o⟩ = unpD d a b := rfl
      cases hL : lensI d a b with
      | none => unfold unpC at h'; rw [hL] at h'; exact absurd (show (6 : Int) = 0 from h') (by decide)
      | some i =>
        have eS : (unpD d a b).sg = Pl.shrS [a, b] d.sg := by unfold unpD; rw [hL]; rfl
        obtain ⟨h1, h2, h3⟩ := lens_is hL
        have hi := lens_lt hL
        have hl : lnH a b i < 4 * d.n := by unfold lnH; split <;> omega
        have sg := Pl.lens_signs hd.wf hl h2 h3
        rw [h1] at sg
        have sab : d.s a + d.s b = 0 := by
          unfold lnH lnO at sg
          by_cases h4 : i < 4
          · rw [if_pos h4, if_pos h4, show (4 * a + i) / 4 = a by omega] at sg
            exact sg
          · rw [if_neg h4, if_neg h4, show (4 * b + i - 4) / 4 = b by omega] at sg
            omega
        have hb : b < d.sg.length := hab.2
        rw [eD, eS]
        refine ⟨?_, ?_, ?_⟩
        · show (Pl.shrS [a, b] d.sg).sum = d.sg.sum + 0
          rw [Pl.shrS_two d.sg hab.1 hb]
          unfold Pl.Dg.s at sab
          omega
        · show ((Pl.shrS [a, b] d.sg).length : Int) = d.sg.length + -2
          have := Pl.left_two hab.1 hb
          rw [Pl.shrS_len]
          omega
        · exact shr_sml hs _
    · refine ⟨?_, ?_, ?_⟩
      · show d.sg.sum = d.sg.sum + 0
        omega
      · show (d.sg.length : Int) = d.sg.length + 0
        omega
      · exact hs
  · unfold apC at h
    rw [if_neg hk, if_pos (Pl.vb_false hin)] at h
    exact absurd h (by decide)
end Go.Proofs.Ytobbepmlmbbamaa
end

section
/-
  Plain Lean: the triangle behind a slide; a slide's joins. No program is named here.
-/
namespace Go.Proofs.Ytobbepmlmbbamaa.Pl

section
variable {S : Nat → Prop} {r a t : Nat → Nat} {h0 h1 h2 p0 p1 p2 u0 u1 u2 v0 v1 v2 : Nat}
theorem perm_turn : [h1, h2, h0, p1, p2, p0, u1, u2, u0, v1, v2, v0].Perm [h0, h1, h2, p0, p1, p2, u0, u1, u2, v0, v1, v2] :=
  have k : ∀ a b c : Nat, [b, c, a].Perm [a, b, c] := fun a b c => List.perm_append_comm (l₁ := [b, c]) (l₂ := [a])
  ((k h0 h1 h2).append ((k p0 p1 p2).append ((k u0 u1 u2).append (k v0 v1 v2))))
theorem perm_flip : [u0, u1, u2, v0, v1, v2, h0, h1, h2, p0, p1, p2].Perm [h0, h1, h2, p0, p1, p2, u0, u1, u2, v0, v1, v2] :=
  List.perm_append_comm (l₁ := [u0, u1, u2, v0, v1, v2]) (l₂ := [h0, h1, h2, p0, p1, p2])
/-- The same triangle, begun at its next corner. -/
theorem Tri.turn1 (T : Tri S r a t h0 h1 h2 p0 p1 p2 u0 u1 u2 v0 v1 v2) : Tri S r a t h1 h2 h0 p1 p2 p0 u1 u2 u0 v1 v2 v0 := by
  refine ⟨fun x hx => T.mem x (perm_turn.mem_iff.1 hx), T.rv1, T.rv2, T.rv0, T.ru1, T.ru2, T.ru0, T.rp1, T.rp2, T.rp0, T.rh1, T.rh2, T.rh0, T.ah1, T.ah2, T.ah0, T.ap2, T.ap0, T.ap1, ?_, T.tu1, T.tu2, T.tu0, T.tp2, T.tp0, T.tp1, T.tv1, T.tv2, T.tv0, T.th0, T.th1, T.th2, fun x hx => T.tx x (fun h => hx (perm_turn.mem_iff.2 h))⟩
  exact perm_turn.nodup_iff.2 T.nd
/-- The triangle on the other side. -/
theorem Tri.flip (T : Tri S r a t h0 h1 h2 p0 p1 p2 u0 u1 u2 v0 v1 v2) : Tri S r (cj t a) t u0 u1 u2 v0 v1 v2 h0 h1 h2 p0 p1 p2 := by
  refine ⟨fun x hx => T.mem x (perm_flip.mem_iff.1 hx), T.rp0, T.rp1, T.rp2, T.rh0, T.rh1, T.rh2, T.rv0, T.rv1, T.rv2, T.ru0, T.ru1, T.ru2, ?_, ?_, ?_, ?_, ?_, ?_, ?_, T.th0, T.th1, T.th2, T.tv1, T.tv2, T.tv0, T.tp0, T.tp1, T.tp2, T.tu2, T.tu0, T.tu1, fun x hx => T.tx x (fun h => hx (perm_flip.mem_iff.2 h))⟩
  · unfold cj; rw [T.tu0, T.ap1, T.th0]
  · unfold cj; rw [T.tu1, T.ap2, T.th1]
  · unfold cj; rw [T.tu2, T.ap0, T.th2]
  · unfold cj; rw [T.tv1, T.ah0, T.tp1]
  · unfold cj; rw [T.tv2, T.ah1, T.tp2]
  · unfold cj; rw [T.tv0, T.ah2, T.tp0]
  · exact perm_flip.nodup_iff.2 T.nd
/-- The exchange is determined. -/
theorem Tri.uniq {S' : Nat → Prop} {r' a' t' : Nat → Nat} (T : Tri S r a t h0 h1 h2 p0 p1 p2 u0 u1 u2 v0 v1 v2) (T' : Tri S' r' a' t' h0 h1 h2 p0 p1 p2 u0 u1 u2 v0 v1 v2) (x : Nat) : t x = t' x := by
  by_cases hx : x ∈ [h0, h1, h2, p0, p1, p2, u0, u1, u2, v0, v1, v2]
  · simp only [List.mem_cons, List.not_mem_nil, or_false] at hx
    rcases hx with rfl | rfl | rfl | rfl | rfl | rfl | rfl | rfl | rfl | rfl | rfl | rfl
    · rw [T.th0, T'.th0]
    · rw [T.th1, T'.th1]
    · rw [T.th2, T'.th2]
    · rw [T.tp0, T'.tp0]
    · rw [T.tp1, T'.tp1]
    · rw [T.tp2, T'.tp2]
    · rw [T.tu0, T'.tu0]
    · rw [T.tu1, T'.tu1]
    · rw [T.tu2, T'.tu2]
    · rw [T.tv0, T'.tv0]
    · rw [T.tv1, T'.tv1]
    · rw [T.tv2, T'.tv2]
  · rw [T.tx x hx, T'.tx x hx]
end

/-- The joins of a slide, the outer half-edges one after the other. -/
structure Sj (N : Nat) (m f : Nat → Nat) (Ou In : Nat → Prop) : Prop where
  lt : ∀ x, x < N → m x < N
  inv : ∀ x, x < N → m (m x) = x
  fl : ∀ x, x < N → f x < N
  ff : ∀ x, f (f x) = x
  fO : ∀ x, Ou x → In (f x)
  fx : ∀ x, ¬ Ou x → ¬ In x → f x = x
  fI : ∀ x, In x → Ou (f x)
  mI : ∀ x, In x → In (m x)
  no : ∀ x, Ou x → ¬ In x
variable {N : Nat} {m f : Nat → Nat} {Ou In : Nat → Prop}
theorem Sj.far (h : Sj N m f Ou In) {u : Nat} (hu : u < N) (ho : Ou u) (hm : ¬ Ou (m u)) : f (m u) = m u :=
  h.fx _ hm (fun hi => h.no u ho (by have := h.mI _ hi; rwa [h.inv u hu] at this))
theorem Sj.step (h : Sj N m f Ou In) {l : List Nat} {k : Nat} (hl : Half N m (cj f m) (fun x => ∃ u, u < k ∧ Ou u ∧ (x = f u ∨ x = f (m u))) l) (hk : k < N) (ho : Ou k) :
    Half N m (cj f m) (fun x => ∃ u, u < k + 1 ∧ Ou u ∧ (x = f u ∨ x = f (m u))) ((l.set (f k) (f (m k))).set (f (m k)) (f k)) := by
  refine (hl.join (h.fl _ hk) (h.fl _ (h.lt _ hk)) (by unfold cj; rw [h.ff]) (by unfold cj; rw [h.ff, h.inv k hk])).mono ?_
  rintro x ⟨u, hu, hou, hx⟩
  by_cases e : u = k
  · subst e
    exact hx.elim (fun h => .inr (.inl h)) (fun h => .inr (.inr h))
  · exact .inl ⟨u, by omega, hou, hx⟩
theorem Sj.skip {l : List Nat} {k : Nat} (hl : Half N m (cj f m) (fun x => ∃ u, u < k ∧ Ou u ∧ (x = f u ∨ x = f (m u))) l) (ho : ¬ Ou k) :
    Half N m (cj f m) (fun x => ∃ u, u < k + 1 ∧ Ou u ∧ (x = f u ∨ x = f (m u))) l := by
  refine hl.mono ?_
  rintro x ⟨u, hu, hou, hx⟩
  by_cases e : u = k
  · subst e; exact absurd hou ho
  · exact ⟨u, by omega, hou, hx⟩
/-- .. and all of them, with the outer ones joined too. -/
theorem Sj.all (h : Sj N m f Ou In) {l : List Nat} {W : Nat → Prop} (hl : Half N m (cj f m) W l) (hw : ∀ u, u < N → Ou u → W (f u) ∧ W (f (m u)) ∧ W u) : ∀ x, x < N → l.getD x 0 = cj f m x := by
  refine hl.all (fun x hx => ?_)
  by_cases h1 : Ou x
  · exact .inl (hw x hx h1).2.2
  · by_cases h2 : In x
    · have := (hw (f x) (h.fl x hx) (h.fI x h2)).1
      rw [h.ff] at this
      exact .inl this
    · have e := h.fx x h1 h2
      by_cases h3 : Ou (m x)
      · have := (hw (m x) (h.lt x hx) h3).2.1
        rw [h.inv x hx, e] at this
        exact .inl this
      · have h4 : ¬ In (m x) := fun hi => h2 (by have := h.mI _ hi; rwa [h.inv x hx] at this)
        refine .inr ?_
        unfold cj
        rw [e, h.fx _ h3 h4]
end Go.Proofs.Ytobbepmlmbbamaa.Pl
end

section
/-
  What a slide makes, in plain Lean: it can be slid back, and leads back.
-/
namespace Go.Proofs.Ytobbepmlmbbamaa
open Go Go.RowKit

theorem tr_of {d : Pl.Dg} {h : Nat} (hh : h < 4 * d.n) (hi : is3 d h) : Pl.Tr d (th d h 0) (th d h 1) (th d h 2) :=
  ⟨hh, rfl, rfl, hi.1, hi.2.1, hi.2.2.1, hi.2.2.2⟩
/-- The exchange at the triangle of h. -/
def sT (d : Pl.Dg) (h x : Nat) : Nat := Pl.tu (th d h 0) (th d h 1) (th d h 2) x
def sO (d : Pl.Dg) (h x : Nat) : Prop := x = Pl.tn (th d h 0) 2 ∨ x = Pl.tn (th d h 1) 2 ∨ x = Pl.tn (th d h 2) 2 ∨ x = Pl.tn (th d h 0) 3 ∨ x = Pl.tn (th d h 1) 3 ∨ x = Pl.tn (th d h 2) 3
def sI (d : Pl.Dg) (h x : Nat) : Prop := x = th d h 0 ∨ x = th d h 1 ∨ x = th d h 2 ∨ x = Pl.tn (th d h 0) 1 ∨ x = Pl.tn (th d h 1) 1 ∨ x = Pl.tn (th d h 2) 1
abbrev TriAt (d : Pl.Dg) (h0 h1 h2 : Nat) (m t : Nat → Nat) : Prop :=
  Pl.Tri (Pl.dart d) Pl.rot m t h0 h1 h2 (Pl.tn h0 1) (Pl.tn h1 1) (Pl.tn h2 1) (Pl.tn h0 2) (Pl.tn h1 2) (Pl.tn h2 2) (Pl.tn h0 3) (Pl.tn h1 3) (Pl.tn h2 3)
theorem tri_at {d : Pl.Dg} (hd : Pl.Wf d) {h : Nat} (hh : h < 4 * d.n) (hi : is3 d h) : TriAt d (th d h 0) (th d h 1) (th d h 2) d.m (sT d h) := (tr_of hh hi).tri hd
theorem sj_at {d : Pl.Dg} (hd : Pl.Wf d) {h : Nat} (hh : h < 4 * d.n) (hi : is3 d h) : Pl.Sj (4 * d.n) d.m (sT d h) (sO d h) (sI d h) := by
  have T := tri_at hd hh hi
  refine ⟨hd.lt, hd.inv, fun x hx => ?_, T.tt, ?_, ?_, ?_, ?_, ?_⟩
  · exact T.tS x hx
  · rintro x (e | e | e | e | e | e) <;> rw [e]
    · rw [T.tu0]; simp [sI]
    · rw [T.tu1]; simp [sI]
    · rw [T.tu2]; simp [sI]
    · rw [T.tv0]; simp [sI]
    · rw [T.tv1]; simp [sI]
    · rw [T.tv2]; simp [sI]
  · intro x h1 h2
    unfold sO at h1
    unfold sI at h2
    refine T.tx x ?_
    simp only [List.mem_cons, List.not_mem_nil, or_false]
    intro h3
    rcases h3 with e | e | e | e | e | e | e | e | e | e | e | e <;> first | (apply h1; simp [e]; done) | (apply h2; simp [e]; done)
  · rintro x (e | e | e | e | e | e) <;> rw [e]
    · rw [T.th0]; simp [sO]
    · rw [T.th1]; simp [sO]
    · rw [T.th2]; simp [sO]
    · rw [T.tp0]; simp [sO]
    · rw [T.tp1]; simp [sO]
    · rw [T.tp2]; simp [sO]
  · rintro x (e | e | e | e | e | e) <;> rw [e]
    · rw [T.ah0]; simp [sI]
    · rw [T.ah1]; simp [sI]
    · rw [T.ah2]; simp [sI]
    · rw [T.ap0]; simp [sI]
    · rw [T.ap1]; simp [sI]
    · rw [T.ap2]; simp [sI]
  · obtain ⟨_, c1, c2, c3⟩ := hi
    intro x h1 h2
    unfold sO at h1
    unfold sI at h2
    have e0 : th d h 0 = h := rfl
    rw [e0] at h1 h2
    unfold Pl.tn at h1 h2
    rcases h1 with e | e | e | e | e | e <;> rcases h2 with e' | e' | e' | e' | e' | e' <;> omega
/-- Both ends of an edge, whichever its direction. -/
theorem ends {d : Pl.Dg} (hd : Pl.Wf d) {h k q : Nat} (hl : th d h k < 4 * d.n) (hq : d.m (th d h k) = Pl.tn q 1) :
    (sb d h k = Pl.tn (th d h k) 2 ∧ so d h k = th d h k ∧ si d h k = Pl.tn q 1 ∧ sf d h k = Pl.tn q 3) ∨ (sb d h k = Pl.tn q 3 ∧ so d h k = Pl.tn q 1 ∧ si d h k = th d h k ∧ sf d h k = Pl.tn (th d h k) 2) := by
  have e3 : Pl.tn (Pl.tn q 1) 2 = Pl.tn q 3 := Pl.tn_tn _ _ _
  by_cases ho : Pl.out d (th d h k) = true
  · left
    have e1 : eo d (th d h k) = th d h k := by unfold eo; rw [if_pos ho]
    have e2 : ei d (th d h k) = Pl.tn q 1 := by unfold ei; rw [e1, hq]
    exact ⟨by unfold sb; rw [e1], e1, e2, by unfold sf; rw [e2, e3]⟩
  · right
    have e1 : eo d (th d h k) = Pl.tn q 1 := by unfold eo; rw [if_neg ho, hq]
    have e2 : ei d (th d h k) = th d h k := by unfold ei; rw [e1, ← hq, hd.inv _ hl]
    exact ⟨by unfold sb; rw [e1, e3], e1, e2, by unfold sf; rw [e2]⟩
theorem sTo_s {d : Pl.Dg} (hd : Pl.Wf d) {h k q : Nat} (hl : th d h k < 4 * d.n) (hq : d.m (th d h k) = Pl.tn q 1) (hql : q < 4 * d.n) (hne : Pl.tn (th d h k) 2 ≠ Pl.tn q 3) (x : Nat) :
    (sTo d h (k + 1)).getD x 0 = if x = Pl.tn (th d h k) 2 then Pl.tn q 1 else if x = Pl.tn q 3 then th d h k else (sTo d h k).getD x 0 := by
  have l1 : Pl.tn (th d h k) 2 < (sTo d h k).length := by rw [sTo_len]; exact Pl.tn_lt hl
  have l2 : Pl.tn q 3 < (sTo d h k).length := by rw [sTo_len]; exact Pl.tn_lt hql
  show (((sTo d h k).set (sb d h k) (si d h k)).set (sf d h k) (so d h k)).getD x 0 = _
  rcases ends hd hl hq with ⟨e1, e2, e3, e4⟩ | ⟨e1, e2, e3, e4⟩ <;> rw [e1, e2, e3, e4]
  · rw [Pl.set_getD _ _ _ _ (by simpa using l2), Pl.set_getD _ _ _ _ l1]
    by_cases h1 : x = Pl.tn q 3
    · rw [if_pos h1, if_neg (fun h2 => hne (h2.symm.trans h1)), if_pos h1]
    · rw [if_neg h1, if_neg h1]
  · rw [Pl.set_getD _ _ _ _ (by simpa using l1), Pl.set_getD _ _ _ _ l2]
theorem setB (l : List Bool) (a x : Nat) (ha : a < l.length) : (l.set a true).getD x false = if x = a then true else l.getD x false := by
  rw [List.getD_eq_getElem?_getD, List.getElem?_set, List.getD_eq_getElem?_getD]
  by_cases h : a = x
  · subst h; simp [ha]
  · rw [if_neg h, if_neg (Ne.symm h)]
theorem sOu_s {d : Pl.Dg} (hd : Pl.Wf d) {h k q : Nat} (hl : th d h k < 4 * d.n) (hq : d.m (th d h k) = Pl.tn q 1) (hql : q < 4 * d.n) (x : Nat) :
    (sOu d h (k + 1)).getD x false = true ↔ x = Pl.tn (th d h k) 2 ∨ x = Pl.tn q 3 ∨ (sOu d h k).getD x false = true := by
  have l1 : Pl.tn (th d h k) 2 < (sOu d h k).length := by rw [sOu_len]; exact Pl.tn_lt hl
  have l2 : Pl.tn q 3 < (sOu d h k).length := by rw [sOu_len]; exact Pl.tn_lt hql
  show (((sOu d h k).set (sb d h k) true).set (sf d h k) true).getD x false = true ↔ _
  rcases ends hd hl hq with ⟨e1, e2, e3, e4⟩ | ⟨e1, e2, e3, e4⟩ <;> rw [e1, e4]
  · rw [setB _ _ _ (by simpa using l2), setB _ _ _ l1]
    by_cases h1 : x = Pl.tn q 3
    · simp [h1]
    · by_cases h2 : x = Pl.tn (th d h k) 2 <;> simp [h1, h2]
  · rw [setB _ _ _ (by simpa using l1), setB _ _ _ l2]
    by_cases h1 : x = Pl.tn q 3
    · simp [h1]
    · by_cases h2 : x = Pl.tn (th d h k) 2 <;> simp [h1, h2]
section
variable {d : Pl.Dg} {h : Nat}
theorem sTo_v (hd : Pl.Wf d) (hh : h < 4 * d.n) (hi : is3 d h) {x : Nat} (hx : x < 4 * d.n) : (sO d h x → (sTo d h 3).getD x 0 = sT d h x) ∧ (¬ sO d h x → (sTo d h 3).getD x 0 = x) := by
  have T := tri_at hd hh hi
  have t0 := th_lt hd hh 0
  have t1 := th_lt hd hh 1
  have t2 := th_lt hd hh 2
  obtain ⟨_, c1, c2, c3⟩ := hi
  have c0 : th d h 0 = h := rfl
  have s2 := sTo_s hd (h := h) (k := 2) (q := th d h 0) t2 T.ah2 t0 (by unfold Pl.tn; omega) x
  have s1 := sTo_s hd (h := h) (k := 1) (q := th d h 2) t1 T.ah1 t2 (by unfold Pl.tn; omega) x
  have s0 := sTo_s hd (h := h) (k := 0) (q := th d h 1) t0 T.ah0 t1 (by unfold Pl.tn; omega) x
  have sz : (sTo d h 0).getD x 0 = x := by simp [sTo, List.getD_eq_getElem?_getD, hx]
  rw [s2, s1, s0, sz]
  have n := T.nd
  constructor
  · rintro (e | e | e | e | e | e) <;> rw [e]
    · rw [T.tu0, if_neg (by unfold Pl.tn; omega), if_neg (by unfold Pl.tn; omega), if_neg (by unfold Pl.tn; omega), if_neg (by unfold Pl.tn; omega), if_pos rfl]
    · rw [T.tu1, if_neg (by unfold Pl.tn; omega), if_neg (by unfold Pl.tn; omega), if_pos rfl]
    · rw [T.tu2, if_pos rfl]
    · rw [T.tv0, if_neg (by unfold Pl.tn; omega), if_pos rfl]
    · rw [T.tv1, if_neg (by unfold Pl.tn; omega), if_neg (by unfold Pl.tn; omega), if_neg (by unfold Pl.tn; omega), if_neg (by unfold Pl.tn; omega), if_neg (by unfold Pl.tn; omega), if_pos rfl]
    · rw [T.tv2, if_neg (by unfold Pl.tn; omega), if_neg (by unfold Pl.tn; omega), if_neg (by unfold Pl.tn; omega), if_pos rfl]
  · intro hn
    unfold sO at hn
    rw [if_neg (fun e => hn (by simp [e])), if_neg (fun e => hn (by simp [e])), if_neg (fun e => hn (by simp [e])), if_neg (fun e => hn (by simp [e])), if_neg (fun e => hn (by simp [e])), if_neg (fun e => hn (by simp [e]))]
theorem sOu_v (hd : Pl.Wf d) (hh : h < 4 * d.n) (hi : is3 d h) (x : Nat) : (sOu d h 3).getD x false = true ↔ sO d h x := by
  have T := tri_at hd hh hi
  have t0 := th_lt hd hh 0
  have t1 := th_lt hd hh 1
  have t2 := th_lt hd hh 2
  have s2 := sOu_s hd (h := h) (k := 2) (q := th d h 0) t2 T.ah2 t0 x
  have s1 := sOu_s hd (h := h) (k := 1) (q := th d h 2) t1 T.ah1 t2 x
  have s0 := sOu_s hd (h := h) (k := 0) (q := th d h 1) t0 T.ah0 t1 x
  have sz : (sOu d h 0).getD x false = false := by
    unfold sOu
    rw [List.getD_eq_getElem?_getD, List.getElem?_replicate]
    split <;> rfl
  rw [s2, s1, s0, sz]
  unfold sO
  constructor
  · rintro (h | h | h | h | h | h | h)
    · exact .inr (.inr (.inl h))
    · exact .inr (.inr (.inr (.inl h)))
    · exact .inr (.inl h)
    · exact .inr (.inr (.inr (.inr (.inr h))))
    · exact .inl h
    · exact .inr (.inr (.inr (.inr (.inl h))))
    · cases h
  · rintro (h | h | h | h | h | h) <;> simp [h]
theorem jn_eq (l : List Nat) (a b : Nat) : jn l a b = (l.set a b).set b a := rfl
theorem sM_half (hd : Pl.Wf d) (hh : h < 4 * d.n) (hi : is3 d h) : ∀ k, k ≤ 4 * d.n → Pl.Half (4 * d.n) d.m (Pl.cj (sT d h) d.m) (fun x => ∃ u, u < k ∧ sO d h u ∧ (x = sT d h u ∨ x = sT d h (d.m u))) (sM d h k)
  | 0, _ => ⟨hd.len, fun x hx => .inr ⟨getD_m (by rw [hd.len]; exact hx), fun ⟨u, h, _⟩ => absurd h (by omega)⟩⟩
  | k + 1, hk => by
    have ih := sM_half hd hh hi k (by omega)
    have J := sj_at hd hh hi
    have hk2 : k < 4 * d.n := by omega
    show Pl.Half _ _ _ _ (if (sOu d h 3).getD k false = true then jn (sM d h k) ((sTo d h 3).getD k 0) ((sTo d h 3).getD (d.m k) 0) else sM d h k)
    by_cases ho : sO d h k
    · rw [if_pos ((sOu_v hd hh hi k).2 ho), (sTo_v hd hh hi hk2).1 ho, jn_eq]
      have e : (sTo d h 3).getD (d.m k) 0 = sT d h (d.m k) := by
        by_cases h2 : sO d h (d.m k)
        · exact (sTo_v hd hh hi (hd.lt k hk2)).1 h2
        · rw [(sTo_v hd hh hi (hd.lt k hk2)).2 h2, J.far hk2 ho h2]
      rw [e]
      exact J.step ih hk2 ho
    · rw [if_neg (fun h2 => ho ((sOu_v hd hh hi k).1 h2))]
      exact Pl.Sj.skip ih ho
theorem sF_half (hd : Pl.Wf d) (hh : h < 4 * d.n) (hi : is3 d h) {k q : Nat} {W : Nat → Prop} (hl : Pl.Half (4 * d.n) d.m (Pl.cj (sT d h) d.m) W (sF d h k)) (hq : d.m (th d h k) = Pl.tn q 1) (hql : q < 4 * d.n) (e : Pl.cj (sT d h) d.m (Pl.tn (th d h k) 2) = Pl.tn q 3) :
    Pl.Half (4 * d.n) d.m (Pl.cj (sT d h) d.m) (fun x => W x ∨ x = Pl.tn (th d h k) 2 ∨ x = Pl.tn q 3) (sF d h (k + 1)) := by
  have J := sj_at hd hh hi
  have lh := th_lt hd hh k
  have l1 : Pl.tn (th d h k) 2 < 4 * d.n := Pl.tn_lt lh
  have l2 : Pl.tn q 3 < 4 * d.n := Pl.tn_lt hql
  have e' : Pl.cj (sT d h) d.m (Pl.tn q 3) = Pl.tn (th d h k) 2 := by
    rw [← e]
    unfold Pl.cj
    rw [J.ff, J.inv _ (J.fl _ l1), J.ff]
  show Pl.Half _ _ _ _ (jn (sF d h k) (sb d h k) (sf d h k))
  rw [jn_eq]
  rcases ends hd lh hq with ⟨e1, _, _, e4⟩ | ⟨e1, _, _, e4⟩ <;> rw [e1, e4]
  · exact hl.join l1 l2 e e'
  · refine (hl.join l2 l1 e' e).mono ?_
    rintro x (h | h | h)
    · exact .inl h
    · exact .inr (.inr h)
    · exact .inr (.inl h)
/-- The mates after a slide: the old ones, at exchanged places. -/
theorem sF_v (hd : Pl.Wf d) (hh : h < 4 * d.n) (hi : is3 d h) : ∀ x, x < 4 * d.n → (sF d h 3).getD x 0 = Pl.cj (sT d h) d.m x := by
  have T := tri_at hd hh hi
  have T' := T.flip
  have J := sj_at hd hh hi
  have t0 := th_lt hd hh 0
  have t1 := th_lt hd hh 1
  have t2 := th_lt hd hh 2
  have a0 : Pl.Half (4 * d.n) d.m (Pl.cj (sT d h) d.m) _ (sF d h 0) := sM_half hd hh hi (4 * d.n) (Nat.le_refl _)
  have a1 := sF_half hd hh hi (k := 0) (q := th d h 1) a0 T.ah0 t1 T'.ah0
  have a2 := sF_half hd hh hi (k := 1) (q := th d h 2) a1 T.ah1 t2 T'.ah1
  have a3 := sF_half hd hh hi (k := 2) (q := th d h 0) a2 T.ah2 t0 T'.ah2
  refine J.all a3 (fun u hu ho => ⟨?_, ?_, ?_⟩)
  · exact .inl (.inl (.inl ⟨u, hu, ho, .inl rfl⟩))
  · exact .inl (.inl (.inl ⟨u, hu, ho, .inr rfl⟩))
  · rcases ho with h | h | h | h | h | h <;> simp [h]
theorem sld_n (d : Pl.Dg) (h : Nat) : (sldD d h).n = d.n := rfl
theorem sld_m (hd : Pl.Wf d) (hh : h < 4 * d.n) (hi : is3 d h) : ∀ x, x < 4 * d.n → (sldD d h).m x = Pl.cj (sT d h) d.m x := fun x hx => by
  rw [← sF_v hd hh hi x hx, ← getD_m (by show x < (sF d h 3).length; rw [sF_len hd]; exact hx)]
  rfl
/-- A slide keeps a diagram valid. -/
theorem sld_valid (hd : Pl.Valid d) (hh : h < 4 * d.n) (hi : is3 d h) : Pl.Valid (sldD d h) :=
  have hw := (Pl.Valid.iff.1 hd).1
  (tr_of hh hi).valid hd rfl rfl (sF_len hw h 3) (sld_m hw hh hi)
/-- The triangle on the other side, as a triangle. -/
theorem tri_new (hd : Pl.Wf d) (hh : h < 4 * d.n) (hi : is3 d h) : TriAt d (Pl.tn (th d h 0) 2) (Pl.tn (th d h 1) 2) (Pl.tn (th d h 2) 2) (Pl.cj (sT d h) d.m) (sT d h) := by
  have T := (tri_at hd hh hi).flip
  have a1 : ∀ z, Pl.tn (Pl.tn z 2) 1 = Pl.tn z 3 := fun z => Pl.tn_tn _ _ _
  have a2 : ∀ z, Pl.tn (Pl.tn z 2) 2 = z := fun z => by rw [Pl.tn_tn, Pl.tn_four]
  have a3 : ∀ z, Pl.tn (Pl.tn z 2) 3 = Pl.tn z 1 := fun z => by rw [Pl.tn_tn]; exact (Pl.tn_mod4 z 5).symm
  unfold TriAt
  rw [a1, a1, a1, a2, a2, a2, a3, a3, a3]
  exact T
theorem nx_of {f : Nat → Nat} {x y : Nat} (h : f x = Pl.tn y 1) : Pl.tn (f x) 3 = y := by rw [h, Pl.tn_tn, Pl.tn_four]
theorem nx_new (hd : Pl.Wf d) (hh : h < 4 * d.n) (hi : is3 d h) : Pl.nx (sldD d h) (Pl.tn (th d h 0) 2) = Pl.tn (th d h 1) 2 ∧ Pl.nx (sldD d h) (Pl.tn (th d h 1) 2) = Pl.tn (th d h 2) 2 ∧ Pl.nx (sldD d h) (Pl.tn (th d h 2) 2) = Pl.tn (th d h 0) 2 := by
  have T := tri_new hd hh hi
  have e : ∀ k, Pl.nx (sldD d h) (Pl.tn (th d h k) 2) = Pl.tn (Pl.cj (sT d h) d.m (Pl.tn (th d h k) 2)) 3 := fun k => by
    unfold Pl.nx
    rw [sld_m hd hh hi _ (Pl.tn_lt (th_lt hd hh k))]
  rw [e, e, e]
  exact ⟨nx_of T.ah0, nx_of T.ah1, nx_of T.ah2⟩
theorem lnx_nx (hd : Pl.Wf d) {u : Nat} (hu : u < 4 * d.n) : lnx (sF d h 3) u = Pl.nx (sldD d h) u := by
  unfold lnx Pl.nx
  rw [← getD_m (by show u < (sF d h 3).length; rw [sF_len hd]; exact hu)]
  rfl
/-- The half-edges from which the new triangle is seen. -/
theorem sC_iff (hd : Pl.Wf d) (hh : h < 4 * d.n) (hi : is3 d h) {u : Nat} (hu : u < 4 * d.n) : sC d h u = true ↔ u = Pl.tn (th d h 0) 2 ∨ u = Pl.tn (th d h 1) 2 ∨ u = Pl.tn (th d h 2) 2 := by
  have J := sj_at hd hh hi
  obtain ⟨n0, n1, n2⟩ := nx_new hd hh hi
  have T := tri_new hd hh hi
  have l : ∀ k, Pl.tn (th d h k) 2 < 4 * d.n := fun k => Pl.tn_lt (th_lt hd hh k)
  unfold sC
  simp only [Bool.and_eq_true, beq_iff_eq]
  rw [sOu_v hd hh hi, sOu_v hd hh hi, sOu_v hd hh hi]
  constructor
  · rintro ⟨⟨⟨h1, h2⟩, _⟩, _⟩
    rcases h1 with e | e | e | e | e | e
    · exact .inl e
    · exact .inr (.inl e)
    · exact .inr (.inr e)
    all_goals
      exfalso
      refine J.no _ h2 ?_
      rw [lnx_nx hd hu]
      unfold Pl.nx
      rw [sld_m hd hh hi _ hu, e]
    · have := T.ap0
      rw [Pl.tn_tn] at this
      rw [show Pl.tn (th d h 0) 3 = Pl.tn (th d h 0) (2 + 1) from rfl, this, Pl.tn_tn, ← Pl.tn_mod4]
      simp [sI]
    · have := T.ap1
      rw [Pl.tn_tn] at this
      rw [show Pl.tn (th d h 1) 3 = Pl.tn (th d h 1) (2 + 1) from rfl, this, Pl.tn_tn, ← Pl.tn_mod4]
      simp [sI]
    · have := T.ap2
      rw [Pl.tn_tn] at this
      rw [show Pl.tn (th d h 2) 3 = Pl.tn (th d h 2) (2 + 1) from rfl, this, Pl.tn_tn, ← Pl.tn_mod4]
      simp [sI]
  · rintro (e | e | e) <;> rw [e]
    · rw [lnx_nx hd (l 0), n0, lnx_nx hd (l 1), n1, lnx_nx hd (l 2), n2]; simp [sO]
    · rw [lnx_nx hd (l 1), n1, lnx_nx hd (l 2), n2, lnx_nx hd (l 0), n0]; simp [sO]
    · rw [lnx_nx hd (l 2), n2, lnx_nx hd (l 0), n0, lnx_nx hd (l 1), n1]; simp [sO]
theorem sX_least (d : Pl.Dg) (h : Nat) : ∀ g, g ≤ 4 * d.n → (∃ u, 4 * d.n - g ≤ u ∧ u < 4 * d.n ∧ sC d h u = true) → sC d h (sX d h g) = true ∧ sX d h g < 4 * d.n ∧ ∀ u, 4 * d.n - g ≤ u → u < 4 * d.n → sC d h u = true → sX d h g ≤ u
  | 0, _, ⟨u, h1, h2, _⟩ => absurd h1 (by omega)
  | g + 1, hg, ⟨u, h1, h2, h3⟩ => by
    unfold sX
    by_cases hc : sC d h (4 * d.n - (g + 1)) = true
    · rw [if_pos hc]
      exact ⟨hc, by omega, fun u hu _ _ => hu⟩
    · rw [if_neg hc]
      have key : ∀ u, 4 * d.n - (g + 1) ≤ u → sC d h u = true → 4 * d.n - g ≤ u := fun u hu hs => by
        rcases Nat.lt_or_ge u (4 * d.n - g) with h4 | h4
        · have : u = 4 * d.n - (g + 1) := by omega
          rw [this] at hs
          exact absurd hs hc
        · exact h4
      obtain ⟨i1, i2, i3⟩ := sX_least d h g (by omega) ⟨u, key u h1 h3, h2, h3⟩
      exact ⟨i1, i2, fun u hu hl hs => i3 u (key u hu hs) hl hs⟩
/-- The place of the inverse slide. -/
theorem sX_v (hd : Pl.Wf d) (hh : h < 4 * d.n) (hi : is3 d h) : sX d h (4 * d.n) < 4 * d.n ∧ (sX d h (4 * d.n) = Pl.tn (th d h 0) 2 ∨ sX d h (4 * d.n) = Pl.tn (th d h 1) 2 ∨ sX d h (4 * d.n) = Pl.tn (th d h 2) 2) ∧
    sX d h (4 * d.n) ≤ Pl.tn (th d h 0) 2 ∧ sX d h (4 * d.n) ≤ Pl.tn (th d h 1) 2 ∧ sX d h (4 * d.n) ≤ Pl.tn (th d h 2) 2 := by
  have l : ∀ k, Pl.tn (th d h k) 2 < 4 * d.n := fun k => Pl.tn_lt (th_lt hd hh k)
  obtain ⟨i1, i2, i3⟩ := sX_least d h (4 * d.n) (Nat.le_refl _) ⟨_, by omega, l 0, (sC_iff hd hh hi (l 0)).2 (.inl rfl)⟩
  exact ⟨i2, (sC_iff hd hh hi i2).1 i1, i3 _ (by omega) (l 0) ((sC_iff hd hh hi (l 0)).2 (.inl rfl)), i3 _ (by omega) (l 1) ((sC_iff hd hh hi (l 1)).2 (.inr (.inl rfl))), i3 _ (by omega) (l 2) ((sC_iff hd hh hi (l 2)).2 (.inr (.inr rfl)))⟩
theorem isO_v (hd : Pl.Wf d) {o : Nat} (ho : o < 4 * d.n) : isO d o = (o % 2 == 1 && d.m o % 2 == 1) := by
  unfold isO ei eo
  split
  · rfl
  · rw [hd.inv o ho, Bool.and_comm]
theorem isU_v (hd : Pl.Wf d) {o : Nat} (ho : o < 4 * d.n) : isU d o = (o % 2 == 0 && d.m o % 2 == 0) := by
  unfold isU ei eo
  split
  · rfl
  · rw [hd.inv o ho, Bool.and_comm]
theorem tn_par (h : Nat) : Pl.tn h 2 % 2 = h % 2 ∧ Pl.tn h 3 % 2 = Pl.tn h 1 % 2 := by unfold Pl.tn; omega
theorem cntO3 (d : Pl.Dg) (h : Nat) : cntO d h 3 = (if isO d (th d h 0) then 1 else 0) + (if isO d (th d h 1) then 1 else 0) + (if isO d (th d h 2) then 1 else 0) := by
  rw [cntO_s, cntO_s, cntO_s]; simp [cntO]
theorem cntU3 (d : Pl.Dg) (h : Nat) : cntU d h 3 = (if isU d (th d h 0) then 1 else 0) + (if isU d (th d h 1) then 1 else 0) + (if isU d (th d h 2) then 1 else 0) := by
  rw [cntU_s, cntU_s, cntU_s]; simp [cntU]
/-- The new triangle, from the place of the inverse slide on. -/
theorem th_new (hd : Pl.Wf d) (hh : h < 4 * d.n) (hi : is3 d h) {x : Nat} (hx : x = Pl.tn (th d h 0) 2 ∨ x = Pl.tn (th d h 1) 2 ∨ x = Pl.tn (th d h 2) 2) :
    (th (sldD d h) x 0 = Pl.tn (th d h 0) 2 ∧ th (sldD d h) x 1 = Pl.tn (th d h 1) 2 ∧ th (sldD d h) x 2 = Pl.tn (th d h 2) 2) ∨ (th (sldD d h) x 0 = Pl.tn (th d h 1) 2 ∧ th (sldD d h) x 1 = Pl.tn (th d h 2) 2 ∧ th (sldD d h) x 2 = Pl.tn (th d h 0) 2) ∨
    (th (sldD d h) x 0 = Pl.tn (th d h 2) 2 ∧ th (sldD d h) x 1 = Pl.tn (th d h 0) 2 ∧ th (sldD d h) x 2 = Pl.tn (th d h 1) 2) := by
  obtain ⟨n0, n1, n2⟩ := nx_new hd hh hi
  have e0 : th (sldD d h) x 0 = x := rfl
  have e1 : th (sldD d h) x 1 = Pl.nx (sldD d h) x := rfl
  have e2 : th (sldD d h) x 2 = Pl.nx (sldD d h) (Pl.nx (sldD d h) x) := rfl
  rw [e0, e1, e2]
  rcases hx with e | e | e <;> rw [e]
  · exact .inl ⟨rfl, n0, by rw [n0, n1]⟩
  · exact .inr (.inl ⟨rfl, n1, by rw [n1, n2]⟩)
  · exact .inr (.inr ⟨rfl, n2, by rw [n2, n0]⟩)
theorem isT_new (hd : Pl.Valid d) (hh : h < 4 * d.n) (hi : isT d h) {x : Nat} (hx : x = Pl.tn (th d h 0) 2 ∨ x = Pl.tn (th d h 1) 2 ∨ x = Pl.tn (th d h 2) 2) : isT (sldD d h) x := by
  have hw := (Pl.Valid.iff.1 hd).1
  have h3 := hi.1
  have he := (Pl.Valid.iff.1 (sld_valid hd hh h3)).1
  obtain ⟨n0, n1, n2⟩ := nx_new hw hh h3
  have T0 := tri_at hw hh h3
  have T := tri_new hw hh h3
  have l : ∀ k, Pl.tn (th d h k) 2 < 4 * d.n := fun k => Pl.tn_lt (th_lt hw hh k)
  have l' : ∀ k, th d h k < 4 * d.n := fun k => th_lt hw hh k
  have q1 : ∀ z, Pl.tn (Pl.tn z 2) 1 % 2 = Pl.tn z 1 % 2 := fun z => by unfold Pl.tn; omega
  have m0 := T.ah0
  have m1 := T.ah1
  have m2 := T.ah2
  rw [← sld_m hw hh h3 _ (l 0)] at m0
  rw [← sld_m hw hh h3 _ (l 1)] at m1
  rw [← sld_m hw hh h3 _ (l 2)] at m2
  have o0 : isO (sldD d h) (Pl.tn (th d h 0) 2) = isO d (th d h 0) := by rw [isO_v he (l 0), isO_v hw (l' 0), m0, T0.ah0, (tn_par _).1, q1]
  have o1 : isO (sldD d h) (Pl.tn (th d h 1) 2) = isO d (th d h 1) := by rw [isO_v he (l 1), isO_v hw (l' 1), m1, T0.ah1, (tn_par _).1, q1]
  have o2 : isO (sldD d h) (Pl.tn (th d h 2) 2) = isO d (th d h 2) := by rw [isO_v he (l 2), isO_v hw (l' 2), m2, T0.ah2, (tn_par _).1, q1]
  have u0 : isU (sldD d h) (Pl.tn (th d h 0) 2) = isU d (th d h 0) := by rw [isU_v he (l 0), isU_v hw (l' 0), m0, T0.ah0, (tn_par _).1, q1]
  have u1 : isU (sldD d h) (Pl.tn (th d h 1) 2) = isU d (th d h 1) := by rw [isU_v he (l 1), isU_v hw (l' 1), m1, T0.ah1, (tn_par _).1, q1]
  have u2 : isU (sldD d h) (Pl.tn (th d h 2) 2) = isU d (th d h 2) := by rw [isU_v he (l 2), isU_v hw (l' 2), m2, T0.ah2, (tn_par _).1, q1]
  obtain ⟨⟨_, c1, c2, c3⟩, cO, cU⟩ := hi
  rw [cntO3] at cO
  rw [cntU3] at cU
  have e0 : th d h 0 = h := rfl
  have g1 : ∀ z, th (sldD d h) z 0 = z := fun _ => rfl
  unfold isT is3
  rw [cntO3, cntU3, g1]
  rcases th_new hw hh h3 hx with ⟨t0, t1, t2⟩ | ⟨t0, t1, t2⟩ | ⟨t0, t1, t2⟩
  all_goals
    rw [g1] at t0
    rw [t0] at t1 t2 ⊢
    rw [t1, t2, o0, o1, o2, u0, u1, u2]
    rw [Pl.tn_div, Pl.tn_div, Pl.tn_div, e0]
    rw [e0] at cO cU
  · refine ⟨⟨n2, c1, c2, c3⟩, cO, cU⟩
  · refine ⟨⟨n0, c2, fun e => c3 e.symm, fun e => c1 e.symm⟩, by omega, by omega⟩
  · refine ⟨⟨n1, fun e => c3 e.symm, c1, fun e => c2 e.symm⟩, by omega, by omega⟩
/-- The exchange is the same. -/
theorem sT_new (hd : Pl.Valid d) (hh : h < 4 * d.n) (hi : isT d h) {x : Nat} (hx : x = Pl.tn (th d h 0) 2 ∨ x = Pl.tn (th d h 1) 2 ∨ x = Pl.tn (th d h 2) 2) (y : Nat) : sT (sldD d h) x y = sT d h y := by
  have hw := (Pl.Valid.iff.1 hd).1
  have he := (Pl.Valid.iff.1 (sld_valid hd hh hi.1)).1
  have T := tri_new hw hh hi.1
  have hx2 : x < 4 * (sldD d h).n := by
    rcases hx with e | e | e <;> rw [e] <;> exact Pl.tn_lt (th_lt hw hh _)
  have T' := tri_at he hx2 (isT_new hd hh hi hx).1
  rcases th_new hw hh hi.1 hx with ⟨t0, t1, t2⟩ | ⟨t0, t1, t2⟩ | ⟨t0, t1, t2⟩ <;> rw [t0, t1, t2] at T'
  · exact T'.uniq T y
  · exact T'.uniq T.turn1 y
  · exact T'.uniq T.turn1.turn1 y
theorem getD_ext {l r : List Nat} (hl : l.length = r.length) (h : ∀ x, x < l.length → l.getD x 0 = r.getD x 0) : l = r := by
  refine List.ext_getElem hl (fun i h1 h2 => ?_)
  have := h i h1
  rw [List.getD_eq_getElem?_getD, List.getD_eq_getElem?_getD, List.getElem?_eq_getElem h1, List.getElem?_eq_getElem h2] at this
  exact this
/-- Sliding back leads back. -/
theorem sld_back (hd : Pl.Valid d) (hh : h < 4 * d.n) (hi : isT d h) {x : Nat} (hx : x = Pl.tn (th d h 0) 2 ∨ x = Pl.tn (th d h 1) 2 ∨ x = Pl.tn (th d h 2) 2) : sldD (sldD d h) x = d := by
  have hw := (Pl.Valid.iff.1 hd).1
  have he := (Pl.Valid.iff.1 (sld_valid hd hh hi.1)).1
  have J := sj_at hw hh hi.1
  have hx2 : x < 4 * (sldD d h).n := by
    rcases hx with e | e | e <;> rw [e] <;> exact Pl.tn_lt (th_lt hw hh _)
  have hT := isT_new hd hh hi hx
  have e : sF (sldD d h) x 3 = d.mt := by
    have l1 : (sF (sldD d h) x 3).length = 4 * d.n := sF_len he x 3
    refine getD_ext (by rw [l1, hw.len]) (fun y hy => ?_)
    rw [l1] at hy
    rw [sF_v he hx2 hT.1 y hy, getD_m (by rw [hw.len]; exact hy)]
    unfold Pl.cj
    rw [sT_new hd hh hi hx, sT_new hd hh hi hx, sld_m hw hh hi.1 _ (J.fl y hy)]
    unfold Pl.cj
    rw [J.ff, J.ff]
  show Pl.Dg.mk d.sg (sF (sldD d h) x 3) d.lp = d
  rw [e]
/-- .. and its own inverse is the slide that was made, at the least half-edge of its triangle. -/
theorem sX_back (hd : Pl.Valid d) (hh : h < 4 * d.n) (hi : isT d h) (h1 : h ≤ th d h 1) (h2 : h ≤ th d h 2) {x : Nat} (hx : x = Pl.tn (th d h 0) 2 ∨ x = Pl.tn (th d h 1) 2 ∨ x = Pl.tn (th d h 2) 2) : sX (sldD d h) x (4 * d.n) = h := by
  have hw := (Pl.Valid.iff.1 hd).1
  have he := (Pl.Valid.iff.1 (sld_valid hd hh hi.1)).1
  have hx2 : x < 4 * (sldD d h).n := by
    rcases hx with e | e | e <;> rw [e] <;> exact Pl.tn_lt (th_lt hw hh _)
  obtain ⟨_, v, v0, v1, v2⟩ := sX_v he hx2 (isT_new hd hh hi hx).1
  have a2 : ∀ z, Pl.tn (Pl.tn z 2) 2 = z := fun z => by rw [Pl.tn_tn, Pl.tn_four]
  have e0 : th d h 0 = h := rfl
  rw [sld_n] at v v0 v1 v2
  rcases th_new hw hh hi.1 hx with ⟨t0, t1, t2⟩ | ⟨t0, t1, t2⟩ | ⟨t0, t1, t2⟩ <;> rw [t0, t1, t2, a2, a2, a2, e0] at v <;> rw [t0, a2] at v0 <;> rw [t1, a2] at v1 <;> rw [t2, a2] at v2 <;> omega
end
end Go.Proofs.Ytobbepmlmbbamaa
end
