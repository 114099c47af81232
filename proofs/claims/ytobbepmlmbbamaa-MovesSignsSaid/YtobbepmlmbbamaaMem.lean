/-
  What memory holds, said as lists: a slice of numbers, a diagram; kept behind 'Below'. No program is named here.
-/
import Derived.Test.YtobbepmlmbbamaaDg
import Derived.WalkKit
import Derived.WalkSpells
import Derived.WalkLawsBesides
namespace Go.Proofs.Ytobbepmlmbbamaa
open Go.RowKit

theorem hide {p : Prop} (h : p) : Hid p := h

theorem ret_bool {a b : Bool} (h : a = b) : Ending.returned (.bool a) = Ending.returned (.bool b) := by rw [h]
theorem ret_int {k : IntKind} {a b : Int} (h : a = b) : Ending.returned (.int k a) = Ending.returned (.int k b) := by rw [h]

theorem block_of_add (a : Addr) (n : Nat) : (a.add n).block = a.block := by unfold Addr.add; split <;> rfl
theorem add_of_add (a : Addr) (i j : Nat) : (a.add i).add j = a.add (i + j) := by
  unfold Addr.add
  by_cases hi : i = 0 <;> by_cases hj : j = 0 <;> simp [hi, hj, Nat.add_assoc]
theorem add_zero' (a : Addr) : a.add 0 = a := rfl

theorem lt_of_cell {w : World} {p : Addr} {v : Value} (h : w.cell? p = some v) : p.block < w.heap.size := by
  rcases Nat.lt_or_ge p.block w.heap.size with h1 | h1
  · exact h1
  · unfold World.cell? at h
    rw [Array.getElem?_eq_none h1] at h
    cases h
theorem cell_below {w w' : World} {p : Addr} {v : Value} (h : w.cell? p = some v) (hb : Below w.heap.size w w') : w'.cell? p = some v :=
  (hb.cell (lt_of_cell h)).trans h

/-- The slice value '.slice A n _' reads as the cells 'xs' (a cell an element). -/
def RowAt (w : World) (A : Option Addr) (n : Nat) (xs : List Value) : Prop :=
  xs.length = n ∧ (0 < n → ∃ b o, A = some ⟨b, o, none⟩ ∧ ∀ (j : Nat) u, xs[j]? = some u → w.cell? ⟨b, o + j, none⟩ = some u)

theorem RowAt.nil (w : World) : RowAt w none 0 [] := ⟨rfl, fun h => absurd h (by omega)⟩
theorem RowAt.zero (w : World) (A : Option Addr) : RowAt w A 0 [] := ⟨rfl, fun h => absurd h (by omega)⟩
theorem RowAt.keep {w w' : World} {A : Option Addr} {n : Nat} {xs : List Value} (h : RowAt w A n xs) (hb : Below w.heap.size w w') : RowAt w' A n xs :=
  ⟨h.1, fun hn => let ⟨b, o, e, hc⟩ := h.2 hn; ⟨b, o, e, fun j u hu => cell_below (hc j u hu) hb⟩⟩
theorem RowAt.at_ {w : World} {A : Option Addr} {n k : Nat} {xs : List Value} (h : RowAt w A n xs) (hk : k < n) :
    ∃ b o, A = some ⟨b, o, none⟩ ∧ w.cell? ⟨b, o + k, none⟩ = some (xs[k]'(by have := h.1; omega)) := by
  obtain ⟨b, o, e, hc⟩ := h.2 (by omega)
  have := h.1
  exact ⟨b, o, e, hc k _ (List.getElem?_eq_getElem (by omega))⟩

/-- The same, the row's block known, with its elements' type. -/
def RowT (w : World) (t : TypeId) (A : Option Addr) (n : Nat) (xs : List Value) : Prop :=
  xs.length = n ∧ (0 < n → ∃ b o cs fr, A = some ⟨b, o, none⟩ ∧ w.heap[b]? = some (.cells cs t fr) ∧ ∀ (j : Nat) u, xs[j]? = some u → cs[o + j]? = some u)
theorem RowT.row {w : World} {t : TypeId} {A : Option Addr} {n : Nat} {xs : List Value} (h : RowT w t A n xs) : RowAt w A n xs :=
  ⟨h.1, fun hn => let ⟨b, o, cs, fr, e, hb, hc⟩ := h.2 hn; ⟨b, o, e, fun j u hu => by rw [cell_of_row w b _ cs t fr hb]; exact hc j u hu⟩⟩
theorem RowT.keep {w w' : World} {t : TypeId} {A : Option Addr} {n : Nat} {xs : List Value} (h : RowT w t A n xs) (hb : Below w.heap.size w w') : RowT w' t A n xs :=
  ⟨h.1, fun hn => let ⟨b, o, cs, fr, e, hg, hc⟩ := h.2 hn; ⟨b, o, cs, fr, e, (hb.block b (by
    rcases Nat.lt_or_ge b w.heap.size with h1 | h1
    · exact h1
    · rw [Array.getElem?_eq_none h1] at hg; cases hg)).trans hg, hc⟩⟩
/-- .. behind an append to a row of another type's. -/
theorem RowT.grown {w w' : World} {t t' : TypeId} {A : Option Addr} {n : Nat} {xs : List Value} {row : Option Nat} (h : RowT w t A n xs) (hg : w.grownBy w' row) (hr : ∀ g, row = some g → ∃ cs fr, w.heap[g]? = some (.cells cs t' fr)) (hne : t ≠ t') : RowT w' t A n xs :=
  ⟨h.1, fun hn => let ⟨b, o, cs, fr, e, hb, hc⟩ := h.2 hn; ⟨b, o, cs, fr, e, (hg.block b (by
    rcases Nat.lt_or_ge b w.heap.size with h1 | h1
    · exact h1
    · rw [Array.getElem?_eq_none h1] at hb; cases hb) (fun he => by
      obtain ⟨cs', fr', h3⟩ := hr b he.symm
      rw [hb] at h3
      injection h3 with h3
      injection h3 with _ h4
      exact hne h4)).trans hb, hc⟩⟩
theorem ownsRow_block {w : World} {base : Nat} {e : TypeId} {size : Nat} {v : Value} {n : Nat} {xs : List Value} (h : w.ownsRow base e size v n xs) : ∀ g, v.ownBlock = some g → ∃ cs fr, w.heap[g]? = some (.cells cs e fr) := by
  intro g hg
  rcases h.2 with ⟨rfl, _⟩ | ⟨g', cap, cur, rfl, _, h3, _⟩
  · simp [Value.ownBlock] at hg
  · simp [Value.ownBlock] at hg
    subst hg
    exact ⟨_, _, h3⟩

/-- A slice of numbers. -/
def IntsAt (w : World) (A : Option Addr) (n : Nat) (zs : List Int) : Prop := RowAt w A n (zs.map (.int .i64))
theorem IntsAt.keep {w w' : World} {A : Option Addr} {n : Nat} {zs : List Int} (h : IntsAt w A n zs) (hb : Below w.heap.size w w') : IntsAt w' A n zs := RowAt.keep h hb
theorem IntsAt.len {w : World} {A : Option Addr} {n : Nat} {zs : List Int} (h : IntsAt w A n zs) : zs.length = n := by have := h.1; simpa using this
theorem IntsAt.at_ {w : World} {A : Option Addr} {n k : Nat} {zs : List Int} (h : IntsAt w A n zs) (hk : k < n) :
    ∃ b o, A = some ⟨b, o, none⟩ ∧ w.cell? ⟨b, o + k, none⟩ = some (.int .i64 (zs.getD k 0)) := by
  obtain ⟨b, o, e, hc⟩ := RowAt.at_ h hk
  refine ⟨b, o, e, hc.trans ?_⟩
  have := h.len
  rw [List.getElem_map, List.getD_eq_getElem?_getD, List.getElem?_eq_getElem (by omega)]; rfl
/-- Mates, as numbers. -/
def nats (l : List Nat) : List Int := l.map (fun m : Nat => (m : Int))
/-- The two slices of a diagram. -/
structure DgAt (w : World) (A : Option Addr) (B : Option Addr) (d : Pl.Dg) : Prop where
  s : IntsAt w A d.n d.sg
  m : IntsAt w B (4 * d.n) (nats d.mt)
theorem DgAt.keep {w w' : World} {A B : Option Addr} {d : Pl.Dg} (h : DgAt w A B d) (hb : Below w.heap.size w w') : DgAt w' A B d := ⟨h.s.keep hb, h.m.keep hb⟩
theorem DgAt.sign {w : World} {A B : Option Addr} {d : Pl.Dg} (h : DgAt w A B d) {c : Nat} (hc : c < d.n) :
    ∃ b o, A = some ⟨b, o, none⟩ ∧ w.cell? ⟨b, o + c, none⟩ = some (.int .i64 (d.s c)) := h.s.at_ hc
theorem sign_at {w : World} {A : Option Addr} {d : Pl.Dg} (h : IntsAt w A d.n d.sg) {c : Nat} (hc : c < d.n) :
    ∃ b o, A = some ⟨b, o, none⟩ ∧ w.cell? ⟨b, o + c, none⟩ = some (.int .i64 (d.s c)) := h.at_ hc
theorem mate_at {w : World} {B : Option Addr} {d : Pl.Dg} (h : IntsAt w B (4 * d.n) (nats d.mt)) {k : Nat} (hk : k < 4 * d.n) :
    ∃ b o, B = some ⟨b, o, none⟩ ∧ w.cell? ⟨b, o + k, none⟩ = some (.int .i64 (d.m k : Nat)) := by
  obtain ⟨b, o, e, hc⟩ := h.at_ hk
  refine ⟨b, o, e, hc.trans ?_⟩
  have hl := h.len
  unfold nats at hl
  rw [List.length_map] at hl
  unfold nats Pl.Dg.m
  rw [List.getD_eq_getElem?_getD, List.getD_eq_getElem?_getD, List.getElem?_map, List.getElem?_eq_getElem (by omega)]; rfl
theorem DgAt.mate {w : World} {A B : Option Addr} {d : Pl.Dg} (h : DgAt w A B d) {k : Nat} (hk : k < 4 * d.n) :
    ∃ b o, B = some ⟨b, o, none⟩ ∧ w.cell? ⟨b, o + k, none⟩ = some (.int .i64 (d.m k : Nat)) := mate_at h.m hk
end Go.Proofs.Ytobbepmlmbbamaa
