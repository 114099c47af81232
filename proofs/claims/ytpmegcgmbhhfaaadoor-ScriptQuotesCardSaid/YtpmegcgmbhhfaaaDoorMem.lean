/-
  What memory holds, said as lists: a slice of strings, of bytes, of commands; kept behind 'Below'. No program is named here.
-/
import Derived.WalkKit
import Derived.WalkSpells
import Derived.WalkLawsBesides
namespace Go.Proofs.YtpmegcgmbhhfaaaDoor
open Go.RowKit

theorem hide {p : Prop} (h : p) : Hid p := h

theorem ret_bool {a b : Bool} (h : a = b) : Ending.returned (.bool a) = Ending.returned (.bool b) := by rw [h]
theorem ret_int {k : IntKind} {a b : Int} (h : a = b) : Ending.returned (.int k a) = Ending.returned (.int k b) := by rw [h]

theorem block_of_add (a : Addr) (n : Nat) : (a.add n).block = a.block := by unfold Addr.add; split <;> rfl
theorem add_of_add (a : Addr) (i j : Nat) : (a.add i).add j = a.add (i + j) := by
  unfold Addr.add
  by_cases hi : i = 0 <;> by_cases hj : j = 0 <;> simp [hi, hj, Nat.add_assoc]
theorem add_zero' (a : Addr) : a.add 0 = a := rfl

theorem lt_of_cell {w : World} {p : Addr} {v : Value} (h : w.cell? p = some v) : p.block < w.heap.size := by
  rcases Nat.lt_or_ge p.block w.heap.size with h1 | h1
  · exact h1
  · unfold World.cell? at h
    rw [Array.getElem?_eq_none h1] at h
    cases h
theorem cell_below {w w' : World} {p : Addr} {v : Value} (h : w.cell? p = some v) (hb : Below w.heap.size w w') : w'.cell? p = some v :=
  (hb.cell (lt_of_cell h)).trans h

/-- The slice value '.slice A n _' reads as the cells 'xs' (a cell an element). -/
def RowAt (w : World) (A : Option Addr) (n : Nat) (xs : List Value) : Prop :=
  xs.length = n ∧ (0 < n → ∃ b o, A = some ⟨b, o, none⟩ ∧ ∀ (j : Nat) u, xs[j]? = some u → w.cell? ⟨b, o + j, none⟩ = some u)

theorem RowAt.nil (w : World) : RowAt w none 0 [] := ⟨rfl, fun h => absurd h (by omega)⟩
theorem RowAt.zero (w : World) (A : Option Addr) : RowAt w A 0 [] := ⟨rfl, fun h => absurd h (by omega)⟩
theorem RowAt.keep {w w' : World} {A : Option Addr} {n : Nat} {xs : List Value} (h : RowAt w A n xs) (hb : Below w.heap.size w w') : RowAt w' A n xs :=
  ⟨h.1, fun hn => let ⟨b, o, e, hc⟩ := h.2 hn; ⟨b, o, e, fun j u hu => cell_below (hc j u hu) hb⟩⟩
theorem RowAt.at_ {w : World} {A : Option Addr} {n k : Nat} {xs : List Value} (h : RowAt w A n xs) (hk : k < n) :
    ∃ b o, A = some ⟨b, o, none⟩ ∧ w.cell? ⟨b, o + k, none⟩ = some (xs[k]'(by have := h.1; omega)) := by
  obtain ⟨b, o, e, hc⟩ := h.2 (by omega)
  have := h.1
  exact ⟨b, o, e, hc k _ (List.getElem?_eq_getElem (by omega))⟩

/-- The same, the row's block known, with its elements' type. -/
def RowT (w : World) (t : TypeId) (A : Option Addr) (n : Nat) (xs : List Value) : Prop :=
  xs.length = n ∧ (0 < n → ∃ b o cs fr, A = some ⟨b, o, none⟩ ∧ w.heap[b]? = some (.cells cs t fr) ∧ ∀ (j : Nat) u, xs[j]? = some u → cs[o + j]? = some u)
theorem RowT.row {w : World} {t : TypeId} {A : Option Addr} {n : Nat} {xs : List Value} (h : RowT w t A n xs) : RowAt w A n xs :=
  ⟨h.1, fun hn => let ⟨b, o, cs, fr, e, hb, hc⟩ := h.2 hn; ⟨b, o, e, fun j u hu => by rw [cell_of_row w b _ cs t fr hb]; exact hc j u hu⟩⟩
theorem RowT.keep {w w' : World} {t : TypeId} {A : Option Addr} {n : Nat} {xs : List Value} (h : RowT w t A n xs) (hb : Below w.heap.size w w') : RowT w' t A n xs :=
  ⟨h.1, fun hn => let ⟨b, o, cs, fr, e, hg, hc⟩ := h.2 hn; ⟨b, o, cs, fr, e, (hb.block b (by
    rcases Nat.lt_or_ge b w.heap.size with h1 | h1
    · exact h1
    · rw [Array.getElem?_eq_none h1] at hg; cases hg)).trans hg, hc⟩⟩
/-- .. behind an append to a row of another type's. -/
theorem RowT.grown {w w' : World} {t t' : TypeId} {A : Option Addr} {n : Nat} {xs : List Value} {row : Option Nat} (h : RowT w t A n xs) (hg : w.grownBy w' row) (hr : ∀ g, row = some g → ∃ cs fr, w.heap[g]? = some (.cells cs t' fr)) (hne : t ≠ t') : RowT w' t A n xs :=
  ⟨h.1, fun hn => let ⟨b, o, cs, fr, e, hb, hc⟩ := h.2 hn; ⟨b, o, cs, fr, e, (hg.block b (by
    rcases Nat.lt_or_ge b w.heap.size with h1 | h1
    · exact h1
    · rw [Array.getElem?_eq_none h1] at hb; cases hb) (fun he => by
      obtain ⟨cs', fr', h3⟩ := hr b he.symm
      rw [hb] at h3
      injection h3 with h3
      injection h3 with _ h4
      exact hne h4)).trans hb, hc⟩⟩
theorem ownsRow_block {w : World} {base : Nat} {e : TypeId} {size : Nat} {v : Value} {n : Nat} {xs : List Value} (h : w.ownsRow base e size v n xs) : ∀ g, v.ownBlock = some g → ∃ cs fr, w.heap[g]? = some (.cells cs e fr) := by
  intro g hg
  rcases h.2 with ⟨rfl, _⟩ | ⟨g', cap, cur, rfl, _, h3, _⟩
  · simp [Value.ownBlock] at hg
  · simp [Value.ownBlock] at hg
    subst hg
    exact ⟨_, _, h3⟩

/-- A slice of strings. -/
def StrsAt (w : World) (A : Option Addr) (n : Nat) (ss : List ByteArray) : Prop := RowAt w A n (ss.map .string)
theorem StrsAt.keep {w w' : World} {A : Option Addr} {n : Nat} {ss : List ByteArray} (h : StrsAt w A n ss) (hb : Below w.heap.size w w') : StrsAt w' A n ss := RowAt.keep h hb
theorem StrsAt.len {w : World} {A : Option Addr} {n : Nat} {ss : List ByteArray} (h : StrsAt w A n ss) : ss.length = n := by have := h.1; simpa using this
theorem StrsAt.at_ {w : World} {A : Option Addr} {n k : Nat} {ss : List ByteArray} (h : StrsAt w A n ss) (hk : k < n) :
    ∃ b o, A = some ⟨b, o, none⟩ ∧ w.cell? ⟨b, o + k, none⟩ = some (.string (ss[k]'(by have := h.len; omega))) := by
  obtain ⟨b, o, e, hc⟩ := RowAt.at_ h hk
  exact ⟨b, o, e, by simpa using hc⟩

/-- A command: its word and its arguments. -/
structure Cmd where
  word : ByteArray
  args : List ByteArray

/-- A slice of commands (two cells each). -/
def CmdsAt (w : World) (A : Option Addr) (n : Nat) (cs : List Cmd) : Prop :=
  cs.length = n ∧ (0 < n → ∃ b o, A = some ⟨b, o, none⟩ ∧ ∀ (j : Nat) c, cs[j]? = some c → w.cell? ⟨b, o + j * 2, none⟩ = some (.string c.word) ∧
    ∃ (B : Option Addr) (m cp : Nat), w.cell? ⟨b, o + j * 2 + 1, none⟩ = some (.slice B m cp) ∧ m ≤ maxLen ∧ StrsAt w B m c.args)
theorem CmdsAt.len {w : World} {A : Option Addr} {n : Nat} {cs : List Cmd} (h : CmdsAt w A n cs) : cs.length = n := h.1
theorem CmdsAt.keep {w w' : World} {A : Option Addr} {n : Nat} {cs : List Cmd} (h : CmdsAt w A n cs) (hb : Below w.heap.size w w') : CmdsAt w' A n cs :=
  ⟨h.1, fun hn => let ⟨b, o, e, hc⟩ := h.2 hn; ⟨b, o, e, fun j c hj => let ⟨h1, B, m, cp, h2, h3, h4⟩ := hc j c hj; ⟨cell_below h1 hb, B, m, cp, cell_below h2 hb, h3, h4.keep hb⟩⟩⟩
theorem CmdsAt.at_ {w : World} {A : Option Addr} {n k : Nat} {cs : List Cmd} (h : CmdsAt w A n cs) (hk : k < n) :
    ∃ (b o : Nat) (B : Option Addr) (m cp : Nat), A = some ⟨b, o, none⟩ ∧ w.cell? ⟨b, o + k * 2, none⟩ = some (.string (cs[k]'(by have := h.len; omega)).word) ∧
      w.cell? ⟨b, o + k * 2 + 1, none⟩ = some (.slice B m cp) ∧ m ≤ maxLen ∧ StrsAt w B m (cs[k]'(by have := h.len; omega)).args := by
  obtain ⟨b, o, e, hc⟩ := h.2 (by omega)
  have := h.1
  obtain ⟨h1, B, m, cp, h2, h3, h4⟩ := hc k _ (List.getElem?_eq_getElem (by omega))
  exact ⟨b, o, B, m, cp, e, h1, h2, h3, h4⟩

end Go.Proofs.YtpmegcgmbhhfaaaDoor
