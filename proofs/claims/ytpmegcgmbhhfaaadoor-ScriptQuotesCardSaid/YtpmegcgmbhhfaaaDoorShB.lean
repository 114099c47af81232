/-
  strings.Builder's methods at this program: the shelf's contracts, laid out of the pieces of another laying.
-/
import Derived.Test.YtpmegcgmbhhfaaaDoorShelf
import Derived.Test.YtpmegcgmbhhfaaaDoorMem
namespace Go.Proofs.YtpmegcgmbhhfaaaDoor
open Go.Shelf Go.RowKit

theorem l167 : Go.Proofs.Lays.n167 Tryd.prog Tryd.lays230_ren := { Tryd.lays230 with }
theorem l166 : Go.Proofs.Lays.n166 Tryd.prog Tryd.lays230_ren := { Tryd.lays230 with }

/-- A builder in block b that holds the bytes l; its numbers filled in. -/
def IsB (B b : Nat) (l : List UInt8) (w : World) : Prop := Lib.IsBuilderF 54 5 B b (Lib.byteCells l) w

theorem writeByte_any (B b : Nat) (l : List UInt8) (c : UInt8) (w : World) (h : IsB B b l w) (hlen : l.length + 1 ≤ 140737488355328) (hBw : B ≤ w.heap.size) :
    Calls Tryd.prog 29 #[.pointer (some ⟨b, 0, none⟩), .int .u8 c.toNat] w fun e w' => e = .returned .nilIface ∧ IsB B b (l ++ [c]) w' ∧ Below B w w' :=
  (Any.Builder_WriteByte_k l167 Tryd.Builder_Extra_230 B b (Lib.byteCells l) c.toNat w h (by simpa [Lib.byteCells_length] using hlen) hBw).mono fun e w' ⟨he, h1, h2, _⟩ =>
    ⟨he, .inr (by rw [show Lib.byteCells (l ++ [c]) = Lib.byteCells l ++ [.int .u8 c.toNat] from by simp [Lib.byteCells]]; exact h1), h2⟩

theorem writeString_any (B b : Nat) (l : List UInt8) (s : ByteArray) (w : World) (h : IsB B b l w) (hlen : l.length + s.size ≤ 140737488355328) (hBw : B ≤ w.heap.size) :
    Calls Tryd.prog 28 #[.pointer (some ⟨b, 0, none⟩), .string s] w fun e w' => e = .returned (.tuple #[.int .i64 s.size, .nilIface]) ∧ IsB B b (l ++ s.data.toList) w' ∧ Below B w w' :=
  (Any.Builder_WriteString_k l166 Tryd.Builder_Extra_230 B b (Lib.byteCells l) s w h (by simpa [Lib.byteCells_length] using hlen) hBw).mono fun e w' ⟨he, h1, h2, _⟩ =>
    ⟨he, .inr (by rw [show Lib.byteCells (l ++ s.data.toList) = Lib.byteCells l ++ Lib.strCells s from by simp [Lib.byteCells, Lib.strCells]]; exact h1), h2⟩

theorem string_any (B b : Nat) (l : List UInt8) (w : World) (h : IsB B b l w) (hBw : B ≤ w.heap.size) :
    Calls Tryd.prog 31 #[.pointer (some ⟨b, 0, none⟩)] w fun e w' => e = .returned (.string ⟨l.toArray⟩) ∧ IsB B b l w' ∧ Below B w w' :=
  Tryd.Builder_String_any_f B b l w h hBw

theorem isB_new (w : World) : IsB w.heap.size w.heap.size [] (w.alloc (.cells #[.pointer none, .slice none 0 0] 54)) := by
  rcases Lib.fresh_isBuilder 54 5 w with ⟨h1, v, h2, h3, h4⟩ | ⟨h1, v, h2, h3, h4⟩
  · exact .inl ⟨h1, v, h2, World.ownsRowF_of h3, h4⟩
  · exact .inr ⟨h1, v, h2, World.ownsRowF_of h3, h4⟩
theorem isB_drew {B b : Nat} {l : List UInt8} {w : World} (h : IsB B b l w) : IsB B b l w.drew := h
theorem isB_drewN {B b : Nat} {l : List UInt8} {w : World} (h : IsB B b l w) (n : Nat) : IsB B b l (w.drewN n) := h
theorem isB_lt {B b : Nat} {l : List UInt8} {w : World} (h : IsB B b l w) : b < w.heap.size := by
  have key : ∀ p, Lib.BuilderAtF 54 5 B b p (Lib.byteCells l) w → b < w.heap.size := by
    rintro p ⟨h1, v, h2, h3, h4⟩
    rcases Nat.lt_or_ge b w.heap.size with h | h
    · exact h
    · rw [Array.getElem?_eq_none h] at h2; cases h2
  rcases h with h | h
  · exact key _ h
  · exact key _ h
theorem isB_more {B b : Nat} {l : List UInt8} {w w' : World} (h : IsB B b l w) (hb : Below w.heap.size w w') : IsB B b l w' := by
  have key : ∀ p, Lib.BuilderAtF 54 5 B b p (Lib.byteCells l) w → Lib.BuilderAtF 54 5 B b p (Lib.byteCells l) w' := by
    rintro p ⟨h1, v, h2, h3, h4⟩
    have hlt : b < w.heap.size := by
      rcases Nat.lt_or_ge b w.heap.size with h | h
      · exact h
      · rw [Array.getElem?_eq_none h] at h2; cases h2
    refine ⟨h1, v, (hb.block b hlt).trans h2, ⟨h3.1, ?_⟩, h4⟩
    rcases h3.2 with hz | ⟨g, cap, cur, fz, r1, r2, r3, r4⟩
    · exact .inl hz
    · have hlt2 : g < w.heap.size := by
        rcases Nat.lt_or_ge g w.heap.size with h | h
        · exact h
        · rw [Array.getElem?_eq_none h] at r3; cases r3
      exact .inr ⟨g, cap, cur, fz, r1, r2, (hb.block g hlt2).trans r3, r4⟩
  rcases h with h | h
  · exact .inl (key _ h)
  · exact .inr (key _ h)
end Go.Proofs.YtpmegcgmbhhfaaaDoor
