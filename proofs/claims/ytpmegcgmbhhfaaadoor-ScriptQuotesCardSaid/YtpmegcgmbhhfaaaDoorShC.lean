/-
  strings.Builder's writing methods, with a finer frame: a row that bears a mark behind its cells (the row of a converted string) stands as it stood.
-/
import Derived.Test.YtpmegcgmbhhfaaaDoorShB
import Derived.Lib.FrozenHead2
namespace Go.Proofs.YtpmegcgmbhhfaaaDoor
open Go.Shelf Go.RowKit

/-- A block that is no row of bytes, or whose mark lies behind its cells: the row that '[]byte(s)' lays is such a one; a row that a value owns is not. -/
def Marked (w : World) (k : Nat) : Prop := ∃ o, w.heap[k]? = some o ∧ ∀ c fr, o = .cells c 5 fr → c.size < fr.2
/-- Every marked block but b stands as it stood. -/
def KeptM (b : Nat) (w w' : World) : Prop := ∀ k, k ≠ b → Marked w k → w'.heap[k]? = w.heap[k]?
theorem Marked.lt {w : World} {k : Nat} (h : Marked w k) : k < w.heap.size := by
  obtain ⟨o, h, _⟩ := h
  rcases Nat.lt_or_ge k w.heap.size with h1 | h1
  · exact h1
  · rw [Array.getElem?_eq_none h1] at h; cases h
theorem Marked.keep {w w' : World} {k : Nat} (h : Marked w k) (he : w'.heap[k]? = w.heap[k]?) : Marked w' k := by
  obtain ⟨o, h1, h2⟩ := h
  exact ⟨o, he.trans h1, h2⟩
theorem KeptM.refl (b : Nat) (w : World) : KeptM b w w := fun _ _ _ => rfl
theorem KeptM.trans {b : Nat} {w w1 w2 : World} (h : KeptM b w w1) (h2 : KeptM b w1 w2) : KeptM b w w2 := fun k hk hm => by
  have h3 := h k hk hm
  rw [h2 k hk (hm.keep h3), h3]
theorem KeptM.alloc {b : Nat} {w w1 : World} (h : KeptM b w w1) (o : Obj) : KeptM b w (w1.alloc o) :=
  h.trans fun _ _ hm => Below.heap_alloc _ _ _ hm.lt
theorem KeptM.setCell {b i : Nat} {w w1 : World} (h : KeptM b w w1) (v : Value) : KeptM b w (w1.setCell ⟨b, i, none⟩ v) :=
  h.trans fun _ hk _ => Below.heap_setCell _ _ _ _ hk
theorem KeptM.below {b : Nat} {w w1 : World} (hb : Below w.heap.size w w1) : KeptM b w w1 := fun k _ hm => hb.block k hm.lt
theorem KeptM.grown {b base n : Nat} {v : Value} {xs : List Value} {w w1 w2 : World} (h : KeptM b w w1) (hg : w1.grownBy w2 v.ownBlock) (hown : w1.ownsRowF base 5 1 v n xs) : KeptM b w w2 :=
  h.trans fun k _ hm => hg.block k hm.lt fun he => by
    obtain ⟨o, h1, h2⟩ := hm
    rcases hown.2 with ⟨rfl, _⟩ | ⟨g, cap, cur, fz, rfl, _, h3, h4, h5, _, h7, _⟩
    · simp [Value.ownBlock] at he
    · simp [Value.ownBlock] at he
      subst he
      rw [h1] at h3
      injection h3 with h3
      have := h2 _ _ h3
      omega

theorem l240 : Go.Proofs.Lays.n240 Tryd.prog Tryd.lays230_ren := { Tryd.lays230 with }

theorem copyCheck_m (B b : Nat) (bs : List Value) (w : World) (h : Lib.IsBuilderF 54 5 B b bs w) :
    Calls Tryd.prog 48 #[.pointer (some ⟨b, 0, none⟩)] w fun e w' => e = .returned (.tuple #[]) ∧ (Lib.BuilderAtF 54 5 B b (.pointer (some ⟨b, 0, none⟩)) bs w' ∧ Below B w w' ∧ KeptM b w w') := by
  rcases h with h | h
  · refine (Any.Builder_copyCheck_fresh l240 Tryd.Builder_Extra_230.toX72 b w h.cell0 h.shape h.frozen0).mono ?_
    rintro e w' ⟨rfl, rfl⟩
    exact ⟨rfl, h.used _, (Below.refl B w).setCell (p := ⟨b, 0, none⟩) h.1 _, (KeptM.refl _ _).setCell _⟩
  · refine (Any.Builder_copyCheck_used l240 Tryd.Builder_Extra_230.toX72 b w h.cell0).mono ?_
    rintro e w' ⟨rfl, rfl⟩
    exact ⟨rfl, h, Below.refl B _, KeptM.refl _ _⟩

set_option maxHeartbeats 2000000 in
set_option maxRecDepth 100000 in
theorem writeByte_m (B b : Nat) (l : List UInt8) (c : UInt8) (w : World) (h : IsB B b l w) (hlen : l.length + 1 ≤ 140737488355328) (hBw : B ≤ w.heap.size) :
    Calls Tryd.prog 29 #[.pointer (some ⟨b, 0, none⟩), .int .u8 c.toNat] w fun e w' => e = .returned .nilIface ∧ IsB B b (l ++ [c]) w' ∧ Below B w w' ∧ KeptM b w w' := by
  obtain ⟨i0, hi, hz0, hz1, hz2⟩ := info_parts Tryd.Builder_Extra_230.infoByte
  have hlen' : (Lib.byteCells l).length + 1 ≤ 140737488355328 := by rw [Lib.byteCells_length]; exact hlen
  go_enter Tryd.func29, Tryd.ntmps29
  go_wp2_with (go_at_call 48; refine (copyCheck_m B b (Lib.byteCells l) _ h).mono ?_)
  rintro e w1 ⟨rfl, h1, hb1, hk1⟩
  obtain ⟨hB, v, hbk, hown, hne⟩ := h1
  have c0 : w1.cell? ⟨b, 0, none⟩ = some (.pointer (some ⟨b, 0, none⟩)) := by rw [Lib.cell_of_heap hbk]; rfl
  have c1 : w1.cell? ⟨b, 1, none⟩ = some v := by rw [Lib.cell_of_heap hbk]; rfl
  go_wp2_with (at_builtin; refine wpList_append_ownF _ rfl _ _ 52 rfl B 5 i0 (.int .u8 0) 1 1 Tryd.underlying52 hi hz0 hz1 hz2 rfl (by decide) _ _ _ rfl (hown.alloc _) ⟨w1.heap.size, 0, none⟩ 1 1 [.int .u8 c.toNat] rfl rfl ?c1 ?c2 ?c3 ?c4 ?c5 ?_)
  case c1 =>
    intro j u hj
    match j, hj with
    | 0, hj => simp at hj; subst hj; simp [Addr.add]
  case c2 => intro u hu; simp at hu; subst hu; rfl
  case c3 => unfold maxLen; omega
  case c4 => omega
  case c5 => have := hb1.size; simp; omega
  intro v' w2 hown' hgrow _
  have hlt : b < w1.heap.size := by
    rcases Nat.lt_or_ge b w1.heap.size with h' | h'
    · exact h'
    · simp [Array.getElem?_eq_none h'] at hbk
  have hb2 : w2.heap[b]? = some (.cells #[.pointer (some ⟨b, 0, none⟩), v] 54 (0, 0)) := by
    rw [hgrow.block b (by simp; omega) (fun e => hne e.symm), Lib.alloc_old w1 _ b hlt]
    exact hbk
  have d0 : w2.cell? ⟨b, 0, none⟩ = some (.pointer (some ⟨b, 0, none⟩)) := by rw [Lib.cell_of_heap hb2]; rfl
  have d1 : w2.cell? ⟨b, 1, none⟩ = some v := by rw [Lib.cell_of_heap hb2]; rfl
  have f1 : w2.frozen? ⟨b, 1, none⟩ = false := Lib.frozen_of_heap hb2 1
  obtain ⟨g, cap, rfl⟩ : ∃ g cap, v' = .slice (some ⟨g, 0, none⟩) ((Lib.byteCells l).length + 1) cap := by
    rcases hown'.2 with ⟨_, h0⟩ | ⟨g, cap, cur, fz, hv, _⟩
    · omega
    · exact ⟨g, cap, hv⟩
  have HG := hide hgrow
  have HO := hide hown'
  clear hgrow hown'
  go_wp2
  go_ret
  refine ⟨rfl, .inr ?_, ?_, ((hk1.alloc _).grown HG.out (hown.alloc _)).setCell _⟩
  · refine Lib.BuilderAtF.put (T := 54) (e := 5) hB hb2 (bs' := Lib.byteCells (l ++ [c])) ?_ (by decide)
    rw [show Lib.byteCells (l ++ [c]) = Lib.byteCells l ++ [.int .u8 c.toNat] from by simp [Lib.byteCells]]
    simpa using HO.out
  · exact ((hb1.alloc (by have := hb1.size; omega) _).grown HG.out (by have := hb1.size; simp; omega) (fun k hk => (hown.lt k hk).1)).setCell (p := ⟨b, 1, none⟩) hB _

set_option maxHeartbeats 2000000 in
set_option maxRecDepth 100000 in
theorem writeString_m (B b : Nat) (l : List UInt8) (s : ByteArray) (w : World) (h : IsB B b l w) (hlen : l.length + s.size ≤ 140737488355328) (hBw : B ≤ w.heap.size) :
    Calls Tryd.prog 28 #[.pointer (some ⟨b, 0, none⟩), .string s] w fun e w' => e = .returned (.tuple #[.int .i64 s.size, .nilIface]) ∧ IsB B b (l ++ s.data.toList) w' ∧ Below B w w' ∧ KeptM b w w' := by
  obtain ⟨i0, hi, hz0, hz1, hz2⟩ := info_parts Tryd.Builder_Extra_230.infoByte
  have hlen' : (Lib.byteCells l).length + s.size ≤ 140737488355328 := by rw [Lib.byteCells_length]; exact hlen
  go_enter Tryd.func28, Tryd.ntmps28
  go_wp2_with (go_at_call 48; refine (copyCheck_m B b (Lib.byteCells l) _ h).mono ?_)
  rintro e w1 ⟨rfl, h1, hb1, hk1⟩
  obtain ⟨hB, v, hbk, hown, hne⟩ := h1
  have c0 : w1.cell? ⟨b, 0, none⟩ = some (.pointer (some ⟨b, 0, none⟩)) := by rw [Lib.cell_of_heap hbk]; rfl
  have c1 : w1.cell? ⟨b, 1, none⟩ = some v := by rw [Lib.cell_of_heap hbk]; rfl
  go_wp2_with (at_builtin; refine Lib.wpList_append_own_stringF _ rfl _ _ 52 9 rfl B 5 i0 Tryd.underlying52 Tryd.underlying9 hi hz0 hz1 hz2 _ _ _ rfl hown s rfl ?c3 ?c4 ?c5 ?_)
  case c3 => unfold maxLen; omega
  case c4 => omega
  case c5 => have := hb1.size; omega
  intro v' w2 hown' hgrow _
  have hlt : b < w1.heap.size := by
    rcases Nat.lt_or_ge b w1.heap.size with h' | h'
    · exact h'
    · simp [Array.getElem?_eq_none h'] at hbk
  have hb2 : w2.heap[b]? = some (.cells #[.pointer (some ⟨b, 0, none⟩), v] 54 (0, 0)) := by
    rw [hgrow.block b hlt (fun e => hne e.symm)]
    exact hbk
  have d0 : w2.cell? ⟨b, 0, none⟩ = some (.pointer (some ⟨b, 0, none⟩)) := by rw [Lib.cell_of_heap hb2]; rfl
  have d1 : w2.cell? ⟨b, 1, none⟩ = some v := by rw [Lib.cell_of_heap hb2]; rfl
  have f1 : w2.frozen? ⟨b, 1, none⟩ = false := Lib.frozen_of_heap hb2 1
  obtain ⟨ao, n', cap, rfl⟩ : ∃ ao n' cap, v' = .slice ao n' cap := by
    rcases hown'.2 with ⟨hv, _⟩ | ⟨g, cap, cur, fz, hv, _⟩
    · exact ⟨_, _, _, hv⟩
    · exact ⟨_, _, _, hv⟩
  have HG := hide hgrow
  have HO := hide hown'
  clear hgrow hown'
  go_wp2
  go_ret2
  refine ⟨rfl, .inr ?_, ?_, (hk1.grown HG.out hown).setCell _⟩
  · refine Lib.BuilderAtF.put (T := 54) (e := 5) hB hb2 (bs' := Lib.byteCells (l ++ s.data.toList)) ?_ (by decide)
    rw [show Lib.byteCells (l ++ s.data.toList) = Lib.byteCells l ++ Lib.strCells s from by simp [Lib.byteCells, Lib.strCells]]
    simpa [Lib.strCells_length] using HO.out
  · exact (hb1.grown HG.out (by have := hb1.size; omega) (fun k hk => (hown.lt k hk).1)).setCell (p := ⟨b, 1, none⟩) hB _
end Go.Proofs.YtpmegcgmbhhfaaaDoor
