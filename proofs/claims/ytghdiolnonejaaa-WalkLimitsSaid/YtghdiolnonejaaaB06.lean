/-
  The texts Q, Row, Grow, Wd, We, Wf in one.
-/
import Derived.Test.YtghdiolnonejaaaB05
import Derived.Laws.AppendOwn
import Derived.Test.YtghdiolnonejaaaRows
import Derived.Test.YtghdiolnonejaaaB01
import Derived.Laws.MakeOwn
import Derived.Laws.Rows
import Derived.Laws.OwnMore
import Derived.Shelf.Spec.SlicesGrow
import Derived.Deep.LoopGhost
import Derived.Deep.RegionWith
import Derived.Deep.RegionHeld3
import Derived.Deep.DrawnRows
set_option linter.unusedVariables false
set_option linter.unusedSimpArgs false

section
namespace Go.Proofs.Ytghdiolnonejaaa
open Go Go.RowKit
/-- The slice value v, of n one-cell elements of type e, owns the cells xs; its row begins somewhere in a block from base on. -/
def OwnT (w : World) (base : Nat) (e : TypeId) (v : Value) (n : Nat) (xs : List Value) : Prop :=
  xs.length = n ∧ ∃ g off cap cur, v = .slice (some ⟨g, off, none⟩) n cap ∧ base ≤ g ∧ w.heap[g]? = some (.cells cur e (0, 0)) ∧ n ≤ cap ∧ cap ≤ maxLen ∧ off + cap ≤ cur.size ∧ (cur.toList.drop off).take n = xs
theorem lt_of_heap {w : World} {g : Nat} {o : Obj} (h : w.heap[g]? = some o) : g < w.heap.size := by
  rcases Nat.lt_or_ge g w.heap.size with h1 | h1
  · exact h1
  · rw [Array.getElem?_eq_none h1] at h; cases h
theorem OwnT.keep {w w' : World} {base : Nat} {e : TypeId} {v : Value} {n : Nat} {xs : List Value} (h : OwnT w base e v n xs) (hb : ∀ g, base ≤ g → g < w.heap.size → v.ownBlock = some g → w'.heap[g]? = w.heap[g]?) : OwnT w' base e v n xs := by
  obtain ⟨h0, g, off, cap, cur, rfl, h1, h2, h3⟩ := h
  exact ⟨h0, g, off, cap, cur, rfl, h1, (hb g h1 (lt_of_heap h2) rfl).trans h2, h3⟩
theorem OwnT.below {w w' : World} {base : Nat} {e : TypeId} {v : Value} {n : Nat} {xs : List Value} (h : OwnT w base e v n xs) (hb : Below w.heap.size w w') : OwnT w' base e v n xs :=
  h.keep fun g _ h2 _ => hb.block g h2
theorem OwnT.cells {w : World} {base : Nat} {e : TypeId} {v : Value} {n : Nat} {xs : List Value} (h : OwnT w base e v n xs) : ∃ g off cap, v = .slice (some ⟨g, off, none⟩) n cap ∧ base ≤ g ∧ g < w.heap.size ∧ n ≤ cap ∧ cap ≤ maxLen ∧ ∀ (j : Nat) u, xs[j]? = some u → w.cell? ⟨g, off + j, none⟩ = some u := by
  obtain ⟨h0, g, off, cap, cur, rfl, h1, h2, h3, h4, h5, h6⟩ := h
  refine ⟨g, off, cap, rfl, h1, lt_of_heap h2, h3, h4, fun j u hu => ?_⟩
  rw [cell_of_row w g _ cur e (0, 0) h2]
  rw [← h6, List.getElem?_take] at hu
  split at hu
  · rw [List.getElem?_drop] at hu
    rw [← Array.getElem?_toList]; exact hu
  · cases hu
/-- Behind 'v = v[1:]'. -/
theorem OwnT.tail0 {w : World} {base : Nat} {e : TypeId} {g off n cap : Nat} {x : Value} {xs : List Value} (h : OwnT w base e (.slice (some ⟨g, off, none⟩) (n + 1) cap) (n + 1) (x :: xs)) (hc : cap = 1) : OwnT w base e (.slice (some ⟨g, off, none⟩) n (cap - 1)) n xs := by
  obtain ⟨h0, g', off', cap', cur, e1, h1, h2, h3, h4, h5, h6⟩ := h
  injection e1 with e1 _ e2
  injection e1 with e1
  injection e1 with e3 e4
  subst e2; subst e3; subst e4
  have hl : xs.length = n := by simpa using h0
  obtain rfl : n = 0 := by omega
  exact ⟨hl, g, off, cap - 1, cur, rfl, h1, h2, by omega, by omega, by omega, by rw [List.take_zero]; exact (List.eq_nil_of_length_eq_zero hl).symm⟩
theorem OwnT.tail {w : World} {base : Nat} {e : TypeId} {g off n cap : Nat} {x : Value} {xs : List Value} (h : OwnT w base e (.slice (some ⟨g, off, none⟩) (n + 1) cap) (n + 1) (x :: xs)) : OwnT w base e (.slice (some ⟨g, off + 1, none⟩) n (cap - 1)) n xs := by
  obtain ⟨h0, g', off', cap', cur, e1, h1, h2, h3, h4, h5, h6⟩ := h
  injection e1 with e1 _ e2
  injection e1 with e1
  injection e1 with e3 e4
  subst e2; subst e3; subst e4
  have hl : xs.length = n := by simpa using h0
  refine ⟨hl, g, off + 1, cap - 1, cur, rfl, h1, h2, by omega, by omega, by omega, ?_⟩
  have e5 : cur.toList.drop off = (cur.toList.drop off).head?.getD x :: cur.toList.drop (off + 1) := by
    have : cur.toList.drop off ≠ [] := by
      intro e; rw [e] at h6; simp at h6
    rw [List.drop_eq_getElem_cons (by simp; omega)]
    simp
  rw [e5, List.take_succ_cons] at h6
  injection h6
section
variable {P : Program} (w : World)
theorem run_append_tail (base : Nat) (t ty e : TypeId) (i : TypeInfo) (z : Value) (bytes : Nat) (ht : P.underlying t = some (.slice e)) (hi : P.info? e = some i) (hz : i.zero = some z)
    (hsize : i.size = 1) (hby : i.bytes = bytes) (hzs : z.cells.size = 1)
    (v : Value) (n : Nat) (xs : List Value) (hown : OwnT w base e v n xs)
    (a : Addr) (c : Nat) (x : Value) (hnews : w.cell? (a.add 0) = some x) (h1 : x.oneCell' = true)
    (h63 : n + 1 ≤ maxLen) (hbytes : (n + 1) * bytes ≤ 140737488355328) (hbase : base ≤ w.heap.size) :
    ∃ v' w', (Builtin.append_ #[t, t] ty #[v, .slice (some a) 1 c]).run P w = .ok v' w' ∧ OwnT w' base e v' (n + 1) (xs ++ [x]) ∧ w.grownBy w' v.ownBlock := by
  subst hby
  have hsmall : n + 1 ≤ 9223372036854775807 := by simp only [maxLen] at h63; omega
  have hlen : (xs ++ [x]).length = n + 1 := by rw [List.length_append, hown.1]; rfl
  have hn1 : ∀ (j : Nat) u, [x][j]? = some u → w.cell? (a.add j) = some u := by
    intro j u hu
    match j, hu with
    | 0, hu => simp at hu; subst hu; exact hnews
  obtain ⟨h0, g, off, cap, cur, rfl, hbg, hg, hnc, hcm, hcs, htake⟩ := hown
  by_cases hroom : n + 1 ≤ cap
  · have hf := run_firstCells_some (P := P) w i.size 1 a 1 c [x] (by rw [hsize]; rfl) hn1
    have hst := run_storeCells_at P g (off + n) e [x] 0 cur w hg (by simp; omega) (by simpa using h1)
    simp only [Nat.add_zero] at hst
    rw [hsize] at hf
    have hr : (Builtin.append_ #[t, t] ty #[.slice (some ⟨g, off, none⟩) n cap, .slice (some a) 1 c]).run P w = .ok (.slice (some ⟨g, off, none⟩) (n + 1) cap) (w.setRow g (cur.toList.take (off + n) ++ [x] ++ cur.toList.drop (off + n + [x].length)).toArray) := by
      simp only [List.length_singleton] at hst ⊢
      simp [Builtin.append_, run_underlying ht, sizeOf, typeInfo, hi, hsize, Builtin.lenOf, hroom, hf, Addr.add_lit, hst]
    refine ⟨_, _, hr, ⟨hlen, g, off, cap, _, rfl, hbg, setRow_heap w g cur _ e _ hg, hroom, hcm, ?_, ?_⟩, ⟨rfl, rfl, rfl, by simp, fun k _ hk => setRow_other w g k _ (fun e => hk (by simp [Value.ownBlock, e]))⟩⟩
    · simp only [List.size_toArray, List.length_append, List.length_take, List.length_drop, Array.length_toList, List.length_cons, List.length_nil]
      omega
    · have e1 : cur.toList.take (off + n) = cur.toList.take off ++ xs := by
        rw [← htake, List.take_add]
      rw [e1]
      simp only [List.append_assoc]
      have e2 : (cur.toList.take off).length = off := by rw [List.length_take, Array.length_toList]; omega
      rw [List.drop_append, e2, Nat.sub_self, List.drop_zero, List.drop_eq_nil_of_le (by omega), List.nil_append, ← List.append_assoc, ← hlen, List.take_left]
  · have holds : ∀ (j : Nat) u, xs[j]? = some u → w.cell? ((⟨g, off, none⟩ : Addr).add j) = some u := by
      intro j u hu
      have : (⟨g, off, none⟩ : Addr).add j = ⟨g, off + j, none⟩ := by unfold Addr.add; split <;> simp_all
      rw [this, cell_of_row w g _ cur e (0, 0) hg]
      rw [← htake, List.getElem?_take] at hu
      split at hu
      · rw [List.getElem?_drop] at hu
        rw [← Array.getElem?_toList]; exact hu
      · cases hu
    have hr := run_append_grow (P := P) w t ty e i z ht hi hz ⟨g, off, none⟩ n cap xs (by rw [hsize, h0]; omega) holds a 1 c [x] (by rw [hsize]; rfl) hn1 (by omega) (by omega) (growslice_fits (by omega) hbytes)
    have hge := grownCap_ge w (n + 1) cap e
    have hcm' : grownCap w (n + 1) cap e ≤ maxLen := grownCap_le_maxLen w (n + 1) cap e h63
    refine ⟨_, _, hr, ⟨hlen, w.heap.size, 0, _, _, rfl, hbase, heap_alloc_new w.drew _, hge, hcm', ?_, ?_⟩, ⟨rfl, rfl, rfl, by simp, fun k hk _ => Below.heap_alloc w.drew _ k hk⟩⟩
    · simp only [Array.size_append, List.size_toArray, size_zeroCells, hzs, h0, List.length_cons, List.length_nil]
      omega
    · simp only [Array.toList_append, List.drop_zero]
      rw [← hlen]
      exact List.take_left
theorem wp_append_tail {o : Oper} {a : Act} {K : Act → World → Prop} {Q : Exit → Act → World → Prop} (s x : Operand) (t : TypeId)
    (ho : o.op = .call { callee := .builtin .append, args := #[s, x], argTypes := #[t, t] })
    (base : Nat) (e : TypeId) (i : TypeInfo) (z : Value) (bytes : Nat) (ht : P.underlying t = some (.slice e)) (hi : P.info? e = some i) (hz : i.zero = some z)
    (hsize : i.size = 1) (hby : i.bytes = bytes) (hzs : z.cells.size = 1)
    (v : Value) (n : Nat) (xs : List Value) (hs : a.eval s = v) (hown : OwnT w base e v n xs)
    (ad : Addr) (c : Nat) (u : Value) (hx : a.eval x = .slice (some ad) 1 c) (hnews : w.cell? (ad.add 0) = some u) (h1 : u.oneCell' = true)
    (h63 : n + 1 ≤ maxLen) (hbytes : (n + 1) * bytes ≤ 140737488355328) (hbase : base ≤ w.heap.size)
    (h : ∀ v' w', OwnT w' base e v' (n + 1) (xs ++ [u]) → w.grownBy w' v.ownBlock → K (a.put o.dst v') w') : o.wp P a w K Q := by
  obtain ⟨v', w', hr, h2, h3⟩ := run_append_tail (P := P) w base t o.type e i z bytes ht hi hz hsize hby hzs v n xs hown ad c u hnews h1 h63 hbytes hbase
  unfold Oper.wp execOp
  simp only [ho, resolve, invoke, builtin, Sem.run_bind, Sem.run_pure, Result.andThen_ok, List.map_toArray, List.map_cons, List.map_nil, hs, hx, hr]
  exact h v' w' h2 h3
theorem wpList_append_tail {ops : Array Oper} {rest : List Oper} {o : Oper} {a : Act} {Q : Exit → Act → World → Prop} (hgd : o.guard = none) (s x : Operand) (t : TypeId)
    (ho : o.op = .call { callee := .builtin .append, args := #[s, x], argTypes := #[t, t] })
    (base : Nat) (e : TypeId) (i : TypeInfo) (z : Value) (bytes : Nat) (ht : P.underlying t = some (.slice e)) (hi : P.info? e = some i) (hz : i.zero = some z)
    (hsize : i.size = 1) (hby : i.bytes = bytes) (hzs : z.cells.size = 1)
    (v : Value) (n : Nat) (xs : List Value) (hs : a.eval s = v) (hown : OwnT w base e v n xs)
    (ad : Addr) (c : Nat) (u : Value) (hx : a.eval x = .slice (some ad) 1 c) (hnews : w.cell? (ad.add 0) = some u) (h1 : u.oneCell' = true)
    (h63 : n + 1 ≤ maxLen) (hbytes : (n + 1) * bytes ≤ 140737488355328) (hbase : base ≤ w.heap.size)
    (h : ∀ v' w', OwnT w' base e v' (n + 1) (xs ++ [u]) → w.grownBy w' v.ownBlock → wpList P ops Q rest (a.put o.dst v') w') : wpList P ops Q (o :: rest) a w :=
  wpList_plain hgd fun _ hK => wp_append_tail w s x t ho base e i z bytes ht hi hz hsize hby hzs v n xs hs hown ad c u hx hnews h1 h63 hbytes hbase fun v' w' h2 h3 => hK _ _ (h v' w' h2 h3)
end
end Go.Proofs.Ytghdiolnonejaaa
end

section
namespace Go.Proofs.Ytghdiolnonejaaa
open Go Go.RowKit
/-- Block g is the row vs. -/
def Row (w : World) (g : Nat) (t : TypeId) (vs : List Value) : Prop := w.heap[g]? = some (.cells vs.toArray t (0, 0))
theorem Row.lt {w : World} {g : Nat} {t : TypeId} {vs : List Value} (h : Row w g t vs) : g < w.heap.size := lt_of_heap h
theorem Row.cell {w : World} {g : Nat} {t : TypeId} {vs : List Value} (h : Row w g t vs) {i : Nat} (hi : i < vs.length) : w.cell? ⟨g, i, none⟩ = some (vs[i]'hi) := by
  rw [cell_of_row w g i _ t (0, 0) h]; simp [hi]
theorem Row.free {w : World} {g : Nat} {t : TypeId} {vs : List Value} (h : Row w g t vs) (i : Nat) : w.frozen? ⟨g, i, none⟩ = false := frozen_of_row w g i _ t h
theorem Row.set {w : World} {g : Nat} {t : TypeId} {vs : List Value} (h : Row w g t vs) (i : Nat) (v : Value) : Row (w.setCell ⟨g, i, none⟩ v) g t (vs.set i v) := by
  unfold Row
  rw [Go.heap_setCell_same w g i _ t v h]
  simp
theorem Row.other {w : World} {g : Nat} {t : TypeId} {vs : List Value} (h : Row w g t vs) {a : Addr} (ha : g ≠ a.block) (v : Value) : Row (w.setCell a v) g t vs := (Below.heap_setCell w a v g ha).trans h
theorem Row.alloc {w : World} {g : Nat} {t : TypeId} {vs : List Value} (h : Row w g t vs) (o : Obj) : Row (w.alloc o) g t vs := (Below.heap_alloc w o g h.lt).trans h
theorem Row.drew {w : World} {g : Nat} {t : TypeId} {vs : List Value} (h : Row w g t vs) : Row w.drew g t vs := h
theorem Row.below {w w' : World} {g : Nat} {t : TypeId} {vs : List Value} (h : Row w g t vs) (hb : Below w.heap.size w w') : Row w' g t vs := (hb.block g h.lt).trans h
theorem Row.grown {w w' : World} {g : Nat} {t : TypeId} {vs : List Value} {r : Option Nat} (h : Row w g t vs) (hg : w.grownBy w' r) (hr : some g ≠ r) : Row w' g t vs := (hg.block g h.lt hr).trans h
theorem Row.new (w : World) (t : TypeId) (vs : List Value) : Row (w.alloc (.cells vs.toArray t)) w.heap.size t vs := heap_alloc_new w _
/-- A row of numbers. -/
def IRow (w : World) (g : Nat) (zs : List Int) : Prop := Row w g 3 (zs.map (.int .i64))
theorem IRow.cell {w : World} {g : Nat} {zs : List Int} (h : IRow w g zs) {i : Nat} (hi : i < zs.length) : w.cell? ⟨g, i, none⟩ = some (.int .i64 (Pl.pv zs i)) := by
  refine (Row.cell h (i := i) (by simpa using hi)).trans ?_
  unfold Pl.pv
  rw [List.getElem_map, List.getD_eq_getElem?_getD, List.getElem?_eq_getElem hi]; rfl
theorem IRow.set {w : World} {g : Nat} {zs : List Int} (h : IRow w g zs) (i : Nat) (v : Int) : IRow (w.setCell ⟨g, i, none⟩ (.int .i64 v)) g (zs.set i v) := by
  unfold IRow
  rw [List.map_set]
  exact Row.set h i _
theorem IRow.ints {w : World} {g : Nat} {zs : List Int} (h : IRow w g zs) : IntsAt w (some ⟨g, 0, none⟩) zs.length zs := by
  refine ⟨by simp, fun _ => ⟨g, 0, rfl, fun j u hu => ?_⟩⟩
  rw [Nat.zero_add]
  refine (cell_of_row w g j _ _ (0, 0) h).trans ?_
  simpa using hu
/-- A row of bools. -/
def BRow (w : World) (g : Nat) (bs : List Bool) : Prop := Row w g 4 (bs.map .bool)
theorem BRow.cell {w : World} {g : Nat} {bs : List Bool} (h : BRow w g bs) {i : Nat} (hi : i < bs.length) : w.cell? ⟨g, i, none⟩ = some (.bool (bs.getD i false)) := by
  refine (Row.cell h (i := i) (by simpa using hi)).trans ?_
  rw [List.getElem_map, List.getD_eq_getElem?_getD, List.getElem?_eq_getElem hi]; rfl
theorem BRow.set {w : World} {g : Nat} {bs : List Bool} (h : BRow w g bs) (i : Nat) (v : Bool) : BRow (w.setCell ⟨g, i, none⟩ (.bool v)) g (bs.set i v) := by
  unfold BRow
  rw [List.map_set]
  exact Row.set h i _
theorem made_rep (v : Value) (n : Nat) : madeCells #[v] n = (List.replicate n v).toArray := by
  apply Array.ext'
  simp only [madeCells, Array.toList_map, Array.toList_range]
  refine List.ext_getElem (by simp) (fun i h1 h2 => ?_)
  have : i % 1 = 0 := Nat.mod_one i
  simp [this]
theorem IRow.made (w : World) (n : Nat) : IRow (w.alloc (.cells (Array.replicate n (Value.int .i64 0)) 3)) w.heap.size (List.replicate n 0) := by
  unfold IRow Row
  rw [List.map_replicate]
  exact heap_alloc_new w _
theorem BRow.made (w : World) (n : Nat) : BRow (w.alloc (.cells (Array.replicate n (Value.bool false)) 4)) w.heap.size (List.replicate n false) := by
  unfold BRow Row
  rw [List.map_replicate]
  exact heap_alloc_new w _
theorem intInfo : (Try.prog.info? 3).map (fun i => (i.zero, i.size, i.bytes)) = some (some (.int .i64 0), 1, 8) := by kernel_rfl
theorem boolInfo : (Try.prog.info? 4).map (fun i => (i.zero, i.size, i.bytes)) = some (some (.bool false), 1, 1) := by kernel_rfl
theorem run_ints (n : Nat) (hn : n ≤ 100000) (w : World) : (Instr.makeSlice 22 (.int .i64 (n : Int)) (.int .i64 (n : Int))).run Try.prog w = .ok (.slice (some ⟨w.heap.size, 0, none⟩) n n) (w.alloc (.cells (Array.replicate n (Value.int .i64 0)) 3)) := by
  obtain ⟨i0, hi, hz0, hz1, hz2⟩ := info_parts intInfo
  have := run_make (P := Try.prog) w 22 3 i0 (.int .i64 0) Try.underlying22 hi hz0 .i64 .i64 n n (by omega) (Int.le_refl _) (by rw [hz2]; omega) (by omega)
  rw [hz1, Nat.mul_one, Int.toNat_natCast, show madeCells (Value.cells (.int .i64 0)) n = (List.replicate n (.int .i64 0)).toArray from made_rep _ _] at this
  exact this
theorem run_bools (n : Nat) (hn : n ≤ 100000) (w : World) : (Instr.makeSlice 82 (.int .i64 (n : Int)) (.int .i64 (n : Int))).run Try.prog w = .ok (.slice (some ⟨w.heap.size, 0, none⟩) n n) (w.alloc (.cells (Array.replicate n (Value.bool false)) 4)) := by
  obtain ⟨i0, hi, hz0, hz1, hz2⟩ := info_parts boolInfo
  have := run_make (P := Try.prog) w 82 4 i0 (.bool false) Try.underlying82 hi hz0 .i64 .i64 n n (by omega) (Int.le_refl _) (by rw [hz2]; omega) (by omega)
  rw [hz1, Nat.mul_one, Int.toNat_natCast, show madeCells (Value.cells (.bool false)) n = (List.replicate n (.bool false)).toArray from made_rep _ _] at this
  exact this
end Go.Proofs.Ytghdiolnonejaaa
end

section
namespace Go.Proofs.Ytghdiolnonejaaa
open Go Go.RowKit
section
variable {P : Program} (w : World)
theorem run_append_ints (base : Nat) (t ty e : TypeId) (i : TypeInfo) (z : Value) (bytes : Nat) (ht : P.underlying t = some (.slice e)) (hi : P.info? e = some i) (hz : i.zero = some z)
    (hsize : i.size = 1) (hby : i.bytes = bytes) (hzs : z.cells.size = 1)
    (v : Value) (n : Nat) (xs : List Value) (hown : w.ownsRow base e 1 v n xs)
    (A : Option Addr) (m c : Nat) (zs : List Int) (hin : IntsAt w A m zs)
    (h63 : n + m ≤ maxLen) (hbytes : (n + m) * bytes ≤ 140737488355328) (hbase : base ≤ w.heap.size) :
    ∃ v' w', (Builtin.append_ #[t, t] ty #[v, .slice A m c]).run P w = .ok v' w' ∧ w'.ownsRow base e 1 v' (n + m) (xs ++ zs.map (.int .i64)) ∧ w.grownBy w' v.ownBlock := by
  have hl := hin.len
  rcases Nat.eq_zero_or_pos m with h0 | h0
  · subst h0
    obtain rfl : zs = [] := List.eq_nil_of_length_eq_zero hl
    have hr : (Builtin.append_ #[t, t] ty #[v, .slice A 0 c]).run P w = .ok v w := by
      rcases hown.2 with ⟨rfl, rfl⟩ | ⟨g, cap, cur, rfl, _, _, hnc, _⟩
      · cases A <;> simp [Builtin.append_, run_underlying ht, sizeOf, typeInfo, hi, Builtin.lenOf, Builtin.firstCells, loadCells, loadCellsFrom]
      · cases A <;> simp [Builtin.append_, run_underlying ht, sizeOf, typeInfo, hi, Builtin.lenOf, Builtin.firstCells, hnc, storeCells, loadCells, loadCellsFrom]
    refine ⟨v, w, hr, by simpa using hown, ⟨rfl, rfl, rfl, Nat.le_refl _, fun _ _ _ => rfl⟩⟩
  · obtain ⟨b, o, rfl, hc⟩ := hin.2 h0
    obtain ⟨v', w', hr, h2, h3, _⟩ := run_append_own (P := P) w base t ty e i z 1 bytes ht hi hz hsize hby hzs (by omega) v n xs hown ⟨b, o, none⟩ m c (zs.map (.int .i64)) (by rw [List.length_map, hl, Nat.mul_one]) (fun j u hu => by
      have : (⟨b, o, none⟩ : Addr).add j = ⟨b, o + j, none⟩ := by unfold Addr.add; split <;> simp_all
      rw [this]; exact hc j u hu) (fun u hu => by
      obtain ⟨x, _, rfl⟩ := List.mem_map.1 hu; rfl) h63 hbytes hbase
    exact ⟨v', w', hr, h2, h3⟩
theorem wp_append_ints {o : Oper} {a : Act} {K : Act → World → Prop} {Q : Exit → Act → World → Prop} (s x : Operand) (t : TypeId)
    (ho : o.op = .call { callee := .builtin .append, args := #[s, x], argTypes := #[t, t] })
    (base : Nat) (e : TypeId) (i : TypeInfo) (z : Value) (bytes : Nat) (ht : P.underlying t = some (.slice e)) (hi : P.info? e = some i) (hz : i.zero = some z)
    (hsize : i.size = 1) (hby : i.bytes = bytes) (hzs : z.cells.size = 1)
    (v : Value) (n : Nat) (xs : List Value) (hs : a.eval s = v) (hown : w.ownsRow base e 1 v n xs)
    (A : Option Addr) (m c : Nat) (zs : List Int) (hx : a.eval x = .slice A m c) (hin : IntsAt w A m zs)
    (h63 : n + m ≤ maxLen) (hbytes : (n + m) * bytes ≤ 140737488355328) (hbase : base ≤ w.heap.size)
    (h : ∀ v' w', w'.ownsRow base e 1 v' (n + m) (xs ++ zs.map (.int .i64)) → w.grownBy w' v.ownBlock → K (a.put o.dst v') w') : o.wp P a w K Q := by
  obtain ⟨v', w', hr, h2, h3⟩ := run_append_ints (P := P) w base t o.type e i z bytes ht hi hz hsize hby hzs v n xs hown A m c zs hin h63 hbytes hbase
  unfold Oper.wp execOp
  simp only [ho, resolve, invoke, builtin, Sem.run_bind, Sem.run_pure, Result.andThen_ok, List.map_toArray, List.map_cons, List.map_nil, hs, hx, hr]
  exact h v' w' h2 h3
theorem wpList_append_ints {ops : Array Oper} {rest : List Oper} {o : Oper} {a : Act} {Q : Exit → Act → World → Prop} (hgd : o.guard = none) (s x : Operand) (t : TypeId)
    (ho : o.op = .call { callee := .builtin .append, args := #[s, x], argTypes := #[t, t] })
    (base : Nat) (e : TypeId) (i : TypeInfo) (z : Value) (bytes : Nat) (ht : P.underlying t = some (.slice e)) (hi : P.info? e = some i) (hz : i.zero = some z)
    (hsize : i.size = 1) (hby : i.bytes = bytes) (hzs : z.cells.size = 1)
    (v : Value) (n : Nat) (xs : List Value) (hs : a.eval s = v) (hown : w.ownsRow base e 1 v n xs)
    (A : Option Addr) (m c : Nat) (zs : List Int) (hx : a.eval x = .slice A m c) (hin : IntsAt w A m zs)
    (h63 : n + m ≤ maxLen) (hbytes : (n + m) * bytes ≤ 140737488355328) (hbase : base ≤ w.heap.size)
    (h : ∀ v' w', w'.ownsRow base e 1 v' (n + m) (xs ++ zs.map (.int .i64)) → w.grownBy w' v.ownBlock → wpList P ops Q rest (a.put o.dst v') w') : wpList P ops Q (o :: rest) a w :=
  wpList_plain hgd fun _ hK => wp_append_ints w s x t ho base e i z bytes ht hi hz hsize hby hzs v n xs hs hown A m c zs hx hin h63 hbytes hbase fun v' w' h2 h3 => hK _ _ (h v' w' h2 h3)
end
def growRen : Go.Shelf.Ren := ⟨fun | 4 => 146 | n => n, fun | 22 => 22 | 25 => 3 | 3 => 3 | 4 => 4 | 9 => 9 | 20 => 20 | 0 => 0 | n => n, fun | n => n⟩
theorem growLays : Go.Proofs.Lays8.n4 Try.prog growRen := {
  mixed := by kernel_rfl
  f4 := ⟨Try.f146.name, by decide, Try.func146.trans (congrArg some (by kernel_rfl))⟩
  t0 := Try.underlying0
  a0 := Try.isAgg0
  z0 := Try.sizeOf0
  v0 := Try.zeroValue0
  t3 := Try.underlying3
  a3 := Try.isAgg3
  z3 := Try.sizeOf3
  v3 := Try.zeroValue3
  t4 := Try.underlying4
  a4 := Try.isAgg4
  z4 := Try.sizeOf4
  v4 := Try.zeroValue4
  t9 := Try.underlying9
  a9 := Try.isAgg9
  z9 := Try.sizeOf9
  v9 := Try.zeroValue9
  t20 := Try.underlying20
  a20 := Try.isAgg20
  z20 := Try.sizeOf20
  v20 := Try.zeroValue20
  t22 := Try.underlying22
  a22 := Try.isAgg22
  z22 := Try.sizeOf22
  v22 := Try.zeroValue22 }
/-- slices.Grow(nil, n). -/
theorem grow_nil (n : Nat) (w : World) (hn : n ≤ 100000) :
    Calls Try.prog 146 #[.slice none 0 0, .int .i64 (n : Int)] w fun e w' => ∃ v, e = .returned v ∧ w'.ownsRow w.heap.size 3 1 v 0 [] ∧ Below w.heap.size w w' := by
  rcases Nat.eq_zero_or_pos n with h0 | h0
  · subst h0
    refine (Any8.slices_Grow_room growLays none 0 0 0 w (by omega) (by omega) (by omega) (by omega)).mono ?_
    rintro e w' ⟨rfl, rfl⟩
    exact ⟨_, rfl, World.ownsRow_nil _ _ _ _, Below.refl _ _⟩
  · obtain ⟨i0, hi0, hz0, hz1, hz2⟩ := info_parts intInfo
    refine (Any8.slices_Grow_grow growLays i0 (.int .i64 0) hi0 hz0 (by omega) none 0 0 n [] w (by omega) (by omega) (by rw [hz2]; omega) (by omega) (by simp) (fun _ => rfl) (fun a h => by cases h)).mono ?_
    rintro e w' ⟨rfl, rfl⟩
    have hge := grownCap_ge w (0 + n) 0 3
    have hle := grownCap_le_maxLen w (0 + n) 0 3 (by unfold maxLen; omega)
    refine ⟨_, rfl, ?_, ((Below.refl _ _).drew).alloc (by simp) _⟩
    refine ⟨rfl, .inr ⟨w.heap.size, _, _, rfl, Nat.le_refl _, heap_alloc_new w.drew _, Nat.zero_le _, hle, ?_, by simp⟩⟩
    show _ = grownCap w (0 + n) 0 3 * 1
    simp only [Array.size_append, List.size_toArray, size_zeroCells, List.length_nil]
    show 0 + (0 + n - 0) * 1 + (grownCap w (0 + n) 0 3 - (0 + n)) * 1 = _
    omega
end Go.Proofs.Ytghdiolnonejaaa
end

section
namespace Go.Proofs.Ytghdiolnonejaaa
open Go.RowKit
def pre (xs ys : List Int) (k : Nat) : List Int := if k = 0 then [] else if k = 1 then xs else xs ++ ys
set_option maxRecDepth 100000 in
set_option maxHeartbeats 2000000 in
/-- Two slices, one after the other, in memory of the call's own. -/
theorem concat_two (A B : Option Addr) (n m c d h : Nat) (xs ys : List Int) (w : World) (hx : IntsAt w A n xs) (hy : IntsAt w B m ys) (hn : n + m ≤ 100000)
    (c0 : w.cell? ⟨h, 0, none⟩ = some (.slice A n c)) (c1 : w.cell? ⟨h, 1, none⟩ = some (.slice B m d)) :
    Calls Try.prog 130 #[.slice (some ⟨h, 0, none⟩) 2 2] w fun e w' => ∃ v, e = .returned v ∧ w'.ownsRow w.heap.size 3 1 v (n + m) ((xs ++ ys).map (.int .i64)) ∧ Below w.heap.size w w' := by
  have HX := hide hx
  have HY := hide hy
  clear hx hy
  go_enter Try.func130, Try.ntmps130
  go_wp2
  go_loop [3, 11] (fun s i => ∃ k : Nat, k ≤ 2 ∧ i = .int .i64 k ∧ s = .int .i64 ((if k = 0 then 0 else if k = 1 then n else n + m : Nat) : Int)) (fun _ i => 2 - (intOf i).toNat)
  case atStart => exact ⟨0, by omega, rfl, rfl⟩
  case round =>
    obtain ⟨k, hk, rfl, rfl⟩ := hrel
    have h3 : k = 0 ∨ k = 1 ∨ k = 2 := by omega
    rcases h3 with rfl | rfl | rfl
    · simp only [if_true]
      go_wp2
      go_round
      case rel => exact ⟨1, by omega, by go_num, by simp⟩
      case measure => simp [intOf]
    · simp only [Nat.one_ne_zero, if_true, if_false]
      go_wp2
      go_round
      case rel => exact ⟨2, by omega, by go_num, by simp⟩
      case measure => simp [intOf]
    · simp only [show (2 : Nat) ≠ 0 by omega, show (2 : Nat) ≠ 1 by omega, if_false]
      obtain ⟨s, hs⟩ : ∃ s, s = n + m := ⟨_, rfl⟩
      rw [← hs]
      have HS := hide hs
      have hs2 : s ≤ 100000 := by omega
      clear hs
      go_wp2_with fail
      refine (grow_nil s _ hs2).mono ?_
      rintro e w1 ⟨v0, rfl, hown, hb1⟩
      have HO := hide hown
      have HB1 := hide hb1
      clear hown hb1
      go_wp2
      have hxl := HX.out.len
      have hyl := HY.out.len
      go_loopg [6, 27] 2 (fun g v i wx => ∃ k : Nat, k + g = 2 ∧ i = .int .i64 k ∧ wx.ownsRow w.heap.size 3 1 v (pre xs ys k).length ((pre xs ys k).map (.int .i64)) ∧ Below w.heap.size w wx)
      case atStart => exact ⟨0, rfl, rfl, HO.out, HB1.out⟩
      case round =>
        obtain ⟨k, hkg, rfl, hown, hb⟩ := hrel
        have hcell := hide hb
        have d0' := cell_below c0 hb
        have d1' := cell_below c1 hb
        have HX' := hide (HX.out.keep hb)
        have HY' := hide (HY.out.keep hb)
        obtain ⟨i0, hi0, hz0, hz1, hz2⟩ := info_parts intInfo
        have hwz := hb.size
        obtain ⟨g1, rfl⟩ : ∃ g1, g1 = gk := ⟨_, rfl⟩
        have HK := hide hkg
        have HO' := hide hown
        clear hb hown
        have h3 : k = 0 ∨ k = 1 ∨ k = 2 := by omega
        clear hkg
        rcases h3 with rfl | rfl | rfl
        · go_wp2_with (at_builtin; refine wpList_append_ints _ rfl _ _ 22 rfl w.heap.size 3 i0 (.int .i64 0) 8 Try.underlying22 hi0 hz0 hz1 hz2 rfl _ 0 [] (by rfl) HO'.out A n c xs (by rfl) HX'.out (by unfold maxLen; omega) (by omega) hwz ?_; intro v2 w2 own2 grow2)
          go_roundg 1
          case measure => have := HK.out; omega
          case rel =>
            refine ⟨1, rfl, rfl, ?_, hcell.out.grown grow2 hwz (fun k hk => (HO'.out.lt k hk).1)⟩
            have e : pre xs ys 1 = xs := rfl
            rw [e, hxl]
            simpa using own2
        · have e1 : (pre xs ys 1).length = n := hxl
          have HO2 := hide (show wr.ownsRow w.heap.size 3 1 u6 n (xs.map (.int .i64)) by have := HO'.out; rw [e1] at this; exact this)
          go_wp2_with (at_builtin; refine wpList_append_ints _ rfl _ _ 22 rfl w.heap.size 3 i0 (.int .i64 0) 8 Try.underlying22 hi0 hz0 hz1 hz2 rfl _ n (xs.map (.int .i64)) (by rfl) HO2.out B m d ys (by rfl) HY'.out (by unfold maxLen; omega) (by omega) hwz ?_; intro v2 w2 own2 grow2)
          go_roundg 0
          case measure => have := HK.out; omega
          case rel =>
            refine ⟨2, rfl, rfl, ?_, hcell.out.grown grow2 hwz (fun k hk => (HO'.out.lt k hk).1)⟩
            have e : pre xs ys 2 = xs ++ ys := rfl
            rw [e, List.length_append, hxl, hyl, List.map_append]
            exact own2
        · go_wp2
          go_ret
          refine ⟨_, rfl, ?_, hcell.out⟩
          have h7 := HO'.out
          have e : pre xs ys 2 = xs ++ ys := rfl
          rw [e, List.length_append, hxl, hyl] at h7
          exact h7
theorem owns_slice {w : World} {base : Nat} {e : TypeId} {size : Nat} {v : Value} {n : Nat} {xs : List Value} (h : w.ownsRow base e size v n xs) : ∃ A c, v = .slice A n c := by
  rcases h.2 with ⟨rfl, rfl⟩ | ⟨g, cap, cur, rfl, _⟩
  · exact ⟨_, _, rfl⟩
  · exact ⟨_, _, rfl⟩
theorem concat_ex (n m h : Nat) (xs ys : List Int) (w : World) (hn : n + m ≤ 100000) (h0 : ∃ A c, w.cell? ⟨h, 0, none⟩ = some (.slice A n c) ∧ IntsAt w A n xs) (h1 : ∃ B d, w.cell? ⟨h, 1, none⟩ = some (.slice B m d) ∧ IntsAt w B m ys) :
    Calls Try.prog 130 #[.slice (some ⟨h, 0, none⟩) 2 2] w fun e w' => ∃ (A : Option Addr) (c : Nat), e = .returned (.slice A (n + m) c) ∧ w'.ownsRow w.heap.size 3 1 (.slice A (n + m) c) (n + m) ((xs ++ ys).map (.int .i64)) ∧ Below w.heap.size w w' := by
  obtain ⟨A, c, c0, hx⟩ := h0
  obtain ⟨B, d, c1, hy⟩ := h1
  refine (concat_two A B n m c d h xs ys w hx hy hn c0 c1).mono ?_
  rintro e w' ⟨v, rfl, hown, hb⟩
  obtain ⟨A', c', rfl⟩ := owns_slice hown
  exact ⟨A', c', rfl, hown, hb⟩
/-- A row of the call's own that holds numbers, reached by a slice value. -/
def OwnN (w : World) (base g n cap : Nat) (l : List Nat) : Prop := w.ownsRow base 3 1 (.slice (some ⟨g, 0, none⟩) n cap) n (l.map (fun k : Nat => Value.int .i64 k))
theorem OwnN.len {w : World} {base g n cap : Nat} {l : List Nat} (h : OwnN w base g n cap l) : l.length = n := by have := h.1; simpa using this
theorem OwnN.cell {w : World} {base g n cap : Nat} {l : List Nat} (h : OwnN w base g n cap l) {k : Nat} (hk : k < n) : w.cell? ⟨g, k, none⟩ = some (.int .i64 (l.getD k 0 : Nat)) := by
  have hl := h.len
  rw [World.ownsRow.cellAt h k (by omega), List.getElem?_map, List.getElem?_eq_getElem (by omega), List.getD_eq_getElem?_getD, List.getElem?_eq_getElem (by omega)]; rfl
theorem OwnN.free {w : World} {base g n cap : Nat} {l : List Nat} (h : OwnN w base g n cap l) (k : Nat) : w.frozen? ⟨g, k, none⟩ = false := World.ownsRow.frozenAt h k
theorem OwnN.set {w : World} {base g n cap : Nat} {l : List Nat} (h : OwnN w base g n cap l) (k v : Nat) : OwnN (w.setCell ⟨g, k, none⟩ (.int .i64 (v : Nat))) base g n cap (l.set k v) ∧ w.grownBy (w.setCell ⟨g, k, none⟩ (.int .i64 (v : Nat))) (some g) := by
  have := World.ownsRow.stored h k (.int .i64 (v : Nat))
  refine ⟨?_, this.2⟩
  unfold OwnN
  rw [List.map_set]
  exact this.1
theorem grownBy_trans {w w1 w2 : World} {r : Option Nat} (h : w.grownBy w1 r) (h2 : w1.grownBy w2 r) : w.grownBy w2 r :=
  ⟨h2.os.trans h.os, h2.tape.trans h.tape, h2.output.trans h.output, Nat.le_trans h.size h2.size, fun k hk hr => (h2.block k (Nat.lt_of_lt_of_le hk h.size) hr).trans (h.block k hk hr)⟩
/-- Two half-edges made mates. -/
def jn (l : List Nat) (a b : Nat) : List Nat := (l.set a b).set b a
theorem join_any (base g n cap a b : Nat) (l : List Nat) (w : World) (h : OwnN w base g n cap l) (ha : a < n) (hb : b < n) (hn : n ≤ 100000) :
    Calls Try.prog 80 #[.slice (some ⟨g, 0, none⟩) n cap, .int .i64 (a : Int), .int .i64 (b : Int)] w fun e w' => e = .returned (.tuple #[]) ∧ OwnN w' base g n cap (jn l a b) ∧ w.grownBy w' (some g) := by
  have c1 := h.cell ha
  have f1 := h.free a
  obtain ⟨h2, g2⟩ := h.set a b
  have c2 := h2.cell hb
  have f2 := h2.free b
  obtain ⟨h3, g3⟩ := h2.set b a
  have H3 := hide h3
  have G3 := hide (grownBy_trans g2 g3)
  clear h h2 h3 g2 g3
  go_enter Try.func80, Try.ntmps80
  go_wp2
  go_end0
  exact ⟨rfl, H3.out, G3.out⟩
theorem join_int (base g n cap : Nat) (a b : Int) (l : List Nat) (w : World) (h : OwnN w base g n cap l) (ha : 0 ≤ a ∧ a < n) (hb : 0 ≤ b ∧ b < n) (hn : n ≤ 100000) :
    Calls Try.prog 80 #[.slice (some ⟨g, 0, none⟩) n cap, .int .i64 a, .int .i64 b] w fun e w' => e = .returned (.tuple #[]) ∧ OwnN w' base g n cap (jn l a.toNat b.toNat) ∧ w.grownBy w' (some g) := by
  obtain ⟨x, rfl⟩ := Int.eq_ofNat_of_zero_le ha.1
  obtain ⟨y, rfl⟩ := Int.eq_ofNat_of_zero_le hb.1
  rw [Int.toNat_natCast, Int.toNat_natCast]
  exact join_any base g n cap x y l w h (by omega) (by omega) hn
end Go.Proofs.Ytghdiolnonejaaa
end

section
namespace Go.Proofs.Ytghdiolnonejaaa
open Go.RowKit
attribute [local go_sem ↓] Go.wp_at_zero Go.wp_at_succ
/-- What a region keeps: the rows g (a diagram's box) and g + 1 (a box for the result), and whatever lay in w. -/
structure GS (w : World) (g : Nat) (x0 x1 x2 : Value) (W : World) : Prop where
  row : ∃ vs, Row W g 24 [x0, x1, x2] ∧ Row W (g + 1) 24 vs ∧ vs.length = 3
  bel : Below w.heap.size w W
  lo : w.heap.size ≤ g
theorem GS.drew {w : World} {g : Nat} {x0 x1 x2 : Value} {W : World} (h : GS w g x0 x1 x2 W) : GS w g x0 x1 x2 W.drew := ⟨h.row, h.bel.drew, h.lo⟩
/-- What a cell holds. -/
def cv (W : World) (a : Addr) : Value := (W.cell? a).getD (.bool false)
theorem cv_some {W : World} {a : Addr} {v : Value} (h : W.cell? a = some v) : W.cell? a = some (cv W a) := by unfold cv; rw [h]; rfl
theorem GS.alloc {w : World} {g : Nat} {x0 x1 x2 : Value} {W : World} (h : GS w g x0 x1 x2 W) (o : Obj) : GS w g x0 x1 x2 (W.alloc o) :=
  let ⟨vs, r1, r2, r3⟩ := h.row
  ⟨⟨vs, r1.alloc o, r2.alloc o, r3⟩, h.bel.alloc h.bel.size o, h.lo⟩
theorem GS.below {w : World} {g : Nat} {x0 x1 x2 : Value} {W W' : World} (h : GS w g x0 x1 x2 W) (hb : Below W.heap.size W W') : GS w g x0 x1 x2 W' :=
  let ⟨vs, r1, r2, r3⟩ := h.row
  ⟨⟨vs, r1.below hb, r2.below hb, r3⟩, h.bel.trans (hb.mono h.bel.size), h.lo⟩
theorem GS.set {w : World} {g : Nat} {x0 x1 x2 : Value} {W : World} (h : GS w g x0 x1 x2 W) (o : Nat) (v : Value) : GS w g x0 x1 x2 (W.setCell ⟨g + 1, o, none⟩ v) :=
  let ⟨vs, r1, r2, r3⟩ := h.row
  ⟨⟨vs.set o v, r1.other (by simp) v, r2.set o v, by rw [List.length_set, r3]⟩, h.bel.setCell (by have := h.lo; simp; omega) v, h.lo⟩
theorem GS.all {w : World} {g : Nat} {x0 x1 x2 : Value} {W : World} (h : GS w g x0 x1 x2 W) : W.cell? ⟨g, 0, none⟩ = some x0 ∧ W.cell? ⟨g, 1, none⟩ = some x1 ∧ W.cell? ⟨g, 2, none⟩ = some x2 ∧ W.cell? ⟨g + 1, 0, none⟩ = some (cv W ⟨g + 1, 0, none⟩) ∧ W.cell? ⟨g + 1, 1, none⟩ = some (cv W ⟨g + 1, 1, none⟩) ∧ W.cell? ⟨g + 1, 2, none⟩ = some (cv W ⟨g + 1, 2, none⟩) ∧ (∀ o, W.frozen? ⟨g + 1, o, none⟩ = false) ∧ GS w g x0 x1 x2 W := by
  obtain ⟨vs, r1, r2, r3⟩ := h.row
  exact ⟨r1.cell (i := 0) (by show 0 < 3; omega), r1.cell (i := 1) (by show 1 < 3; omega), r1.cell (i := 2) (by show 2 < 3; omega), cv_some (r2.cell (i := 0) (by omega)), cv_some (r2.cell (i := 1) (by omega)), cv_some (r2.cell (i := 2) (by omega)), fun o => r2.free o, h⟩
theorem GS.fin {w : World} {g : Nat} {x0 x1 x2 : Value} {W : World} (h : GS w g x0 x1 x2 W) (y0 y1 y2 : Value) :
    (((W.setCell ⟨g + 1, 0, none⟩ y0).setCell ⟨g + 1, 1, none⟩ y1).setCell ⟨g + 1, 2, none⟩ y2).cell? ⟨g + 1, 0, none⟩ = some y0 ∧ (((W.setCell ⟨g + 1, 0, none⟩ y0).setCell ⟨g + 1, 1, none⟩ y1).setCell ⟨g + 1, 2, none⟩ y2).cell? ⟨g + 1, 1, none⟩ = some y1 ∧ (((W.setCell ⟨g + 1, 0, none⟩ y0).setCell ⟨g + 1, 1, none⟩ y1).setCell ⟨g + 1, 2, none⟩ y2).cell? ⟨g + 1, 2, none⟩ = some y2 := by
  obtain ⟨vs, _, r2, r3⟩ := h.row
  have r := ((r2.set 0 y0).set 1 y1).set 2 y2
  obtain ⟨a, b, c, rfl⟩ : ∃ a b c, vs = [a, b, c] := by
    match vs, r3 with
    | [a, b, c], _ => exact ⟨a, b, c, rfl⟩
  exact ⟨r.cell (i := 0) (by simp), r.cell (i := 1) (by simp), r.cell (i := 2) (by simp)⟩
theorem GS.start (w : World) (x0 x1 x2 y0 y1 y2 : Value) : GS w w.heap.size x0 x1 x2 ((w.alloc (.cells #[x0, x1, x2] 24)).alloc (.cells #[y0, y1, y2] 24)) := by
  refine ⟨⟨[y0, y1, y2], Row.alloc (Row.new w _ [x0, x1, x2]) _, ?_, rfl⟩, ((Below.refl _ _).alloc (Nat.le_refl _) _).alloc (by simp) _, Nat.le_refl _⟩
  have := Row.new (w.alloc (.cells #[x0, x1, x2] 24)) 24 [y0, y1, y2]
  simpa using this
theorem IntsAt.alloc {w : World} {A : Option Addr} {n : Nat} {zs : List Int} (h : IntsAt w A n zs) (o : Obj) : IntsAt (w.alloc o) A n zs := h.keep ((Below.refl _ _).alloc (Nat.le_refl _) o)
theorem IntsAt.drew {w : World} {A : Option Addr} {n : Nat} {zs : List Int} (h : IntsAt w A n zs) : IntsAt w.drew A n zs := h
theorem made_at {w : World} {g : Nat} (h : g = w.heap.size) (n : Nat) : IntsAt (w.alloc (.cells (Array.replicate n (Value.int .i64 0)) 3)) (some ⟨g, 0, none⟩) n (List.replicate n 0) := by
  subst h
  have := (IRow.made w n).ints
  rw [List.length_replicate] at this
  exact this
theorem owns_pos {w : World} {base : Nat} {e : TypeId} {A : Option Addr} {n c : Nat} {xs : List Value} (hn : 0 < n) (h : w.ownsRow base e 1 (.slice A n c) n xs) : ∃ g, A = some ⟨g, 0, none⟩ ∧ base ≤ g ∧ g < w.heap.size := by
  rcases h.2 with ⟨_, h0⟩ | ⟨g, cap, cur, h1, h2, h3, _⟩
  · omega
  · injection h1 with h1
    exact ⟨g, h1, h2, lt_of_heap h3⟩
theorem own_keep {w w' : World} {base base' : Nat} {e : TypeId} {v : Value} {n : Nat} {xs : List Value} (h : w.ownsRow base e 1 v n xs) (hb : Below w.heap.size w w') (hle : base' ≤ base) : w'.ownsRow base' e 1 v n xs := by
  refine ⟨h.1, ?_⟩
  rcases h.2 with hz | ⟨g, cap, cur, r1, r2, r3, r4⟩
  · exact .inl hz
  · exact .inr ⟨g, cap, cur, r1, Nat.le_trans hle r2, (hb.block g (lt_of_heap r3)).trans r3, r4⟩
theorem own_set {w : World} {base : Nat} {e : TypeId} {g n c b o : Nat} {v : Value} {xs : List Value} (h : w.ownsRow base e 1 (.slice (some ⟨g, 0, none⟩) n c) n xs) (hne : g ≠ b) : (w.setCell ⟨b, o, none⟩ v).ownsRow base e 1 (.slice (some ⟨g, 0, none⟩) n c) n xs := by
  refine ⟨h.1, ?_⟩
  rcases h.2 with hz | ⟨g', cap, cur, r1, r2, r3, r4⟩
  · exact .inl hz
  · injection r1 with e1 e2 e3
    injection e1 with e1
    injection e1 with e1
    subst e1
    exact .inr ⟨g, cap, cur, by rw [e3], r2, (Below.heap_setCell w _ v g hne).trans r3, r4⟩
theorem nats_rep (l : List Nat) (k : Nat) : (nats l ++ List.replicate k 0).map (Value.int .i64) = (l ++ List.replicate k 0).map (fun j : Nat => Value.int .i64 j) := by
  unfold nats
  simp
set_option maxRecDepth 100000 in
set_option maxHeartbeats 8000000 in
theorem grown_any (d : Pl.Dg) (A B : Option Addr) (cp cq s cs h m m4 : Nat) (ss : List Int) (w : World) (hm : m = 4 * d.n) (hm4 : m4 = 4 * s) (hg : DgAt w A B d) (hs : IntsAt w (some ⟨h, 0, none⟩) s ss) (hn : d.n ≤ 1000) (hs1 : 1 ≤ s) (hs2 : s ≤ 10) :
    Calls Try.prog 79 #[.agg #[.slice A d.n cp, .slice B m cq, .int .i64 d.lp], .slice (some ⟨h, 0, none⟩) s cs] w fun e w' => ∃ g1 c1 g2 c2 : Nat, e = .returned (.agg #[.slice (some ⟨g1, 0, none⟩) (d.n + s) c1, .slice (some ⟨g2, 0, none⟩) (m + m4) c2, .int .i64 d.lp]) ∧
      w'.ownsRow w.heap.size 3 1 (.slice (some ⟨g1, 0, none⟩) (d.n + s) c1) (d.n + s) ((d.sg ++ ss).map (.int .i64)) ∧ OwnN w' w.heap.size g2 (m + m4) c2 (d.mt ++ List.replicate m4 0) ∧ g1 ≠ g2 ∧ Below w.heap.size w w' := by
  have HS := hide hg.s
  have HMT := hide (show IntsAt w B m (nats d.mt) by rw [hm]; exact hg.m)
  have HSS := hide hs
  have HM := hide hm
  have hmm : m ≤ 4000 := by omega
  have hm44 : m4 ≤ 40 := by omega
  have hmk := fun W : World => run_ints m4 (by omega) W
  have h44 : 4 * (s : Int) = (m4 : Int) := by omega
  clear hm hm4 hg hs
  have HGS := hide (GS.start w (.slice A d.n cp) (.slice B m cq) (.int .i64 d.lp) (.slice none 0 0) (.slice none 0 0) (.int .i64 0))
  go_enter Try.func79, Try.ntmps79
  go_wp2
  have hwr : IntKind.i64.wrap (m4 : Int) = (m4 : Int) := IntWalk.i64_in _ (by omega)
  go_region_held3 (fun w' => w'.cell? ⟨w.heap.size, 0, none⟩ = some (.slice A d.n cp) ∧ w'.cell? ⟨w.heap.size, 1, none⟩ = some (.slice B m cq) ∧ w'.cell? ⟨w.heap.size, 2, none⟩ = some (.int .i64 d.lp) ∧ w'.cell? ⟨w.heap.size + 1, 0, none⟩ = some (cv w' ⟨w.heap.size + 1, 0, none⟩) ∧ w'.cell? ⟨w.heap.size + 1, 1, none⟩ = some (cv w' ⟨w.heap.size + 1, 1, none⟩) ∧ w'.cell? ⟨w.heap.size + 1, 2, none⟩ = some (cv w' ⟨w.heap.size + 1, 2, none⟩) ∧ (∀ o, w'.frozen? ⟨w.heap.size + 1, o, none⟩ = false) ∧ GS w w.heap.size (.slice A d.n cp) (.slice B m cq) (.int .i64 d.lp) w')
    ((go_split_ands; refine GS.all ?_; (repeat (first | assumption | (with_reducible exact HGS.out) | (with_reducible refine GS.set ?_ _ _) | (with_reducible refine GS.alloc ?_ _) | (with_reducible refine GS.drew ?_) | (with_reducible refine GS.below ?_ hba) | (with_reducible refine GS.below ?_ hbb)))))
    (first
      | (go_at_call 130
         refine Calls.mono (concat_ex d.n s _ d.sg ss _ (by omega) ?_ ?_) ?_
         · refine ⟨A, cp, ?_, HS.out.keep (GS.bel (g := w.heap.size) (x0 := .slice A d.n cp) (x1 := .slice B m cq) (x2 := .int .i64 d.lp) ?_)⟩
           · first | (go_simp; done) | ((with_reducible refine cell_below ?_ hbb); go_simp; done)
           · repeat (first | assumption | (with_reducible exact HGS.out) | (with_reducible refine GS.set ?_ _ _) | (with_reducible refine GS.alloc ?_ _) | (with_reducible refine GS.drew ?_) | (with_reducible refine GS.below ?_ hba) | (with_reducible refine GS.below ?_ hbb))
         · refine ⟨some ⟨h, 0, none⟩, cs, ?_, HSS.out.keep (GS.bel (g := w.heap.size) (x0 := .slice A d.n cp) (x1 := .slice B m cq) (x2 := .int .i64 d.lp) ?_)⟩
           · first | (go_simp; done) | ((with_reducible refine cell_below ?_ hbb); go_simp; done)
           · repeat (first | assumption | (with_reducible exact HGS.out) | (with_reducible refine GS.set ?_ _ _) | (with_reducible refine GS.alloc ?_ _) | (with_reducible refine GS.drew ?_) | (with_reducible refine GS.below ?_ hba) | (with_reducible refine GS.below ?_ hbb))
         rintro e wa ⟨Aa, ca, rfl, owna, hba⟩)
      | (go_at_call 130
         refine Calls.mono (concat_ex m m4 _ (nats d.mt) (List.replicate m4 0) _ (by omega) ?_ ?_) ?_
         · refine ⟨B, cq, ?_, HMT.out.keep (GS.bel (g := w.heap.size) (x0 := .slice A d.n cp) (x1 := .slice B m cq) (x2 := .int .i64 d.lp) ?_)⟩
           · first | (go_simp; done) | ((with_reducible refine cell_below ?_ hba); go_simp; done)
           · repeat (first | assumption | (with_reducible exact HGS.out) | (with_reducible refine GS.set ?_ _ _) | (with_reducible refine GS.alloc ?_ _) | (with_reducible refine GS.drew ?_) | (with_reducible refine GS.below ?_ hba) | (with_reducible refine GS.below ?_ hbb))
         · refine ⟨?_, m4, ?_, ?_⟩
           rotate_left 1
           · first | (go_simp; rfl) | ((with_reducible refine cell_below ?_ hba); go_simp; rfl)
           · repeat (first | ((with_reducible refine made_at ?_ _); (simp; done)) | (with_reducible refine made_at rfl _) | (with_reducible refine IntsAt.drew ?_) | (with_reducible refine IntsAt.alloc ?_ _) | (with_reducible refine IntsAt.keep ?_ hba))
         rintro e wb ⟨Ab, cb, rfl, ownb, hbb⟩))
  all_goals
    obtain ⟨g1, rfl, b1, l1⟩ := owns_pos (by omega) owna
    obtain ⟨g2, rfl, b2, l2⟩ := owns_pos (by omega) ownb
    go_wp2
    refine bodyPost_ret (v := .agg #[.slice (some ⟨g1, 0, none⟩) (d.n + s) ca, .slice (some ⟨g2, 0, none⟩) (m + m4) cb, .int .i64 d.lp]) ?_ rfl ⟨g1, ca, g2, cb, rfl, ?_, ?_, ?_, ?_⟩
    · first
        | (have hx : GS w w.heap.size (.slice A d.n cp) (.slice B m cq) (.int .i64 d.lp) wb := by
            repeat (first | assumption | (with_reducible exact HGS.out) | (with_reducible refine GS.set ?_ _ _) | (with_reducible refine GS.alloc ?_ _) | (with_reducible refine GS.drew ?_) | (with_reducible refine GS.below ?_ hba) | (with_reducible refine GS.below ?_ hbb))
           obtain ⟨e0, e1, e2⟩ := hx.fin (.slice (some ⟨g1, 0, none⟩) (d.n + s) ca) (.slice (some ⟨g2, 0, none⟩) (m + m4) cb) (.int .i64 d.lp)
           simp [results, Try.results79, go_sem, e0, e1, e2]
           done)
        | (have hx : GS w w.heap.size (.slice A d.n cp) (.slice B m cq) (.int .i64 d.lp) wa := by
            repeat (first | assumption | (with_reducible exact HGS.out) | (with_reducible refine GS.set ?_ _ _) | (with_reducible refine GS.alloc ?_ _) | (with_reducible refine GS.drew ?_) | (with_reducible refine GS.below ?_ hba) | (with_reducible refine GS.below ?_ hbb))
           obtain ⟨e0, e1, e2⟩ := hx.fin (.slice (some ⟨g1, 0, none⟩) (d.n + s) ca) (.slice (some ⟨g2, 0, none⟩) (m + m4) cb) (.int .i64 d.lp)
           simp [results, Try.results79, go_sem, e0, e1, e2]
           done)
    · simp at b1 b2
      refine own_set (own_set (own_set ?_ (by omega)) (by omega)) (by omega)
      first
        | (refine own_keep owna (Below.refl _ _) ?_; first | omega | (simp; done) | (simp; omega))
        | (refine own_keep owna (Below.trans ?_ (hbb.mono ?_)) ?_; all_goals (repeat (first | exact Below.refl _ _ | (with_reducible refine Below.drew ?_) | (with_reducible refine Below.alloc ?_ ?_ _) | omega | (simp; done) | (simp; omega))))
    · simp at b1 b2
      unfold OwnN
      rw [← nats_rep]
      refine own_set (own_set (own_set ?_ (by omega)) (by omega)) (by omega)
      first
        | (refine own_keep ownb (Below.refl _ _) ?_; first | omega | (simp; done) | (simp; omega))
        | (refine own_keep ownb (Below.trans ?_ (hba.mono ?_)) ?_; all_goals (repeat (first | exact Below.refl _ _ | (with_reducible refine Below.drew ?_) | (with_reducible refine Below.alloc ?_ ?_ _) | omega | (simp; done) | (simp; omega))))
    · simp at b1 b2
      omega
    · refine GS.bel (g := w.heap.size) (x0 := .slice A d.n cp) (x1 := .slice B m cq) (x2 := .int .i64 d.lp) ?_
      repeat (first | assumption | (with_reducible exact HGS.out) | (with_reducible refine GS.set ?_ _ _) | (with_reducible refine GS.alloc ?_ _) | (with_reducible refine GS.drew ?_) | (with_reducible refine GS.below ?_ hba) | (with_reducible refine GS.below ?_ hbb))
end Go.Proofs.Ytghdiolnonejaaa
end

section
namespace Go.Proofs.Ytghdiolnonejaaa
open Go.RowKit
theorem bcell {W w1 : World} (hb : Below W.heap.size W w1) : (∀ b o, b < W.heap.size → w1.cell? ⟨b, o, none⟩ = W.cell? ⟨b, o, none⟩) ∧ (∀ b o, b < W.heap.size → w1.frozen? ⟨b, o, none⟩ = W.frozen? ⟨b, o, none⟩) :=
  ⟨fun b o h => hb.cell (p := ⟨b, o, none⟩) h, fun b o h => hb.frozen (p := ⟨b, o, none⟩) h⟩
/-- A move, as its value. -/
structure Mv where
  kind : Int
  x : Int
  y : Int
  sign : Int
  over : Bool
def Mv.v (m : Mv) : Value := .agg #[.int .i64 m.kind, .int .i64 m.x, .int .i64 m.y, .int .i64 m.sign, .bool m.over]
/-- What curlable answers. -/
def fullC (n k : Nat) : Int := if 64 < n + k then 5 else 0
def curlableC (d : Pl.Dg) (x : Int) : Int := if x < 0 then (if d.lp = 0 then 6 else fullC d.n 1) else if Pl.out d x.toNat = true then fullC d.n 1 else 6
set_option maxRecDepth 100000 in
set_option maxHeartbeats 2000000 in
theorem curlable_any (d : Pl.Dg) (A B : Option Addr) (cp cq : Nat) (k x y sg : Int) (ov : Bool) (w : World) (hg : DgAt w A B d) (hn : d.n ≤ 64) (hlp : d.lp ≤ 64) (hx : -1 ≤ x ∧ x < 4 * d.n) :
    Calls Try.prog 78 #[.agg #[.slice A d.n cp, .slice B (4 * d.n) cq, .int .i64 d.lp], .agg #[.int .i64 k, .int .i64 x, .int .i64 y, .int .i64 sg, .bool ov]] w fun e w' => e = .returned (.int .i64 (curlableC d x)) ∧ Below w.heap.size w w' := by
  obtain ⟨m, hm⟩ : ∃ m, m = 4 * d.n := ⟨_, rfl⟩
  rw [← hm]
  have HM := hide hm
  clear hm
  have b0 : Below w.heap.size w ((w.alloc (.cells #[.slice A d.n cp, .slice B m cq, .int .i64 d.lp] 24)).alloc (.cells #[.int .i64 k, .int .i64 x, .int .i64 y, .int .i64 sg, .bool ov] 37)) := ((Below.refl _ _).alloc (Nat.le_refl _) _).alloc (by simp) _
  have HS := hide (hg.s.keep b0)
  clear hg
  by_cases hx0 : 0 ≤ x
  · obtain ⟨q, rfl⟩ := Int.eq_ofNat_of_zero_le hx0
    have hq : q < 4 * d.n := by omega
    have t1 : decide (0 ≤ (q : Int)) = true := by simp
    go_enter Try.func78, Try.ntmps78
    go_wp2_with fail
    refine (out2_n d A B d.n cp m cq (.int .i64 d.lp) q _ rfl hq (by omega) HS.out).mono ?_
    rintro e w1 ⟨rfl, hb1⟩
    have b1 := b0.trans (hb1.mono b0.size)
    obtain ⟨hc, hf⟩ := bcell hb1
    have hsz : w.heap.size + 1 < w1.heap.size := by have := hb1.size; simp at this; omega
    have e0 : curlableC d (q : Int) = if Pl.out d q = true then fullC d.n 1 else 6 := by unfold curlableC; rw [if_neg (by omega), Int.toNat_natCast]
    have E0 := hide e0
    clear e0
    clear t1
    go_wp2
    all_goals
      go_ret
      refine ⟨ret_int ?_, b1⟩
      rw [E0.out]
      unfold fullC
      repeat' split
      all_goals first | omega | (exfalso; first | omega | (simp_all; done))
  · go_enter Try.func78, Try.ntmps78
    go_wp2
    all_goals
      go_ret
      refine ⟨ret_int ?_, b0⟩
      unfold curlableC fullC
      rw [if_pos (by omega)]
      simp only [beq_iff_eq, beq_eq_false_iff_ne, ne_eq] at *
      repeat' split
      all_goals omega
theorem curlable_m (d : Pl.Dg) (A B : Option Addr) (cp cq m : Nat) (k x y sg : Int) (ov : Bool) (w : World) (hm : m = 4 * d.n) (hg : DgAt w A B d) (hn : d.n ≤ 64) (hlp : d.lp ≤ 64) (hx : -1 ≤ x ∧ x < 4 * d.n) :
    Calls Try.prog 78 #[.agg #[.slice A d.n cp, .slice B m cq, .int .i64 d.lp], .agg #[.int .i64 k, .int .i64 x, .int .i64 y, .int .i64 sg, .bool ov]] w fun e w' => e = .returned (.int .i64 (curlableC d x)) ∧ Below w.heap.size w w' := by
  subst hm; exact curlable_any d A B cp cq k x y sg ov w hg hn hlp hx
end Go.Proofs.Ytghdiolnonejaaa
end
