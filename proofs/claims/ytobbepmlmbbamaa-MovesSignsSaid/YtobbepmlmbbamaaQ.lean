/-
  A slice of the call's own that begins anywhere in its row ('q = q[1:]'), and append to it. No program is named here.
-/
import Derived.Test.YtobbepmlmbbamaaMem
import Derived.Laws.AppendOwn
namespace Go.Proofs.Ytobbepmlmbbamaa
open Go Go.RowKit

/-- The slice value v, of n one-cell elements of type e, owns the cells xs; its row begins somewhere in a block from base on. -/
def OwnT (w : World) (base : Nat) (e : TypeId) (v : Value) (n : Nat) (xs : List Value) : Prop :=
  xs.length = n ∧ ∃ g off cap cur, v = .slice (some ⟨g, off, none⟩) n cap ∧ base ≤ g ∧ w.heap[g]? = some (.cells cur e (0, 0)) ∧ n ≤ cap ∧ cap ≤ maxLen ∧ off + cap ≤ cur.size ∧ (cur.toList.drop off).take n = xs

theorem lt_of_heap {w : World} {g : Nat} {o : Obj} (h : w.heap[g]? = some o) : g < w.heap.size := by
  rcases Nat.lt_or_ge g w.heap.size with h1 | h1
  · exact h1
  · rw [Array.getElem?_eq_none h1] at h; cases h
theorem OwnT.keep {w w' : World} {base : Nat} {e : TypeId} {v : Value} {n : Nat} {xs : List Value} (h : OwnT w base e v n xs) (hb : ∀ g, base ≤ g → g < w.heap.size → v.ownBlock = some g → w'.heap[g]? = w.heap[g]?) : OwnT w' base e v n xs := by
  obtain ⟨h0, g, off, cap, cur, rfl, h1, h2, h3⟩ := h
  exact ⟨h0, g, off, cap, cur, rfl, h1, (hb g h1 (lt_of_heap h2) rfl).trans h2, h3⟩
theorem OwnT.below {w w' : World} {base : Nat} {e : TypeId} {v : Value} {n : Nat} {xs : List Value} (h : OwnT w base e v n xs) (hb : Below w.heap.size w w') : OwnT w' base e v n xs :=
  h.keep fun g _ h2 _ => hb.block g h2
theorem OwnT.cells {w : World} {base : Nat} {e : TypeId} {v : Value} {n : Nat} {xs : List Value} (h : OwnT w base e v n xs) : ∃ g off cap, v = .slice (some ⟨g, off, none⟩) n cap ∧ base ≤ g ∧ g < w.heap.size ∧ n ≤ cap ∧ cap ≤ maxLen ∧ ∀ (j : Nat) u, xs[j]? = some u → w.cell? ⟨g, off + j, none⟩ = some u := by
  obtain ⟨h0, g, off, cap, cur, rfl, h1, h2, h3, h4, h5, h6⟩ := h
  refine ⟨g, off, cap, rfl, h1, lt_of_heap h2, h3, h4, fun j u hu => ?_⟩
  rw [cell_of_row w g _ cur e (0, 0) h2]
  rw [← h6, List.getElem?_take] at hu
  split at hu
  · rw [List.getElem?_drop] at hu
    rw [← Array.getElem?_toList]; exact hu
  · cases hu
/-- Behind 'v = v[1:]'. -/
theorem OwnT.tail0 {w : World} {base : Nat} {e : TypeId} {g off n cap : Nat} {x : Value} {xs : List Value} (h : OwnT w base e (.slice (some ⟨g, off, none⟩) (n + 1) cap) (n + 1) (x :: xs)) (hc : cap = 1) : OwnT w base e (.slice (some ⟨g, off, none⟩) n (cap - 1)) n xs := by
  obtain ⟨h0, g', off', cap', cur, e1, h1, h2, h3, h4, h5, h6⟩ := h
  injection e1 with e1 _ e2
  injection e1 with e1
  injection e1 with e3 e4
  subst e2; subst e3; subst e4
  have hl : xs.length = n := by simpa using h0
  obtain rfl : n = 0 := by omega
  exact ⟨hl, g, off, cap - 1, cur, rfl, h1, h2, by omega, by omega, by omega, by rw [List.take_zero]; exact (List.eq_nil_of_length_eq_zero hl).symm⟩
theorem OwnT.tail {w : World} {base : Nat} {e : TypeId} {g off n cap : Nat} {x : Value} {xs : List Value} (h : OwnT w base e (.slice (some ⟨g, off, none⟩) (n + 1) cap) (n + 1) (x :: xs)) : OwnT w base e (.slice (some ⟨g, off + 1, none⟩) n (cap - 1)) n xs := by
  obtain ⟨h0, g', off', cap', cur, e1, h1, h2, h3, h4, h5, h6⟩ := h
  injection e1 with e1 _ e2
  injection e1 with e1
  injection e1 with e3 e4
  subst e2; subst e3; subst e4
  have hl : xs.length = n := by simpa using h0
  refine ⟨hl, g, off + 1, cap - 1, cur, rfl, h1, h2, by omega, by omega, by omega, ?_⟩
  have e5 : cur.toList.drop off = (cur.toList.drop off).head?.getD x :: cur.toList.drop (off + 1) := by
    have : cur.toList.drop off ≠ [] := by
      intro e; rw [e] at h6; simp at h6
    rw [List.drop_eq_getElem_cons (by simp; omega)]
    simp
  rw [e5, List.take_succ_cons] at h6
  injection h6

section
variable {P : Program} (w : World)
theorem run_append_tail (base : Nat) (t ty e : TypeId) (i : TypeInfo) (z : Value) (bytes : Nat) (ht : P.underlying t = some (.slice e)) (hi : P.info? e = some i) (hz : i.zero = some z)
    (hsize : i.size = 1) (hby : i.bytes = bytes) (hzs : z.cells.size = 1)
    (v : Value) (n : Nat) (xs : List Value) (hown : OwnT w base e v n xs)
    (a : Addr) (c : Nat) (x : Value) (hnews : w.cell? (a.add 0) = some x) (h1 : x.oneCell' = true)
    (h63 : n + 1 ≤ maxLen) (hbytes : (n + 1) * bytes ≤ 140737488355328) (hbase : base ≤ w.heap.size) :
    ∃ v' w', (Builtin.append_ #[t, t] ty #[v, .slice (some a) 1 c]).run P w = .ok v' w' ∧ OwnT w' base e v' (n + 1) (xs ++ [x]) ∧ w.grownBy w' v.ownBlock := by
  subst hby
  have hsmall : n + 1 ≤ 9223372036854775807 := by simp only [maxLen] at h63; omega
  have hlen : (xs ++ [x]).length = n + 1 := by rw [List.length_append, hown.1]; rfl
  have hn1 : ∀ (j : Nat) u, [x][j]? = some u → w.cell? (a.add j) = some u := by
    intro j u hu
    match j, hu with
    | 0, hu => simp at hu; subst hu; exact hnews
  obtain ⟨h0, g, off, cap, cur, rfl, hbg, hg, hnc, hcm, hcs, htake⟩ := hown
  by_cases hroom : n + 1 ≤ cap
  · have hf := run_firstCells_some (P := P) w i.size 1 a 1 c [x] (by rw [hsize]; rfl) hn1
    have hst := run_storeCells_at P g (off + n) e [x] 0 cur w hg (by simp; omega) (by simpa using h1)
    simp only [Nat.add_zero] at hst
    rw [hsize] at hf
    have hr : (Builtin.append_ #[t, t] ty #[.slice (some ⟨g, off, none⟩) n cap, .slice (some a) 1 c]).run P w = .ok (.slice (some ⟨g, off, none⟩) (n + 1) cap) (w.setRow g (cur.toList.take (off + n) ++ [x] ++ cur.toList.drop (off + n + [x].length)).toArray) := by
      simp only [List.length_singleton] at hst ⊢
      simp [Builtin.append_, run_underlying ht, sizeOf, typeInfo, hi, hsize, Builtin.lenOf, hroom, hf, Addr.add_lit, hst]
    refine ⟨_, _, hr, ⟨hlen, g, off, cap, _, rfl, hbg, setRow_heap w g cur _ e _ hg, hroom, hcm, ?_, ?_⟩, ⟨rfl, rfl, rfl, by simp, fun k _ hk => setRow_other w g k _ (fun e => hk (by simp [Value.ownBlock, e]))⟩⟩
    · simp only [List.size_toArray, List.length_append, List.length_take, List.length_drop, Array.length_toList, List.length_cons, List.length_nil]
      omega
    · have e1 : cur.toList.take (off + n) = cur.toList.take off ++ xs := by
        rw [← htake, List.take_add]
      rw [e1]
      simp only [List.append_assoc]
      have e2 : (cur.toList.take off).length = off := by rw [List.length_take, Array.length_toList]; omega
      rw [List.drop_append, e2, Nat.sub_self, List.drop_zero, List.drop_eq_nil_of_le (by omega), List.nil_append, ← List.append_assoc, ← hlen, List.take_left]
  · have holds : ∀ (j : Nat) u, xs[j]? = some u → w.cell? ((⟨g, off, none⟩ : Addr).add j) = some u := by
      intro j u hu
      have : (⟨g, off, none⟩ : Addr).add j = ⟨g, off + j, none⟩ := by unfold Addr.add; split <;> simp_all
      rw [this, cell_of_row w g _ cur e (0, 0) hg]
      rw [← htake, List.getElem?_take] at hu
      split at hu
      · rw [List.getElem?_drop] at hu
        rw [← Array.getElem?_toList]; exact hu
      · cases hu
    have hr := run_append_grow (P := P) w t ty e i z ht hi hz ⟨g, off, none⟩ n cap xs (by rw [hsize, h0]; omega) holds a 1 c [x] (by rw [hsize]; rfl) hn1 (by omega) (by omega) (growslice_fits (by omega) hbytes)
    have hge := grownCap_ge w (n + 1) cap e
    have hcm' : grownCap w (n + 1) cap e ≤ maxLen := grownCap_le_maxLen w (n + 1) cap e h63
    refine ⟨_, _, hr, ⟨hlen, w.heap.size, 0, _, _, rfl, hbase, heap_alloc_new w.drew _, hge, hcm', ?_, ?_⟩, ⟨rfl, rfl, rfl, by simp, fun k hk _ => Below.heap_alloc w.drew _ k hk⟩⟩
    · simp only [Array.size_append, List.size_toArray, size_zeroCells, hzs, h0, List.length_cons, List.length_nil]
      omega
    · simp only [Array.toList_append, List.drop_zero]
      rw [← hlen]
      exact List.take_left
theorem wp_append_tail {o : Oper} {a : Act} {K : Act → World → Prop} {Q : Exit → Act → World → Prop} (s x : Operand) (t : TypeId)
    (ho : o.op = .call { callee := .builtin .append, args := #[s, x], argTypes := #[t, t] })
    (base : Nat) (e : TypeId) (i : TypeInfo) (z : Value) (bytes : Nat) (ht : P.underlying t = some (.slice e)) (hi : P.info? e = some i) (hz : i.zero = some z)
    (hsize : i.size = 1) (hby : i.bytes = bytes) (hzs : z.cells.size = 1)
    (v : Value) (n : Nat) (xs : List Value) (hs : a.eval s = v) (hown : OwnT w base e v n xs)
    (ad : Addr) (c : Nat) (u : Value) (hx : a.eval x = .slice (some ad) 1 c) (hnews : w.cell? (ad.add 0) = some u) (h1 : u.oneCell' = true)
    (h63 : n + 1 ≤ maxLen) (hbytes : (n + 1) * bytes ≤ 140737488355328) (hbase : base ≤ w.heap.size)
    (h : ∀ v' w', OwnT w' base e v' (n + 1) (xs ++ [u]) → w.grownBy w' v.ownBlock → K (a.put o.dst v') w') : o.wp P a w K Q := by
  obtain ⟨v', w', hr, h2, h3⟩ := run_append_tail (P := P) w base t o.type e i z bytes ht hi hz hsize hby hzs v n xs hown ad c u hnews h1 h63 hbytes hbase
  unfold Oper.wp execOp
  simp only [ho, resolve, invoke, builtin, Sem.run_bind, Sem.run_pure, Result.andThen_ok, List.map_toArray, List.map_cons, List.map_nil, hs, hx, hr]
  exact h v' w' h2 h3
theorem wpList_append_tail {ops : Array Oper} {rest : List Oper} {o : Oper} {a : Act} {Q : Exit → Act → World → Prop} (hgd : o.guard = none) (s x : Operand) (t : TypeId)
    (ho : o.op = .call { callee := .builtin .append, args := #[s, x], argTypes := #[t, t] })
    (base : Nat) (e : TypeId) (i : TypeInfo) (z : Value) (bytes : Nat) (ht : P.underlying t = some (.slice e)) (hi : P.info? e = some i) (hz : i.zero = some z)
    (hsize : i.size = 1) (hby : i.bytes = bytes) (hzs : z.cells.size = 1)
    (v : Value) (n : Nat) (xs : List Value) (hs : a.eval s = v) (hown : OwnT w base e v n xs)
    (ad : Addr) (c : Nat) (u : Value) (hx : a.eval x = .slice (some ad) 1 c) (hnews : w.cell? (ad.add 0) = some u) (h1 : u.oneCell' = true)
    (h63 : n + 1 ≤ maxLen) (hbytes : (n + 1) * bytes ≤ 140737488355328) (hbase : base ≤ w.heap.size)
    (h : ∀ v' w', OwnT w' base e v' (n + 1) (xs ++ [u]) → w.grownBy w' v.ownBlock → wpList P ops Q rest (a.put o.dst v') w') : wpList P ops Q (o :: rest) a w :=
  wpList_plain hgd fun _ hK => wp_append_tail w s x t ho base e i z bytes ht hi hz hsize hby hzs v n xs hs hown ad c u hx hnews h1 h63 hbytes hbase fun v' w' h2 h3 => hK _ _ (h v' w' h2 h3)
end
end Go.Proofs.Ytobbepmlmbbamaa
