/-
 The texts Q, Vf, Lab, Row, Grow in one.
-/
import Derived.Test.YtcaoblilkgajoaaDoorG00
import Derived.Laws.AppendOwn
import Derived.Test.YtcaoblilkgajoaaDoorRows
import Derived.Laws.MakeOwn
import Derived.Laws.Rows
import Derived.Laws.OwnMore
import Derived.Shelf.Spec.SlicesGrow
set_option linter.unusedVariables false
set_option linter.unusedSimpArgs false
section
namespace Go.Proofs.YtcaoblilkgajoaaDoor
open Go Go.RowKit
/-- The slice value v, of n one-cell elements of type e, owns the cells xs; its row begins somewhere in a block from base on. -/
def OwnT (w : World) (base : Nat) (e : TypeId) (v : Value) (n : Nat) (xs : List Value) : Prop :=
 xs.length = n ∧ ∃ g off cap cur, v = .slice (some ⟨g, off, none⟩) n cap ∧ base ≤ g ∧ w.heap[g]? = some (.cells cur e (0, 0)) ∧ n ≤ cap ∧ cap ≤ maxLen ∧ off + cap ≤ cur.size ∧ (cur.toList.drop off).take n = xs
theorem lt_of_heap {w : World} {g : Nat} {o : Obj} (h : w.heap[g]? = some o) : g < w.heap.size := by
 rcases Nat.lt_or_ge g w.heap.size with h1 | h1
 ·exact h1
 ·rw [Array.getElem?_eq_none h1] at h; cases h
theorem OwnT.keep {w w' : World} {base : Nat} {e : TypeId} {v : Value} {n : Nat} {xs : List Value} (h : OwnT w base e v n xs) (hb : ∀ g, base ≤ g → g < w.heap.size → v.ownBlock = some g → w'.heap[g]? = w.heap[g]?) : OwnT w' base e v n xs := by
 obtain ⟨h0, g, off, cap, cur, rfl, h1, h2, h3⟩ := h
 exact ⟨h0, g, off, cap, cur, rfl, h1, (hb g h1 (lt_of_heap h2) rfl).trans h2, h3⟩
theorem OwnT.below {w w' : World} {base : Nat} {e : TypeId} {v : Value} {n : Nat} {xs : List Value} (h : OwnT w base e v n xs) (hb : Below w.heap.size w w') : OwnT w' base e v n xs :=
 h.keep fun g _ h2 _ => hb.block g h2
theorem OwnT.cells {w : World} {base : Nat} {e : TypeId} {v : Value} {n : Nat} {xs : List Value} (h : OwnT w base e v n xs) : ∃ g off cap, v = .slice (some ⟨g, off, none⟩) n cap ∧ base ≤ g ∧ g < w.heap.size ∧ n ≤ cap ∧ cap ≤ maxLen ∧ ∀ (j : Nat) u, xs[j]? = some u → w.cell? ⟨g, off + j, none⟩ = some u := by
 obtain ⟨h0, g, off, cap, cur, rfl, h1, h2, h3, h4, h5, h6⟩ := h
 refine ⟨g, off, cap, rfl, h1, lt_of_heap h2, h3, h4, fun j u hu => ?_⟩
 rw [cell_of_row w g _ cur e (0, 0) h2]
 rw [← h6, List.getElem?_take] at hu
 split at hu
 ·rw [List.getElem?_drop] at hu
  rw [← Array.getElem?_toList]; exact hu
 ·cases hu
/-- Behind 'v = v[1:]'. -/
theorem OwnT.tail0 {w : World} {base : Nat} {e : TypeId} {g off n cap : Nat} {x : Value} {xs : List Value} (h : OwnT w base e (.slice (some ⟨g, off, none⟩) (n + 1) cap) (n + 1) (x :: xs)) (hc : cap = 1) : OwnT w base e (.slice (some ⟨g, off, none⟩) n (cap - 1)) n xs := by
 obtain ⟨h0, g', off', cap', cur, e1, h1, h2, h3, h4, h5, h6⟩ := h
 injection e1 with e1 _ e2
 injection e1 with e1
 injection e1 with e3 e4
 subst e2; subst e3; subst e4
 have hl : xs.length = n := by simpa using h0
 obtain rfl : n = 0 := by omega
 exact ⟨hl, g, off, cap - 1, cur, rfl, h1, h2, by omega, by omega, by omega, by rw [List.take_zero]; exact (List.eq_nil_of_length_eq_zero hl).symm⟩
theorem OwnT.tail {w : World} {base : Nat} {e : TypeId} {g off n cap : Nat} {x : Value} {xs : List Value} (h : OwnT w base e (.slice (some ⟨g, off, none⟩) (n + 1) cap) (n + 1) (x :: xs)) : OwnT w base e (.slice (some ⟨g, off + 1, none⟩) n (cap - 1)) n xs := by
 obtain ⟨h0, g', off', cap', cur, e1, h1, h2, h3, h4, h5, h6⟩ := h
 injection e1 with e1 _ e2
 injection e1 with e1
 injection e1 with e3 e4
 subst e2; subst e3; subst e4
 have hl : xs.length = n := by simpa using h0
 refine ⟨hl, g, off + 1, cap - 1, cur, rfl, h1, h2, by omega, by omega, by omega, ?_⟩
 have e5 : cur.toList.drop off = (cur.toList.drop off).head?.getD x :: cur.toList.drop (off + 1) := by
  have : cur.toList.drop off ≠ [] := by
   intro e; rw [e] at h6; simp at h6
  rw [List.drop_eq_getElem_cons (by simp; omega)]
  simp
 rw [e5, List.take_succ_cons] at h6
 injection h6
section
variable {P : Program} (w : World)
theorem run_append_tail (base : Nat) (t ty e : TypeId) (i : TypeInfo) (z : Value) (bytes : Nat) (ht : P.underlying t = some (.slice e)) (hi : P.info? e = some i) (hz : i.zero = some z)
 (hsize : i.size = 1) (hby : i.bytes = bytes) (hzs : z.cells.size = 1)
 (v : Value) (n : Nat) (xs : List Value) (hown : OwnT w base e v n xs)
 (a : Addr) (c : Nat) (x : Value) (hnews : w.cell? (a.add 0) = some x) (h1 : x.oneCell' = true)
 (h63 : n + 1 ≤ maxLen) (hbytes : (n + 1) * bytes ≤ 140737488355328) (hbase : base ≤ w.heap.size) :
 ∃ v' w', (Builtin.append_ #[t, t] ty #[v, .slice (some a) 1 c]).run P w = .ok v' w' ∧ OwnT w' base e v' (n + 1) (xs ++ [x]) ∧ w.grownBy w' v.ownBlock := by
 subst hby
 have hsmall : n + 1 ≤ 9223372036854775807 := by simp only [maxLen] at h63; omega
 have hlen : (xs ++ [x]).length = n + 1 := by rw [List.length_append, hown.1]; rfl
 have hn1 : ∀ (j : Nat) u, [x][j]? = some u → w.cell? (a.add j) = some u := by
  intro j u hu
  match j, hu with
  | 0, hu => simp at hu; subst hu; exact hnews
 obtain ⟨h0, g, off, cap, cur, rfl, hbg, hg, hnc, hcm, hcs, htake⟩ := hown
 by_cases hroom : n + 1 ≤ cap
 ·have hf := run_firstCells_some (P := P) w i.size 1 a 1 c [x] (by rw [hsize]; rfl) hn1
  have hst := run_storeCells_at P g (off + n) e [x] 0 cur w hg (by simp; omega) (by simpa using h1)
  simp only [Nat.add_zero] at hst
  rw [hsize] at hf
  have hr : (Builtin.append_ #[t, t] ty #[.slice (some ⟨g, off, none⟩) n cap, .slice (some a) 1 c]).run P w = .ok (.slice (some ⟨g, off, none⟩) (n + 1) cap) (w.setRow g (cur.toList.take (off + n) ++ [x] ++ cur.toList.drop (off + n + [x].length)).toArray) := by
   simp only [List.length_singleton] at hst ⊢
   simp [Builtin.append_, run_underlying ht, sizeOf, typeInfo, hi, hsize, Builtin.lenOf, hroom, hf, Addr.add_lit, hst]
  refine ⟨_, _, hr, ⟨hlen, g, off, cap, _, rfl, hbg, setRow_heap w g cur _ e _ hg, hroom, hcm, ?_, ?_⟩, ⟨rfl, rfl, rfl, by simp, fun k _ hk => setRow_other w g k _ (fun e => hk (by simp [Value.ownBlock, e]))⟩⟩
  ·simp only [List.size_toArray, List.length_append, List.length_take, List.length_drop, Array.length_toList, List.length_cons, List.length_nil]
   omega
  ·have e1 : cur.toList.take (off + n) = cur.toList.take off ++ xs := by
    rw [← htake, List.take_add]
   rw [e1]
   simp only [List.append_assoc]
   have e2 : (cur.toList.take off).length = off := by rw [List.length_take, Array.length_toList]; omega
   rw [List.drop_append, e2, Nat.sub_self, List.drop_zero, List.drop_eq_nil_of_le (by omega), List.nil_append, ← List.append_assoc, ← hlen, List.take_left]
 ·have holds : ∀ (j : Nat) u, xs[j]? = some u → w.cell? ((⟨g, off, none⟩ : Addr).add j) = some u := by
   intro j u hu
   have : (⟨g, off, none⟩ : Addr).add j = ⟨g, off + j, none⟩ := by unfold Addr.add; split <;> simp_all
   rw [this, cell_of_row w g _ cur e (0, 0) hg]
   rw [← htake, List.getElem?_take] at hu
   split at hu
   ·rw [List.getElem?_drop] at hu
    rw [← Array.getElem?_toList]; exact hu
   ·cases hu
  have hr := run_append_grow (P := P) w t ty e i z ht hi hz ⟨g, off, none⟩ n cap xs (by rw [hsize, h0]; omega) holds a 1 c [x] (by rw [hsize]; rfl) hn1 (by omega) (by omega) (growslice_fits (by omega) hbytes)
  have hge := grownCap_ge w (n + 1) cap e
  have hcm' : grownCap w (n + 1) cap e ≤ maxLen := grownCap_le_maxLen w (n + 1) cap e h63
  refine ⟨_, _, hr, ⟨hlen, w.heap.size, 0, _, _, rfl, hbase, heap_alloc_new w.drew _, hge, hcm', ?_, ?_⟩, ⟨rfl, rfl, rfl, by simp, fun k hk _ => Below.heap_alloc w.drew _ k hk⟩⟩
  ·simp only [Array.size_append, List.size_toArray, size_zeroCells, hzs, h0, List.length_cons, List.length_nil]
   omega
  ·simp only [Array.toList_append, List.drop_zero]
   rw [← hlen]
   exact List.take_left
theorem wp_append_tail {o : Oper} {a : Act} {K : Act → World → Prop} {Q : Exit → Act → World → Prop} (s x : Operand) (t : TypeId)
 (ho : o.op = .call { callee := .builtin .append, args := #[s, x], argTypes := #[t, t] })
 (base : Nat) (e : TypeId) (i : TypeInfo) (z : Value) (bytes : Nat) (ht : P.underlying t = some (.slice e)) (hi : P.info? e = some i) (hz : i.zero = some z)
 (hsize : i.size = 1) (hby : i.bytes = bytes) (hzs : z.cells.size = 1)
 (v : Value) (n : Nat) (xs : List Value) (hs : a.eval s = v) (hown : OwnT w base e v n xs)
 (ad : Addr) (c : Nat) (u : Value) (hx : a.eval x = .slice (some ad) 1 c) (hnews : w.cell? (ad.add 0) = some u) (h1 : u.oneCell' = true)
 (h63 : n + 1 ≤ maxLen) (hbytes : (n + 1) * bytes ≤ 140737488355328) (hbase : base ≤ w.heap.size)
 (h : ∀ v' w', OwnT w' base e v' (n + 1) (xs ++ [u]) → w.grownBy w' v.ownBlock → K (a.put o.dst v') w') : o.wp P a w K Q := by
 obtain ⟨v', w', hr, h2, h3⟩ := run_append_tail (P := P) w base t o.type e i z bytes ht hi hz hsize hby hzs v n xs hown ad c u hnews h1 h63 hbytes hbase
 unfold Oper.wp execOp
 simp only [ho, resolve, invoke, builtin, Sem.run_bind, Sem.run_pure, Result.andThen_ok, List.map_toArray, List.map_cons, List.map_nil, hs, hx, hr]
 exact h v' w' h2 h3
theorem wpList_append_tail {ops : Array Oper} {rest : List Oper} {o : Oper} {a : Act} {Q : Exit → Act → World → Prop} (hgd : o.guard = none) (s x : Operand) (t : TypeId)
 (ho : o.op = .call { callee := .builtin .append, args := #[s, x], argTypes := #[t, t] })
 (base : Nat) (e : TypeId) (i : TypeInfo) (z : Value) (bytes : Nat) (ht : P.underlying t = some (.slice e)) (hi : P.info? e = some i) (hz : i.zero = some z)
 (hsize : i.size = 1) (hby : i.bytes = bytes) (hzs : z.cells.size = 1)
 (v : Value) (n : Nat) (xs : List Value) (hs : a.eval s = v) (hown : OwnT w base e v n xs)
 (ad : Addr) (c : Nat) (u : Value) (hx : a.eval x = .slice (some ad) 1 c) (hnews : w.cell? (ad.add 0) = some u) (h1 : u.oneCell' = true)
 (h63 : n + 1 ≤ maxLen) (hbytes : (n + 1) * bytes ≤ 140737488355328) (hbase : base ≤ w.heap.size)
 (h : ∀ v' w', OwnT w' base e v' (n + 1) (xs ++ [u]) → w.grownBy w' v.ownBlock → wpList P ops Q rest (a.put o.dst v') w') : wpList P ops Q (o :: rest) a w :=
 wpList_plain hgd fun _ hK => wp_append_tail w s x t ho base e i z bytes ht hi hz hsize hby hzs v n xs hs hown ad c u hx hnews h1 h63 hbytes hbase fun v' w' h2 h3 => hK _ _ (h v' w' h2 h3)
end
end Go.Proofs.YtcaoblilkgajoaaDoor
end
section
namespace Go.Proofs.YtcaoblilkgajoaaDoor.Pl
/-- The least of its class. -/
def Lst (S : Nat → Prop) (R : Nat → Nat → Prop) (h : Nat) : Prop := S h ∧ ∀ g, S g → R h g → h ≤ g
theorem cnt_step_pos {p : Nat → Prop} {k : Nat} (h : p k) : cnt p (k + 1) = cnt p k + 1 := by rw [cnt, if_pos h]
theorem cnt_step_neg {p : Nat → Prop} {k : Nat} (h : ¬ p k) : cnt p (k + 1) = cnt p k := by rw [cnt, if_neg h]; omega
theorem cnt_le (p : Nat → Prop) (j : Nat) : ∀ k, cnt p j ≤ cnt p (j + k)
 | 0 => Nat.le_refl _
 | k + 1 => by
   have := cnt_le p j k
   by_cases h : p (j + k)
   ·rw [← Nat.add_assoc, cnt_step_pos h]; omega
   ·rw [← Nat.add_assoc, cnt_step_neg h]; omega
theorem cnt_mono (p : Nat → Prop) {j k : Nat} (h : j ≤ k) : cnt p j ≤ cnt p k := by
 have := cnt_le p j (k - j)
 rwa [Nat.add_sub_cancel' h] at this
theorem cnt_lt {p : Nat → Prop} {j k : Nat} (hj : p j) (h : j < k) : cnt p j < cnt p k := by
 have h1 := cnt_mono p (show j + 1 ≤ k by omega)
 rw [cnt_step_pos hj] at h1
 omega
theorem cnt_surj (p : Nat → Prop) : ∀ (N i : Nat), i < cnt p N → ∃ x, x < N ∧ p x ∧ cnt p x = i
 | 0, i, h => by simp [cnt] at h
 | N + 1, i, h => by
   by_cases hp : p N
   ·rw [cnt_step_pos hp] at h
    by_cases e : i = cnt p N
    ·exact ⟨N, by omega, hp, e.symm⟩
    ·obtain ⟨x, h1, h2, h3⟩ := cnt_surj p N i (by omega)
     exact ⟨x, by omega, h2, h3⟩
   ·rw [cnt_step_neg hp] at h
    obtain ⟨x, h1, h2, h3⟩ := cnt_surj p N i h
    exact ⟨x, by omega, h2, h3⟩
theorem cnt_congr {p q : Nat → Prop} : ∀ (N : Nat), (∀ x, x < N → (p x ↔ q x)) → cnt p N = cnt q N
 | 0, _ => rfl
 | N + 1, h => by
   have ih := cnt_congr N (fun x hx => h x (by omega))
   by_cases hp : p N
   ·rw [cnt_step_pos hp, cnt_step_pos ((h N (by omega)).1 hp), ih]
   ·rw [cnt_step_neg hp, cnt_step_neg (fun hq => hp ((h N (by omega)).2 hq)), ih]
theorem cnt_top (p : Nat → Prop) : ∀ N, cnt p N ≤ N
 | 0 => Nat.le_refl _
 | N + 1 => by
   have := cnt_top p N
   by_cases h : p N
   ·rw [cnt_step_pos h]; omega
   ·rw [cnt_step_neg h]; omega
theorem least_of {p : Nat → Prop} (x : Nat) (hx : p x) : ∃ y, p y ∧ ∀ z, p z → y ≤ z := by
 induction x using Nat.strongRecOn with
 | _ x ih =>
   by_cases h : ∃ z, p z ∧ z < x
   ·obtain ⟨z, h1, h2⟩ := h; exact ih z h2 h1
   ·exact ⟨x, hx, fun z hz => Nat.le_of_not_lt fun h1 => h ⟨z, hz, h1⟩⟩
/-- The classes are counted by their least elements. -/
theorem Cls.count {S : Nat → Prop} {R : Nat → Nat → Prop} (N : Nat) (hN : ∀ x, S x → x < N) (hE : Eqv S R) : Cls S R (cnt (Lst S R) N) := by
 have hw : ∀ x : Nat, ∃ y : Nat, S x → Lst S R y ∧ R x y := fun x => by
  by_cases hx : S x
  ·obtain ⟨y, hy, hm⟩ := least_of (p := fun y => S y ∧ R x y) x ⟨hx, hE.refl x hx⟩
   exact ⟨y, fun _ => ⟨⟨hy.1, fun g hg e => hm g ⟨hg, hE.trans _ _ _ hx hy.1 hg hy.2 e⟩⟩, hy.2⟩⟩
  ·exact ⟨0, fun h => absurd h hx⟩
 have un : ∀ y z, Lst S R y → Lst S R z → R y z → y = z := fun y z hy hz e => Nat.le_antisymm (hy.2 z hz.1 e) (hz.2 y hy.1 (hE.symm _ _ hy.1 hz.1 e))
 refine ⟨fun x => cnt (Lst S R) (Classical.choose (hw x)), fun x hx => ?_, fun x y hx hy => ?_, fun i hi => ?_⟩
 ·have c := Classical.choose_spec (hw x) hx
  exact cnt_lt c.1 (hN _ c.1.1)
 ·have c := Classical.choose_spec (hw x) hx
  have c' := Classical.choose_spec (hw y) hy
  constructor
  ·intro e
   have e2 : Classical.choose (hw x) = Classical.choose (hw y) := by
    rcases Nat.lt_trichotomy (Classical.choose (hw x)) (Classical.choose (hw y)) with h | h | h
    ·have := cnt_lt c.1 h; exact absurd (show cnt (Lst S R) (Classical.choose (hw x)) = cnt (Lst S R) (Classical.choose (hw y)) from e) (by omega)
    ·exact h
    ·have := cnt_lt c'.1 h; exact absurd (show cnt (Lst S R) (Classical.choose (hw x)) = cnt (Lst S R) (Classical.choose (hw y)) from e) (by omega)
   exact hE.trans _ _ _ hx c.1.1 hy c.2 (e2 ▸ hE.symm _ _ hy c'.1.1 c'.2)
  ·intro e
   have e2 := un _ _ c.1 c'.1 (hE.trans _ _ _ c.1.1 hx c'.1.1 (hE.symm _ _ hx c.1.1 c.2) (hE.trans _ _ _ hx hy c'.1.1 e c'.2))
   show cnt (Lst S R) (Classical.choose (hw x)) = cnt (Lst S R) (Classical.choose (hw y))
   rw [e2]
 ·obtain ⟨x, h1, h2, h3⟩ := cnt_surj _ N i hi
  have c := Classical.choose_spec (hw x) h2.1
  have e2 := un _ _ h2 c.1 c.2
  refine ⟨x, h2.1, ?_⟩
  show cnt (Lst S R) (Classical.choose (hw x)) = i
  rw [← e2]; exact h3
theorem eq_eqv (S : Nat → Prop) : Eqv S Eq := ⟨fun _ _ => rfl, fun _ _ _ _ e => e.symm, fun _ _ _ _ _ _ e e' => e.trans e'⟩
theorem Cls.card {S : Nat → Prop} (N : Nat) (hN : ∀ x, S x → x < N) : Cls S Eq (cnt S N) := by
 have := Cls.count (R := Eq) N hN (eq_eqv S)
 rwa [cnt_congr N (fun x _ => ⟨fun h => h.1, fun h => ⟨h, fun g _ e => Nat.le_of_eq e⟩⟩)] at this
/-- The half-edges of the component of a crossing. -/
def part (d : Dg) (c h : Nat) : Prop := h < 4 * d.n ∧ Comp d c (h / 4)
variable {d : Dg}
theorem comp_mem (hd : Wf d) {a b : Nat} (ha : a < d.n) (e : Comp d a b) : b < d.n := by
 have := hd.hm.con_mem (x := 4 * a) (by unfold dart; omega) e
 unfold dart at this; omega
theorem comp_symm (hd : Wf d) {a b : Nat} (ha : a < d.n) (e : Comp d a b) : Comp d b a := hd.hm.con_symm (by unfold dart; omega) e
theorem part_con (hd : Wf d) {c g h : Nat} (_ : c < d.n) (hg : part d c g) (e : Con rot d.m g h) : part d c h := by
 have hh := hd.hm.con_mem (x := g) hg.1 e
 exact ⟨hh, hg.2.trans ((con_comp hd hg.1 hh).1 e)⟩
theorem part_hm (hd : Wf d) {c : Nat} (hc : c < d.n) : Hm (4 * d.n) (part d c) rot d.m :=
 ⟨⟨fun _ h => h.1, fun x hx => part_con hd hc hx (Con.refl.left), fun _ _ _ _ e => tn_inj e⟩,
  ⟨fun _ h => h.1, fun x hx => part_con hd hc hx (Con.refl.right), fun x y hx hy e => hd.bij.inj x y hx.1 hy.1 e⟩, fun x hx => hd.inv x hx.1⟩
theorem part_one (hd : Wf d) {c g h : Nat} (hc : c < d.n) (hg : part d c g) (hh : part d c h) : Con rot d.m g h :=
 (con_comp hd hg.1 hh.1).2 ((comp_symm hd hc hg.2).trans hh.2)
theorem out_way (hd : Wf d) {h : Nat} (hh : h < 4 * d.n) : out d (d.m h) = !out d h := by
 have := hd.way h hh
 cases h1 : out d h <;> cases h2 : out d (d.m h) <;> simp_all
theorem orb_div {x y : Nat} (e : Orb rot x y) : y / 4 = x / 4 := orb_closed (P := fun z => z / 4 = x / 4) (fun z hz => by show rot z / 4 = _; unfold rot; rw [tn_div, hz]) rfl e
/-- A component's genus: two more than its crossings, less its faces. -/
theorem part_gen (hd : Wf d) {c : Nat} (hc : c < d.n) :
 Gen (part d c) rot d.m (2 + (cnt (fun b => Comp d c b) d.n : Int) - (cnt (fun h => Least (nx d) h ∧ Comp d c (h / 4)) (4 * d.n) : Int)) := by
 have H := part_hm hd hc
 -- crossings
 have cb : Cls (fun b => b < d.n ∧ Comp d c b) Eq (cnt (fun b => Comp d c b) d.n) := by
  have := Cls.card (S := fun b => b < d.n ∧ Comp d c b) d.n (fun _ h => h.1)
  rwa [cnt_congr (q := fun b => Comp d c b) d.n (fun x hx => ⟨fun h => h.2, fun h => ⟨hx, h⟩⟩)] at this
 have slot : ∀ k, k < 4 → Cls (fun h => part d c h ∧ h % 4 = k) Eq (cnt (fun b => Comp d c b) d.n) := fun k hk =>
  cb.map (fun b => 4 * b + k) (fun x hx => by
   refine ⟨⟨by have := hx.1; omega, ?_⟩, by omega⟩
   rw [show (4 * x + k) / 4 = x by omega]; exact hx.2) (fun y hy => ⟨y / 4, ⟨by have := hy.1.1; omega, hy.1.2⟩, by have := hy.2; omega⟩) (fun x y _ _ => by omega)
 have hv : Cls (part d c) (Orb rot) (cnt (fun b => Comp d c b) d.n) := by
  refine Cls.sup (D := fun h => part d c h ∧ h % 4 = 0) ((slot 0 (by omega)).congr (fun _ => Iff.rfl) (fun x y hx hy => ⟨fun e => e ▸ Orb.refl _ _, fun e => ?_⟩)) H.rb.eqv (fun _ h => h.1) (fun x hx => ?_)
  ·have h1 := orb_div e
   have h2 := hx.2
   have h3 := hy.2
   omega
  ·have h1 := H.rb.lt x hx
   refine ⟨4 * (x / 4), ⟨⟨by omega, ?_⟩, by omega⟩, (rot_bij d.n).symm (show 4 * (x / 4) < 4 * d.n by omega) (orb_rot0 x)⟩
   rw [show 4 * (x / 4) / 4 = x / 4 by omega]; exact hx.2
 have hdn : Cls (part d c) Eq (cnt (fun b => Comp d c b) d.n * 4) := by
  have e0 := slot 0 (by omega)
  have e1 := e0.add (slot 1 (by omega)) (fun x y hx hy e => by have h1 := hx.2; have h2 := hy.2; omega) (fun x y hx hy e => by have h1 := hx.2; have h2 := hy.2; omega) (fun x hx hy => by have h1 := hx.2; have h2 := hy.2; omega)
  have e2 := e1.add (slot 2 (by omega)) (fun x y hx hy e => by have h2 := hy.2; rcases hx with hx | hx <;> have h1 := hx.2 <;> omega) (fun x y hx hy e => by have h2 := hy.2; rcases hx with hx | hx <;> have h1 := hx.2 <;> omega) (fun x hx hy => by have h2 := hy.2; rcases hx with hx | hx <;> have h1 := hx.2 <;> omega)
  have e3 := e2.add (slot 3 (by omega)) (fun x y hx hy e => by have h2 := hy.2; rcases hx with (hx | hx) | hx <;> have h1 := hx.2 <;> omega) (fun x y hx hy e => by have h2 := hy.2; rcases hx with (hx | hx) | hx <;> have h1 := hx.2 <;> omega) (fun x hx hy => by have h2 := hy.2; rcases hx with (hx | hx) | hx <;> have h1 := hx.2 <;> omega)
  have := e3.congr (S' := part d c) (R' := Eq) (fun x => ⟨fun h => by rcases h with ((h | h) | h) | h <;> exact h.1, fun h => by
   have : x % 4 = 0 ∨ x % 4 = 1 ∨ x % 4 = 2 ∨ x % 4 = 3 := by omega
   rcases this with e | e | e | e
   ·exact .inl (.inl (.inl ⟨h, e⟩))
   ·exact .inl (.inl (.inr ⟨h, e⟩))
   ·exact .inl (.inr ⟨h, e⟩)
   ·exact .inr ⟨h, e⟩⟩) (fun _ _ _ _ => Iff.rfl)
  rwa [show cnt (fun b => Comp d c b) d.n + cnt (fun b => Comp d c b) d.n + cnt (fun b => Comp d c b) d.n + cnt (fun b => Comp d c b) d.n = cnt (fun b => Comp d c b) d.n * 4 by omega] at this
 -- edges
 have ho : Cls (fun h => part d c h ∧ out d h = true) Eq (cnt (fun h => part d c h ∧ out d h = true) (4 * d.n)) := Cls.card _ (fun _ h => h.1.1)
 have hi : Cls (fun h => part d c h ∧ out d h = false) Eq (cnt (fun h => part d c h ∧ out d h = true) (4 * d.n)) :=
  ho.map d.m (fun x hx => ⟨H.ab.maps x hx.1, by rw [out_way hd hx.1.1, hx.2]; rfl⟩)
   (fun y hy => ⟨d.m y, ⟨H.ab.maps y hy.1, by rw [out_way hd hy.1.1, hy.2]; rfl⟩, hd.inv y hy.1.1⟩) (fun x y hx hy => ⟨fun e => by rw [e], fun e => hd.bij.inj x y hx.1.1 hy.1.1 e⟩)
 have hboth := ho.add hi (fun x y hx hy e => by have h1 := hx.2; have h2 := hy.2; rw [e, h2] at h1; cases h1) (fun x y hx hy e => by have h1 := hx.2; have h2 := hy.2; rw [e, h1] at h2; cases h2) (fun x hx hy => by have h1 := hx.2; rw [hy.2] at h1; cases h1)
 have hda := hdn.unique (hboth.congr (S' := part d c) (fun x => ⟨fun h => by rcases h with h | h <;> exact h.1, fun h => by
  rcases Bool.eq_false_or_eq_true (out d x) with e | e
  ·exact .inl ⟨h, e⟩
  ·exact .inr ⟨h, e⟩⟩) (fun _ _ _ _ => Iff.rfl))
 have hk : Cls (part d c) (Orb d.m) (cnt (fun h => part d c h ∧ out d h = true) (4 * d.n)) := by
  refine Cls.sup (D := fun h => part d c h ∧ out d h = true) (ho.congr (fun _ => Iff.rfl) (fun x y hx hy => ⟨fun e => e ▸ Orb.refl _ _, fun e => ?_⟩)) H.ab.eqv (fun _ h => h.1) (fun x hx => ?_)
  ·have : y = x ∨ y = d.m x := orb_closed (P := fun z => z = x ∨ z = d.m x) (fun z hz => by
    rcases hz with rfl | rfl
    ·exact .inr rfl
    ·exact .inl (hd.inv x hx.1.1)) (.inl rfl) e
   rcases this with h | h
   ·exact h.symm
   ·have h2 := hy.2; rw [h, out_way hd hx.1.1, hx.2] at h2; cases h2
  ·rcases Bool.eq_false_or_eq_true (out d x) with e | e
   ·exact ⟨x, ⟨hx, e⟩, Orb.refl _ _⟩
   ·exact ⟨d.m x, ⟨H.ab.maps x hx, by rw [out_way hd hx.1, e]; rfl⟩, Orb.step _ _⟩
 -- faces
 have hf : Cls (part d c) (Orb (phi rot d.m)) (cnt (fun h => Least (nx d) h ∧ Comp d c (h / 4)) (4 * d.n)) := by
  have := Cls.count (4 * d.n) H.pb.lt H.pb.eqv
  rwa [cnt_congr (q := fun h => Least (nx d) h ∧ Comp d c (h / 4)) (4 * d.n) (fun x hx => ⟨fun h => ⟨fun k => h.2 _ (H.pb.it k x h.1) ⟨k, rfl⟩, h.1.2⟩, fun h => ⟨⟨hx, h.2⟩, fun g _ e => by
   obtain ⟨k, rfl⟩ := e
   exact h.1 k⟩⟩)] at this
 -- one component
 have hc1 : Cls (part d c) (Con rot d.m) 1 :=
  ⟨fun _ => 0, fun _ _ => Nat.zero_lt_one, fun x y hx hy => ⟨fun _ => part_one hd hc hx hy, fun _ => rfl⟩, fun i hi => ⟨4 * c, ⟨by omega, by rw [show 4 * c / 4 = c by omega]; exact .refl⟩, show 0 = i by omega⟩⟩
 exact ⟨_, _, _, _, _, hv, hdn, hk, hf, hc1, by omega⟩
/-- THE RULE OF FACES SAYS: a plane map. -/
theorem flat_iff (hd : Wf d) : (∀ c, c < d.n → cnt (fun h => Least (nx d) h ∧ Comp d c (h / 4)) (4 * d.n) = cnt (fun b => Comp d c b) d.n + 2) ↔ Flat (dart d) rot d.m := by
 constructor
 ·intro h
  -- by crossings
  have key : ∀ k, k ≤ d.n → Gen (fun h => h < 4 * d.n ∧ ∃ c, c < k ∧ Comp d c (h / 4)) rot d.m 0 ∧ Hm (4 * d.n) (fun h => h < 4 * d.n ∧ ∃ c, c < k ∧ Comp d c (h / 4)) rot d.m := by
   intro k hk
   refine ⟨?_, ⟨⟨fun _ h => h.1, fun x hx => ⟨tn_lt hx.1, ?_⟩, fun _ _ _ _ e => tn_inj e⟩, ⟨fun _ h => h.1, fun x hx => ?_, fun x y hx hy e => hd.bij.inj x y hx.1 hy.1 e⟩, fun x hx => hd.inv x hx.1⟩⟩
   ·induction k with
    | zero =>
      have e : ∀ x, ¬ (x < 4 * d.n ∧ ∃ c, c < 0 ∧ Comp d c (x / 4)) := fun x hx => by obtain ⟨_, c, h, _⟩ := hx; omega
      exact ⟨0, 0, 0, 0, 0, Cls.empty e, Cls.empty e, Cls.empty e, Cls.empty e, Cls.empty e, rfl⟩
    | succ k ih =>
      have ih := ih (by omega)
      by_cases hx : ∃ c, c < k ∧ Comp d c k
      ·obtain ⟨c0, h1, h2⟩ := hx
       have e : (fun h => h < 4 * d.n ∧ ∃ c, c < k + 1 ∧ Comp d c (h / 4)) = (fun h => h < 4 * d.n ∧ ∃ c, c < k ∧ Comp d c (h / 4)) := by
        funext x
        refine propext ⟨fun ⟨a, c, h3, h4⟩ => ⟨a, ?_⟩, fun ⟨a, c, h3, h4⟩ => ⟨a, c, by omega, h4⟩⟩
        by_cases e : c = k
        ·subst e; exact ⟨c0, h1, h2.trans h4⟩
        ·exact ⟨c, by omega, h4⟩
       rw [e]; exact ih
      ·have hp := part_gen hd (c := k) (by omega)
       rw [h k (by omega), show (2 : Int) + (cnt (fun b => Comp d k b) d.n : Int) - ((cnt (fun b => Comp d k b) d.n + 2 : Nat) : Int) = 0 by omega] at hp
       have hh : Hm (4 * d.n) (fun h => h < 4 * d.n ∧ ∃ c, c < k ∧ Comp d c (h / 4)) rot d.m := by
        refine ⟨⟨fun _ h => h.1, fun x hx => ⟨tn_lt hx.1, ?_⟩, fun _ _ _ _ e => tn_inj e⟩, ⟨fun _ h => h.1, fun x hx => ?_, fun x y hx hy e => hd.bij.inj x y hx.1 hy.1 e⟩, fun x hx => hd.inv x hx.1⟩
        ·obtain ⟨_, c, h1, h2⟩ := hx
         exact ⟨c, h1, by unfold rot; rw [tn_div]; exact h2⟩
        ·obtain ⟨h0, c, h1, h2⟩ := hx
         have := part_con hd (c := c) (g := x) (by omega) ⟨h0, h2⟩ (Con.refl.right)
         exact ⟨this.1, c, h1, this.2⟩
       have := Gen.add hh (part_hm hd (c := k) (by omega)) (fun x hx1 hx2 => by
        obtain ⟨h0, c, h1, h2⟩ := hx1
        exact hx ⟨c, h1, h2.trans (comp_symm hd (by omega) hx2.2)⟩) ih hp
       have e : (fun h => h < 4 * d.n ∧ ∃ c, c < k + 1 ∧ Comp d c (h / 4)) = (fun x => (x < 4 * d.n ∧ ∃ c, c < k ∧ Comp d c (x / 4)) ∨ part d k x) := by
        funext x
        refine propext ⟨fun ⟨a, c, h3, h4⟩ => ?_, fun h => ?_⟩
        ·by_cases e : c = k
         ·subst e; exact .inr ⟨a, h4⟩
         ·exact .inl ⟨a, c, by omega, h4⟩
        ·rcases h with ⟨a, c, h3, h4⟩ | ⟨a, h4⟩
         ·exact ⟨a, c, by omega, h4⟩
         ·exact ⟨a, k, by omega, h4⟩
       rw [e]
       simpa using this
   ·obtain ⟨_, c, h1, h2⟩ := hx
    exact ⟨c, h1, by unfold rot; rw [tn_div]; exact h2⟩
   ·obtain ⟨h0, c, h1, h2⟩ := hx
    have := part_con hd (c := c) (g := x) (by omega) ⟨h0, h2⟩ (Con.refl.right)
    exact ⟨this.1, c, h1, this.2⟩
  have := (key d.n (Nat.le_refl _)).1
  have e : (fun h => h < 4 * d.n ∧ ∃ c, c < d.n ∧ Comp d c (h / 4)) = dart d := by
   funext x
   exact propext ⟨fun h => h.1, fun h => ⟨h, x / 4, by unfold dart at h; omega, .refl⟩⟩
  rw [e] at this
  exact this
 ·intro hf c hc
  have hp := part_gen hd hc
  -- the others
  have hr : Hm (4 * d.n) (fun h => h < 4 * d.n ∧ ¬ Comp d c (h / 4)) rot d.m := by
   refine ⟨⟨fun _ h => h.1, fun x hx => ⟨tn_lt hx.1, by unfold rot; rw [tn_div]; exact hx.2⟩, fun _ _ _ _ e => tn_inj e⟩, ⟨fun _ h => h.1, fun x hx => ⟨hd.lt x hx.1, fun e => hx.2 ?_⟩, fun x y hx hy e => hd.bij.inj x y hx.1 hy.1 e⟩, fun x hx => hd.inv x hx.1⟩
   have := part_con hd (c := c) (g := d.m x) hc ⟨hd.lt x hx.1, e⟩ (Con.refl.right)
   rw [hd.inv x hx.1] at this
   exact this.2
  obtain ⟨z, hz⟩ := hr.gen
  have hs := Gen.add (part_hm hd hc) hr (fun x h1 h2 => h2.2 h1.2) hp hz
  have e : (fun x => part d c x ∨ (x < 4 * d.n ∧ ¬ Comp d c (x / 4))) = dart d := by
   funext x
   refine propext ⟨fun h => by rcases h with h | h <;> exact h.1, fun h => ?_⟩
   by_cases e : Comp d c (x / 4)
   ·exact .inl ⟨h, e⟩
   ·exact .inr ⟨h, e⟩
  rw [e] at hs
  have h1 := hf.unique hs
  have h2 := Gen.nonneg (part_hm hd hc) hp
  have h3 := Gen.nonneg hr hz
  omega
theorem Valid.iff : Valid d ↔ Wf d ∧ Flat (dart d) rot d.m :=
 ⟨fun h => ⟨h.wf, (flat_iff h.wf).1 h.flat⟩, fun h => ⟨h.1, (flat_iff h.1).2 h.2⟩⟩
end Go.Proofs.YtcaoblilkgajoaaDoor.Pl
end
section
namespace Go.Proofs.YtcaoblilkgajoaaDoor.Pl
/-- The label of a crossing. -/
def pv (ps : List Int) (a : Nat) : Int := ps.getD a 0
theorem pv_set {ps : List Int} {i : Nat} (hi : i < ps.length) (v : Int) (a : Nat) : pv (ps.set i v) a = if a = i then v else pv ps a := by
 unfold pv
 rw [List.getD_eq_getElem?_getD, List.getD_eq_getElem?_getD, List.getElem?_set]
 by_cases h : i = a
 ·subst h; simp [hi]
 ·rw [if_neg h, if_neg (fun e => h e.symm)]
def unl (ps : List Int) : Nat := ps.countP (fun z => decide (z < 0))
theorem unl_set {ps : List Int} {i : Nat} (hi : i < ps.length) (hn : pv ps i < 0) {v : Int} (hv : 0 ≤ v) : unl (ps.set i v) + 1 = unl ps := by
 have e : pv ps i = ps[i] := by unfold pv; rw [List.getD_eq_getElem?_getD, List.getElem?_eq_getElem hi]; rfl
 have hp : 0 < unl ps := by
  unfold unl
  rw [List.countP_pos_iff]
  exact ⟨ps[i], List.getElem_mem hi, by rw [← e]; simpa using hn⟩
 unfold unl at hp ⊢
 rw [List.countP_set hi]
 have h1 : decide (ps[i] < 0) = true := by rw [← e]; simpa using hn
 have h2 : decide (v < 0) = false := by simpa using hv
 rw [h1, h2]
 simp only [if_true, Bool.false_eq_true, if_false]
 omega
theorem fill_set {k n : Nat} (h : k < n) : (List.replicate k (-1 : Int) ++ List.replicate (n - k) 0).set k (-1) = List.replicate (k + 1) (-1) ++ List.replicate (n - (k + 1)) 0 := by
 refine List.ext_getElem (by simp; omega) (fun i h1 h2 => ?_)
 simp only [List.getElem_set, List.getElem_append, List.getElem_replicate, List.length_replicate]
 split <;> split <;> (try split) <;> omega
variable {d : Dg}
/-- The crossing at the other end of an edge. -/
def nb (d : Dg) (a t : Nat) : Nat := d.m (4 * a + t) / 4
theorem nb_lt (hd : Wf d) {a t : Nat} (ha : a < d.n) (ht : t < 4) : nb d a t < d.n := by
 have := hd.lt (4 * a + t) (by omega)
 unfold nb; omega
theorem nb_comp (hd : Wf d) {a t : Nat} (ha : a < d.n) (ht : t < 4) : Comp d a (nb d a t) := by
 have h1 := (con_comp hd (g := 4 * a + t) (h := d.m (4 * a + t)) (by omega) (hd.lt _ (by omega))).1 (Con.refl.right)
 rwa [show (4 * a + t) / 4 = a by omega] at h1
/-- A set of crossings that holds its neighbours holds its components. -/
theorem comp_closed (hd : Wf d) {P : Nat → Prop} (hP : ∀ a, a < d.n → P a → ∀ t, t < 4 → P (nb d a t)) {a b : Nat} (ha : a < d.n) (h : P a) (e : Comp d a b) : P b := by
 have : ∀ y, Con rot d.m (4 * a) y → y < 4 * d.n ∧ P (y / 4) := by
  intro y e
  induction e with
  | refl => exact ⟨by omega, by rw [show 4 * a / 4 = a by omega]; exact h⟩
  | left _ ih => exact ⟨tn_lt ih.1, by unfold rot; rw [tn_div]; exact ih.2⟩
  | right _ ih =>
    rename_i y _
    refine ⟨hd.lt y ih.1, ?_⟩
    have := hP (y / 4) (by omega) ih.2 (y % 4) (by omega)
    unfold nb at this
    rwa [show 4 * (y / 4) + y % 4 = y by omega] at this
 have := (this _ e).2
 rwa [show 4 * b / 4 = b by omega] at this
/-- Whole components bear the labels below P, each its own. -/
structure LB (d : Dg) (ps : List Int) (P : Nat) : Prop where
 len : ps.length = d.n
 lo : ∀ a, a < d.n → -1 ≤ pv ps a ∧ pv ps a < P
 same : ∀ a b, a < d.n → Comp d a b → 0 ≤ pv ps a → pv ps b = pv ps a
 conn : ∀ a b, a < d.n → b < d.n → 0 ≤ pv ps a → pv ps a = pv ps b → Comp d a b
 all : ∀ p : Nat, p < P → ∃ a, a < d.n ∧ pv ps a = p
theorem LB.le {ps : List Int} {P : Nat} (h : LB d ps P) : P ≤ d.n := by
 have hw : ∀ p : Nat, ∃ a : Nat, p < P → a < d.n ∧ pv ps a = p := fun p => by
  by_cases hp : p < P
  ·obtain ⟨a, ha⟩ := h.all p hp; exact ⟨a, fun _ => ha⟩
  ·exact ⟨0, fun e => absurd e hp⟩
 refine pigeon P d.n (fun p => Classical.choose (hw p)) (fun p hp => (Classical.choose_spec (hw p) hp).1) (fun p q hp hq e => ?_)
 have e1 := (Classical.choose_spec (hw p) hp).2
 have e2 := (Classical.choose_spec (hw q) hq).2
 have e' : Classical.choose (hw p) = Classical.choose (hw q) := e
 rw [e', e2] at e1
 omega
theorem LB.start (d : Dg) : LB d (List.replicate d.n (-1)) 0 := by
 have e : ∀ a, a < d.n → pv (List.replicate d.n (-1)) a = -1 := fun a ha => by
  unfold pv; rw [List.getD_eq_getElem?_getD, List.getElem?_replicate, if_pos ha]; rfl
 exact ⟨by simp, fun a ha => by rw [e a ha]; omega, fun a b ha _ h => by rw [e a ha] at h; omega, fun a b ha _ h => by rw [e a ha] at h; omega, fun p hp => by omega⟩
/-- No crossing of the component of an unlabelled one is labelled. -/
theorem LB.none (hd : Wf d) {ps : List Int} {P : Nat} (h : LB d ps P) {c b : Nat} (hc : c < d.n) (hn : pv ps c < 0) (e : Comp d c b) : pv ps b < 0 := by
 have hb := comp_mem hd hc e
 by_cases h0 : 0 ≤ pv ps b
 ·have := h.same b c hb (comp_symm hd hc e) h0
  omega
 ·omega
/-- While the component of c is searched: qs waits, the slots of u below s are done. -/
structure LQ (d : Dg) (c : Nat) (p0 : List Int) (P : Nat) (ps : List Int) (qs : List Nat) (u s : Nat) : Prop where
 base : LB d p0 P
 hc : c < d.n
 new : pv p0 c < 0
 len : ps.length = d.n
 me : pv ps c = P
 mine : ∀ a, a < d.n → pv ps a = P → Comp d c a
 old : ∀ a, a < d.n → pv ps a ≠ P → pv ps a = pv p0 a
 wait : ∀ q, q ∈ qs → q < d.n ∧ pv ps q = P
 brd : ∀ a, a < d.n → pv ps a = P → a ∈ qs ∨ ∀ t, t < 4 → (a = u → t < s) → 0 ≤ pv ps (nb d a t)
theorem LQ.start {c : Nat} {p0 : List Int} {P : Nat} (h : LB d p0 P) (hc : c < d.n) (hn : pv p0 c < 0) : LQ d c p0 P (p0.set c P) [c] d.n 0 := by
 have hl : c < p0.length := by rw [h.len]; exact hc
 refine ⟨h, hc, hn, by rw [List.length_set, h.len], by rw [pv_set hl, if_pos rfl], fun a ha e => ?_, fun a ha e => ?_, fun q hq => ?_, fun a ha e => ?_⟩
 ·rw [pv_set hl] at e
  by_cases h1 : a = c
  ·subst h1; exact .refl
  ·rw [if_neg h1] at e; have := (h.lo a ha).2; omega
 ·rw [pv_set hl] at e ⊢
  by_cases h1 : a = c
  ·rw [if_pos h1] at e; exact absurd rfl e
  ·rw [if_neg h1]
 ·rw [List.mem_singleton] at hq; subst hq; exact ⟨hc, by rw [pv_set hl, if_pos rfl]⟩
 ·rw [pv_set hl] at e
  by_cases h1 : a = c
  ·exact .inl (by rw [h1]; simp)
  ·rw [if_neg h1] at e; have := (h.lo a ha).2; omega
theorem LQ.pop {c : Nat} {p0 ps : List Int} {P q s u : Nat} {qs : List Nat} (h : LQ d c p0 P ps (q :: qs) u s) (hu : u = d.n) : LQ d c p0 P ps qs q 0 := by
 refine ⟨h.base, h.hc, h.new, h.len, h.me, h.mine, h.old, fun x hx => h.wait x (by simp [hx]), fun a ha e => ?_⟩
 rcases h.brd a ha e with h1 | h1
 ·by_cases h2 : a = q
  ·exact .inr fun t _ h3 => absurd (h3 h2) (by omega)
  ·exact .inl (by simpa [h2] using h1)
 ·exact .inr fun t ht _ => h1 t ht (fun e => absurd e (by omega))
theorem LQ.ge {c : Nat} {p0 ps : List Int} {P s u : Nat} {qs : List Nat} (h : LQ d c p0 P ps qs u s) {a : Nat} (ha : a < d.n) : -1 ≤ pv ps a ∧ pv ps a < (P + 1 : Nat) := by
 by_cases e : pv ps a = P
 ·omega
 ·rw [h.old a ha e]; have := h.base.lo a ha; omega
/-- The neighbour at the slot s has a label. -/
theorem LQ.skip {c : Nat} {p0 ps : List Int} {P s u : Nat} {qs : List Nat} (h : LQ d c p0 P ps qs u s) (hn : 0 ≤ pv ps (nb d u s)) : LQ d c p0 P ps qs u (s + 1) := by
 refine ⟨h.base, h.hc, h.new, h.len, h.me, h.mine, h.old, h.wait, fun a ha e => ?_⟩
 rcases h.brd a ha e with h1 | h1
 ·exact .inl h1
 ·refine .inr fun t ht h2 => ?_
  by_cases h3 : a = u ∧ t = s
  ·obtain ⟨rfl, rfl⟩ := h3; exact hn
  ·exact h1 t ht (fun e => by
    have := h2 e
    have : t ≠ s := fun e2 => h3 ⟨e, e2⟩
    omega)
/-- It has none: it gets one, and waits. -/
theorem LQ.push (hd : Wf d) {c : Nat} {p0 ps : List Int} {P s u : Nat} {qs : List Nat} (h : LQ d c p0 P ps qs u s) (hu : u < d.n) (hup : pv ps u = P) (hs : s < 4) (_ : pv ps (nb d u s) < 0) :
 LQ d c p0 P (ps.set (nb d u s) P) (qs ++ [nb d u s]) u (s + 1) := by
 have hb := nb_lt hd hu hs
 have hl : nb d u s < ps.length := by rw [h.len]; exact hb
 have hcb : Comp d c (nb d u s) := (h.mine u hu hup).trans (nb_comp hd hu hs)
 refine ⟨h.base, h.hc, h.new, by rw [List.length_set, h.len], ?_, fun a ha e => ?_, fun a ha e => ?_, fun q hq => ?_, fun a ha e => ?_⟩
 ·rw [pv_set hl]; split
  ·rfl
  ·exact h.me
 ·rw [pv_set hl] at e
  by_cases h1 : a = nb d u s
  ·rw [h1]; exact hcb
  ·rw [if_neg h1] at e; exact h.mine a ha e
 ·rw [pv_set hl] at e ⊢
  by_cases h1 : a = nb d u s
  ·rw [if_pos h1] at e; exact absurd rfl e
  ·rw [if_neg h1] at e ⊢; exact h.old a ha e
 ·rw [List.mem_append, List.mem_singleton] at hq
  rw [pv_set hl]
  rcases hq with hq | hq
  ·exact ⟨(h.wait q hq).1, by split; rfl; exact (h.wait q hq).2⟩
  ·subst hq; exact ⟨hb, by rw [if_pos rfl]⟩
 ·by_cases h1 : a = nb d u s
  ·exact .inl (by rw [h1]; simp)
  ·rw [pv_set hl, if_neg h1] at e
   rcases h.brd a ha e with h2 | h2
   ·exact .inl (by simp [h2])
   ·refine .inr fun t ht h3 => ?_
    rw [pv_set hl]
    split
    ·omega
    ·rename_i h4
     refine h2 t ht (fun e => ?_)
     have := h3 e
     have : t ≠ s := fun e2 => h4 (by rw [e, e2])
     omega
theorem LQ.rest {c : Nat} {p0 ps : List Int} {P u : Nat} {qs : List Nat} (h : LQ d c p0 P ps qs u 4) : LQ d c p0 P ps qs d.n 0 :=
 ⟨h.base, h.hc, h.new, h.len, h.me, h.mine, h.old, h.wait, fun a ha e => (h.brd a ha e).imp id fun h1 t ht _ => h1 t ht (fun _ => ht)⟩
/-- THE QUEUE IS EMPTY: the component is done. -/
theorem LQ.done (hd : Wf d) {c : Nat} {p0 ps : List Int} {P s : Nat} (h : LQ d c p0 P ps [] d.n s) : LB d ps (P + 1) ∧ (∀ a, a < d.n → 0 ≤ pv p0 a → 0 ≤ pv ps a) ∧ 0 ≤ pv ps c := by
 have full : ∀ b, Comp d c b → pv ps b = P := by
  intro b e
  have : b < d.n ∧ pv ps b = P := by
   refine comp_closed hd (P := fun a => a < d.n ∧ pv ps a = P) (fun a ha ⟨_, h2⟩ t ht => ?_) h.hc ⟨h.hc, h.me⟩ e
   refine ⟨nb_lt hd ha ht, ?_⟩
   rcases h.brd a ha h2 with h3 | h3
   ·cases h3
   ·have h4 := h3 t ht (fun e => absurd e (by omega))
    by_cases h5 : pv ps (nb d a t) = P
    ·exact h5
    ·have h6 := h.old _ (nb_lt hd ha ht) h5
     have := h.base.none hd h.hc h.new ((h.mine a ha h2).trans (nb_comp hd ha ht))
     omega
  exact this.2
 have cls : ∀ a, a < d.n → (pv ps a = P ↔ Comp d c a) := fun a ha => ⟨h.mine a ha, full a⟩
 refine ⟨⟨h.len, fun a ha => h.ge ha, fun a b ha e h0 => ?_, fun a b ha hb h0 e => ?_, fun p hp => ?_⟩, fun a ha h0 => ?_, by rw [h.me]; omega⟩
 ·have hb := comp_mem hd ha e
  by_cases h1 : pv ps a = P
  ·rw [h1]; exact full b ((h.mine a ha h1).trans e)
  ·have h2 : pv ps b ≠ P := fun h3 => h1 ((cls a ha).2 ((h.mine b hb h3).trans (comp_symm hd ha e)))
   rw [h.old a ha h1, h.old b hb h2]
   rw [h.old a ha h1] at h0
   exact h.base.same a b ha e h0
 ·by_cases h1 : pv ps a = P
  ·rw [h1] at e
   exact (comp_symm hd h.hc (h.mine a ha h1)).trans (h.mine b hb e.symm)
  ·have h2 : pv ps b ≠ P := fun h3 => h1 (by rw [e, h3])
   rw [h.old a ha h1, h.old b hb h2] at e
   rw [h.old a ha h1] at h0
   exact h.base.conn a b ha hb h0 e
 ·by_cases h1 : p = P
  ·exact ⟨c, h.hc, by rw [h.me, h1]⟩
  ·obtain ⟨a, ha, e⟩ := h.base.all p (by omega)
   refine ⟨a, ha, ?_⟩
   by_cases h2 : pv ps a = P
   ·have := h.base.none hd h.hc h.new (h.mine a ha h2)
    omega
   ·rw [h.old a ha h2, e]
 ·by_cases h1 : pv ps a = P
  ·rw [h1]; omega
  ·rw [h.old a ha h1]; exact h0
end Go.Proofs.YtcaoblilkgajoaaDoor.Pl
end
section
namespace Go.Proofs.YtcaoblilkgajoaaDoor
open Go Go.RowKit
/-- Block g is the row vs. -/
def Row (w : World) (g : Nat) (t : TypeId) (vs : List Value) : Prop := w.heap[g]? = some (.cells vs.toArray t (0, 0))
theorem Row.lt {w : World} {g : Nat} {t : TypeId} {vs : List Value} (h : Row w g t vs) : g < w.heap.size := lt_of_heap h
theorem Row.cell {w : World} {g : Nat} {t : TypeId} {vs : List Value} (h : Row w g t vs) {i : Nat} (hi : i < vs.length) : w.cell? ⟨g, i, none⟩ = some (vs[i]'hi) := by
 rw [cell_of_row w g i _ t (0, 0) h]; simp [hi]
theorem Row.free {w : World} {g : Nat} {t : TypeId} {vs : List Value} (h : Row w g t vs) (i : Nat) : w.frozen? ⟨g, i, none⟩ = false := frozen_of_row w g i _ t h
theorem Row.set {w : World} {g : Nat} {t : TypeId} {vs : List Value} (h : Row w g t vs) (i : Nat) (v : Value) : Row (w.setCell ⟨g, i, none⟩ v) g t (vs.set i v) := by
 unfold Row
 rw [Go.heap_setCell_same w g i _ t v h]
 simp
theorem Row.other {w : World} {g : Nat} {t : TypeId} {vs : List Value} (h : Row w g t vs) {a : Addr} (ha : g ≠ a.block) (v : Value) : Row (w.setCell a v) g t vs := (Below.heap_setCell w a v g ha).trans h
theorem Row.alloc {w : World} {g : Nat} {t : TypeId} {vs : List Value} (h : Row w g t vs) (o : Obj) : Row (w.alloc o) g t vs := (Below.heap_alloc w o g h.lt).trans h
theorem Row.drew {w : World} {g : Nat} {t : TypeId} {vs : List Value} (h : Row w g t vs) : Row w.drew g t vs := h
theorem Row.below {w w' : World} {g : Nat} {t : TypeId} {vs : List Value} (h : Row w g t vs) (hb : Below w.heap.size w w') : Row w' g t vs := (hb.block g h.lt).trans h
theorem Row.grown {w w' : World} {g : Nat} {t : TypeId} {vs : List Value} {r : Option Nat} (h : Row w g t vs) (hg : w.grownBy w' r) (hr : some g ≠ r) : Row w' g t vs := (hg.block g h.lt hr).trans h
theorem Row.new (w : World) (t : TypeId) (vs : List Value) : Row (w.alloc (.cells vs.toArray t)) w.heap.size t vs := heap_alloc_new w _
/-- A row of numbers. -/
def IRow (w : World) (g : Nat) (zs : List Int) : Prop := Row w g 3 (zs.map (.int .i64))
theorem IRow.cell {w : World} {g : Nat} {zs : List Int} (h : IRow w g zs) {i : Nat} (hi : i < zs.length) : w.cell? ⟨g, i, none⟩ = some (.int .i64 (Pl.pv zs i)) := by
 refine (Row.cell h (i := i) (by simpa using hi)).trans ?_
 unfold Pl.pv
 rw [List.getElem_map, List.getD_eq_getElem?_getD, List.getElem?_eq_getElem hi]; rfl
theorem IRow.set {w : World} {g : Nat} {zs : List Int} (h : IRow w g zs) (i : Nat) (v : Int) : IRow (w.setCell ⟨g, i, none⟩ (.int .i64 v)) g (zs.set i v) := by
 unfold IRow
 rw [List.map_set]
 exact Row.set h i _
theorem IRow.ints {w : World} {g : Nat} {zs : List Int} (h : IRow w g zs) : IntsAt w (some ⟨g, 0, none⟩) zs.length zs := by
 refine ⟨by simp, fun _ => ⟨g, 0, rfl, fun j u hu => ?_⟩⟩
 rw [Nat.zero_add]
 refine (cell_of_row w g j _ _ (0, 0) h).trans ?_
 simpa using hu
/-- A row of bools. -/
def BRow (w : World) (g : Nat) (bs : List Bool) : Prop := Row w g 4 (bs.map .bool)
theorem BRow.cell {w : World} {g : Nat} {bs : List Bool} (h : BRow w g bs) {i : Nat} (hi : i < bs.length) : w.cell? ⟨g, i, none⟩ = some (.bool (bs.getD i false)) := by
 refine (Row.cell h (i := i) (by simpa using hi)).trans ?_
 rw [List.getElem_map, List.getD_eq_getElem?_getD, List.getElem?_eq_getElem hi]; rfl
theorem BRow.set {w : World} {g : Nat} {bs : List Bool} (h : BRow w g bs) (i : Nat) (v : Bool) : BRow (w.setCell ⟨g, i, none⟩ (.bool v)) g (bs.set i v) := by
 unfold BRow
 rw [List.map_set]
 exact Row.set h i _
theorem made_rep (v : Value) (n : Nat) : madeCells #[v] n = (List.replicate n v).toArray := by
 apply Array.ext'
 simp only [madeCells, Array.toList_map, Array.toList_range]
 refine List.ext_getElem (by simp) (fun i h1 h2 => ?_)
 have : i % 1 = 0 := Nat.mod_one i
 simp [this]
theorem IRow.made (w : World) (n : Nat) : IRow (w.alloc (.cells (Array.replicate n (Value.int .i64 0)) 3)) w.heap.size (List.replicate n 0) := by
 unfold IRow Row
 rw [List.map_replicate]
 exact heap_alloc_new w _
theorem BRow.made (w : World) (n : Nat) : BRow (w.alloc (.cells (Array.replicate n (Value.bool false)) 4)) w.heap.size (List.replicate n false) := by
 unfold BRow Row
 rw [List.map_replicate]
 exact heap_alloc_new w _
theorem intInfo : (Tryd.prog.info? 3).map (fun i => (i.zero, i.size, i.bytes)) = some (some (.int .i64 0), 1, 8) := by kernel_rfl
theorem boolInfo : (Tryd.prog.info? 4).map (fun i => (i.zero, i.size, i.bytes)) = some (some (.bool false), 1, 1) := by kernel_rfl
theorem run_ints (n : Nat) (hn : n ≤ 100000) (w : World) : (Instr.makeSlice 22 (.int .i64 (n : Int)) (.int .i64 (n : Int))).run Tryd.prog w = .ok (.slice (some ⟨w.heap.size, 0, none⟩) n n) (w.alloc (.cells (Array.replicate n (Value.int .i64 0)) 3)) := by
 obtain ⟨i0, hi, hz0, hz1, hz2⟩ := info_parts intInfo
 have := run_make (P := Tryd.prog) w 22 3 i0 (.int .i64 0) Tryd.underlying22 hi hz0 .i64 .i64 n n (by omega) (Int.le_refl _) (by rw [hz2]; omega) (by omega)
 rw [hz1, Nat.mul_one, Int.toNat_natCast, show madeCells (Value.cells (.int .i64 0)) n = (List.replicate n (.int .i64 0)).toArray from made_rep _ _] at this
 exact this
theorem run_bools (n : Nat) (hn : n ≤ 100000) (w : World) : (Instr.makeSlice 85 (.int .i64 (n : Int)) (.int .i64 (n : Int))).run Tryd.prog w = .ok (.slice (some ⟨w.heap.size, 0, none⟩) n n) (w.alloc (.cells (Array.replicate n (Value.bool false)) 4)) := by
 obtain ⟨i0, hi, hz0, hz1, hz2⟩ := info_parts boolInfo
 have := run_make (P := Tryd.prog) w 85 4 i0 (.bool false) Tryd.underlying85 hi hz0 .i64 .i64 n n (by omega) (Int.le_refl _) (by rw [hz2]; omega) (by omega)
 rw [hz1, Nat.mul_one, Int.toNat_natCast, show madeCells (Value.cells (.bool false)) n = (List.replicate n (.bool false)).toArray from made_rep _ _] at this
 exact this
end Go.Proofs.YtcaoblilkgajoaaDoor
end
section
namespace Go.Proofs.YtcaoblilkgajoaaDoor
open Go Go.RowKit
section
variable {P : Program} (w : World)
theorem run_append_ints (base : Nat) (t ty e : TypeId) (i : TypeInfo) (z : Value) (bytes : Nat) (ht : P.underlying t = some (.slice e)) (hi : P.info? e = some i) (hz : i.zero = some z)
 (hsize : i.size = 1) (hby : i.bytes = bytes) (hzs : z.cells.size = 1)
 (v : Value) (n : Nat) (xs : List Value) (hown : w.ownsRow base e 1 v n xs)
 (A : Option Addr) (m c : Nat) (zs : List Int) (hin : IntsAt w A m zs)
 (h63 : n + m ≤ maxLen) (hbytes : (n + m) * bytes ≤ 140737488355328) (hbase : base ≤ w.heap.size) :
 ∃ v' w', (Builtin.append_ #[t, t] ty #[v, .slice A m c]).run P w = .ok v' w' ∧ w'.ownsRow base e 1 v' (n + m) (xs ++ zs.map (.int .i64)) ∧ w.grownBy w' v.ownBlock := by
 have hl := hin.len
 rcases Nat.eq_zero_or_pos m with h0 | h0
 ·subst h0
  obtain rfl : zs = [] := List.eq_nil_of_length_eq_zero hl
  have hr : (Builtin.append_ #[t, t] ty #[v, .slice A 0 c]).run P w = .ok v w := by
   rcases hown.2 with ⟨rfl, rfl⟩ | ⟨g, cap, cur, rfl, _, _, hnc, _⟩
   ·cases A <;> simp [Builtin.append_, run_underlying ht, sizeOf, typeInfo, hi, Builtin.lenOf, Builtin.firstCells, loadCells, loadCellsFrom]
   ·cases A <;> simp [Builtin.append_, run_underlying ht, sizeOf, typeInfo, hi, Builtin.lenOf, Builtin.firstCells, hnc, storeCells, loadCells, loadCellsFrom]
  refine ⟨v, w, hr, by simpa using hown, ⟨rfl, rfl, rfl, Nat.le_refl _, fun _ _ _ => rfl⟩⟩
 ·obtain ⟨b, o, rfl, hc⟩ := hin.2 h0
  obtain ⟨v', w', hr, h2, h3, _⟩ := run_append_own (P := P) w base t ty e i z 1 bytes ht hi hz hsize hby hzs (by omega) v n xs hown ⟨b, o, none⟩ m c (zs.map (.int .i64)) (by rw [List.length_map, hl, Nat.mul_one]) (fun j u hu => by
   have : (⟨b, o, none⟩ : Addr).add j = ⟨b, o + j, none⟩ := by unfold Addr.add; split <;> simp_all
   rw [this]; exact hc j u hu) (fun u hu => by
   obtain ⟨x, _, rfl⟩ := List.mem_map.1 hu; rfl) h63 hbytes hbase
  exact ⟨v', w', hr, h2, h3⟩
theorem wp_append_ints {o : Oper} {a : Act} {K : Act → World → Prop} {Q : Exit → Act → World → Prop} (s x : Operand) (t : TypeId)
 (ho : o.op = .call { callee := .builtin .append, args := #[s, x], argTypes := #[t, t] })
 (base : Nat) (e : TypeId) (i : TypeInfo) (z : Value) (bytes : Nat) (ht : P.underlying t = some (.slice e)) (hi : P.info? e = some i) (hz : i.zero = some z)
 (hsize : i.size = 1) (hby : i.bytes = bytes) (hzs : z.cells.size = 1)
 (v : Value) (n : Nat) (xs : List Value) (hs : a.eval s = v) (hown : w.ownsRow base e 1 v n xs)
 (A : Option Addr) (m c : Nat) (zs : List Int) (hx : a.eval x = .slice A m c) (hin : IntsAt w A m zs)
 (h63 : n + m ≤ maxLen) (hbytes : (n + m) * bytes ≤ 140737488355328) (hbase : base ≤ w.heap.size)
 (h : ∀ v' w', w'.ownsRow base e 1 v' (n + m) (xs ++ zs.map (.int .i64)) → w.grownBy w' v.ownBlock → K (a.put o.dst v') w') : o.wp P a w K Q := by
 obtain ⟨v', w', hr, h2, h3⟩ := run_append_ints (P := P) w base t o.type e i z bytes ht hi hz hsize hby hzs v n xs hown A m c zs hin h63 hbytes hbase
 unfold Oper.wp execOp
 simp only [ho, resolve, invoke, builtin, Sem.run_bind, Sem.run_pure, Result.andThen_ok, List.map_toArray, List.map_cons, List.map_nil, hs, hx, hr]
 exact h v' w' h2 h3
theorem wpList_append_ints {ops : Array Oper} {rest : List Oper} {o : Oper} {a : Act} {Q : Exit → Act → World → Prop} (hgd : o.guard = none) (s x : Operand) (t : TypeId)
 (ho : o.op = .call { callee := .builtin .append, args := #[s, x], argTypes := #[t, t] })
 (base : Nat) (e : TypeId) (i : TypeInfo) (z : Value) (bytes : Nat) (ht : P.underlying t = some (.slice e)) (hi : P.info? e = some i) (hz : i.zero = some z)
 (hsize : i.size = 1) (hby : i.bytes = bytes) (hzs : z.cells.size = 1)
 (v : Value) (n : Nat) (xs : List Value) (hs : a.eval s = v) (hown : w.ownsRow base e 1 v n xs)
 (A : Option Addr) (m c : Nat) (zs : List Int) (hx : a.eval x = .slice A m c) (hin : IntsAt w A m zs)
 (h63 : n + m ≤ maxLen) (hbytes : (n + m) * bytes ≤ 140737488355328) (hbase : base ≤ w.heap.size)
 (h : ∀ v' w', w'.ownsRow base e 1 v' (n + m) (xs ++ zs.map (.int .i64)) → w.grownBy w' v.ownBlock → wpList P ops Q rest (a.put o.dst v') w') : wpList P ops Q (o :: rest) a w :=
 wpList_plain hgd fun _ hK => wp_append_ints w s x t ho base e i z bytes ht hi hz hsize hby hzs v n xs hs hown A m c zs hx hin h63 hbytes hbase fun v' w' h2 h3 => hK _ _ (h v' w' h2 h3)
end
def growRen : Go.Shelf.Ren := ⟨fun | 4 => 77 | n => n, fun | 22 => 22 | 25 => 3 | 3 => 3 | 4 => 4 | 9 => 9 | 20 => 20 | 0 => 0 | n => n, fun | n => n⟩
theorem growLays : Go.Proofs.Lays8.n4 Tryd.prog growRen := {
 mixed := by kernel_rfl
 f4 := ⟨Tryd.f77.name, by decide, Tryd.func77.trans (congrArg some (by kernel_rfl))⟩
 t0 := Tryd.underlying0
 a0 := Tryd.isAgg0
 z0 := Tryd.sizeOf0
 v0 := Tryd.zeroValue0
 t3 := Tryd.underlying3
 a3 := Tryd.isAgg3
 z3 := Tryd.sizeOf3
 v3 := Tryd.zeroValue3
 t4 := Tryd.underlying4
 a4 := Tryd.isAgg4
 z4 := Tryd.sizeOf4
 v4 := Tryd.zeroValue4
 t9 := Tryd.underlying9
 a9 := Tryd.isAgg9
 z9 := Tryd.sizeOf9
 v9 := Tryd.zeroValue9
 t20 := Tryd.underlying20
 a20 := Tryd.isAgg20
 z20 := Tryd.sizeOf20
 v20 := Tryd.zeroValue20
 t22 := Tryd.underlying22
 a22 := Tryd.isAgg22
 z22 := Tryd.sizeOf22
 v22 := Tryd.zeroValue22 }
/-- slices.Grow(nil, n). -/
theorem grow_nil (n : Nat) (w : World) (hn : n ≤ 100000) :
 Calls Tryd.prog 77 #[.slice none 0 0, .int .i64 (n : Int)] w fun e w' => ∃ v, e = .returned v ∧ w'.ownsRow w.heap.size 3 1 v 0 [] ∧ Below w.heap.size w w' := by
 rcases Nat.eq_zero_or_pos n with h0 | h0
 ·subst h0
  refine (Any8.slices_Grow_room growLays none 0 0 0 w (by omega) (by omega) (by omega) (by omega)).mono ?_
  rintro e w' ⟨rfl, rfl⟩
  exact ⟨_, rfl, World.ownsRow_nil _ _ _ _, Below.refl _ _⟩
 ·obtain ⟨i0, hi0, hz0, hz1, hz2⟩ := info_parts intInfo
  refine (Any8.slices_Grow_grow growLays i0 (.int .i64 0) hi0 hz0 (by omega) none 0 0 n [] w (by omega) (by omega) (by rw [hz2]; omega) (by omega) (by simp) (fun _ => rfl) (fun a h => by cases h)).mono ?_
  rintro e w' ⟨rfl, rfl⟩
  have hge := grownCap_ge w (0 + n) 0 3
  have hle := grownCap_le_maxLen w (0 + n) 0 3 (by unfold maxLen; omega)
  refine ⟨_, rfl, ?_, ((Below.refl _ _).drew).alloc (by simp) _⟩
  refine ⟨rfl, .inr ⟨w.heap.size, _, _, rfl, Nat.le_refl _, heap_alloc_new w.drew _, Nat.zero_le _, hle, ?_, by simp⟩⟩
  show _ = grownCap w (0 + n) 0 3 * 1
  simp only [Array.size_append, List.size_toArray, size_zeroCells, List.length_nil]
  show 0 + (0 + n - 0) * 1 + (grownCap w (0 + n) 0 3 - (0 + n)) * 1 = _
  omega
end Go.Proofs.YtcaoblilkgajoaaDoor
end
