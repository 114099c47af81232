/-
 The texts Wd, Can, Iso, Pcs, Va, Num in one.
-/
import Derived.Test.YtcaoblilkgajoaaDoorG00
import Derived.Test.YtcaoblilkgajoaaDoorG01
import Derived.Deep.LoopGhost
import Derived.Test.YtcaoblilkgajoaaDoorShelf
set_option linter.unusedVariables false
set_option linter.unusedSimpArgs false
section
namespace Go.Proofs.YtcaoblilkgajoaaDoor
open Go.RowKit
def pre (xs ys : List Int) (k : Nat) : List Int := if k = 0 then [] else if k = 1 then xs else xs ++ ys
set_option maxRecDepth 100000 in
set_option maxHeartbeats 2000000 in
/-- Two slices, one after the other, in memory of the call's own. -/
theorem concat_two (A B : Option Addr) (n m c d h : Nat) (xs ys : List Int) (w : World) (hx : IntsAt w A n xs) (hy : IntsAt w B m ys) (hn : n + m ≤ 100000)
 (c0 : w.cell? ⟨h, 0, none⟩ = some (.slice A n c)) (c1 : w.cell? ⟨h, 1, none⟩ = some (.slice B m d)) :
 Calls Tryd.prog 60 #[.slice (some ⟨h, 0, none⟩) 2 2] w fun e w' => ∃ v, e = .returned v ∧ w'.ownsRow w.heap.size 3 1 v (n + m) ((xs ++ ys).map (.int .i64)) ∧ Below w.heap.size w w' := by
 have HX := hide hx
 have HY := hide hy
 clear hx hy
 go_enter Tryd.func60, Tryd.ntmps60
 go_wp2
 go_loop [3, 11] (fun s i => ∃ k : Nat, k ≤ 2 ∧ i = .int .i64 k ∧ s = .int .i64 ((if k = 0 then 0 else if k = 1 then n else n + m : Nat) : Int)) (fun _ i => 2 - (intOf i).toNat)
 case atStart => exact ⟨0, by omega, rfl, rfl⟩
 case round =>
  obtain ⟨k, hk, rfl, rfl⟩ := hrel
  have h3 : k = 0 ∨ k = 1 ∨ k = 2 := by omega
  rcases h3 with rfl | rfl | rfl
  ·simp only [if_true]
   go_wp2
   go_round
   case rel => exact ⟨1, by omega, by go_num, by simp⟩
   case measure => simp [intOf]
  ·simp only [Nat.one_ne_zero, if_true, if_false]
   go_wp2
   go_round
   case rel => exact ⟨2, by omega, by go_num, by simp⟩
   case measure => simp [intOf]
  ·simp only [show (2 : Nat) ≠ 0 by omega, show (2 : Nat) ≠ 1 by omega, if_false]
   obtain ⟨s, hs⟩ : ∃ s, s = n + m := ⟨_, rfl⟩
   rw [← hs]
   have HS := hide hs
   have hs2 : s ≤ 100000 := by omega
   clear hs
   go_wp2_with fail
   refine (grow_nil s _ hs2).mono ?_
   rintro e w1 ⟨v0, rfl, hown, hb1⟩
   have HO := hide hown
   have HB1 := hide hb1
   clear hown hb1
   go_wp2
   have hxl := HX.out.len
   have hyl := HY.out.len
   go_loopg [6, 27] 2 (fun g v i wx => ∃ k : Nat, k + g = 2 ∧ i = .int .i64 k ∧ wx.ownsRow w.heap.size 3 1 v (pre xs ys k).length ((pre xs ys k).map (.int .i64)) ∧ Below w.heap.size w wx)
   case atStart => exact ⟨0, rfl, rfl, HO.out, HB1.out⟩
   case round =>
    obtain ⟨k, hkg, rfl, hown, hb⟩ := hrel
    have hcell := hide hb
    have d0' := cell_below c0 hb
    have d1' := cell_below c1 hb
    have HX' := hide (HX.out.keep hb)
    have HY' := hide (HY.out.keep hb)
    obtain ⟨i0, hi0, hz0, hz1, hz2⟩ := info_parts intInfo
    have hwz := hb.size
    obtain ⟨g1, rfl⟩ : ∃ g1, g1 = gk := ⟨_, rfl⟩
    have HK := hide hkg
    have HO' := hide hown
    clear hb hown
    have h3 : k = 0 ∨ k = 1 ∨ k = 2 := by omega
    clear hkg
    rcases h3 with rfl | rfl | rfl
    ·go_wp2_with (at_builtin; refine wpList_append_ints _ rfl _ _ 22 rfl w.heap.size 3 i0 (.int .i64 0) 8 Tryd.underlying22 hi0 hz0 hz1 hz2 rfl _ 0 [] (by rfl) HO'.out A n c xs (by rfl) HX'.out (by unfold maxLen; omega) (by omega) hwz ?_; intro v2 w2 own2 grow2)
     go_roundg 1
     case measure => have := HK.out; omega
     case rel =>
      refine ⟨1, rfl, rfl, ?_, hcell.out.grown grow2 hwz (fun k hk => (HO'.out.lt k hk).1)⟩
      have e : pre xs ys 1 = xs := rfl
      rw [e, hxl]
      simpa using own2
    ·have e1 : (pre xs ys 1).length = n := hxl
     have HO2 := hide (show wr.ownsRow w.heap.size 3 1 u6 n (xs.map (.int .i64)) by have := HO'.out; rw [e1] at this; exact this)
     go_wp2_with (at_builtin; refine wpList_append_ints _ rfl _ _ 22 rfl w.heap.size 3 i0 (.int .i64 0) 8 Tryd.underlying22 hi0 hz0 hz1 hz2 rfl _ n (xs.map (.int .i64)) (by rfl) HO2.out B m d ys (by rfl) HY'.out (by unfold maxLen; omega) (by omega) hwz ?_; intro v2 w2 own2 grow2)
     go_roundg 0
     case measure => have := HK.out; omega
     case rel =>
      refine ⟨2, rfl, rfl, ?_, hcell.out.grown grow2 hwz (fun k hk => (HO'.out.lt k hk).1)⟩
      have e : pre xs ys 2 = xs ++ ys := rfl
      rw [e, List.length_append, hxl, hyl, List.map_append]
      exact own2
    ·go_wp2
     go_ret
     refine ⟨_, rfl, ?_, hcell.out⟩
     have h7 := HO'.out
     have e : pre xs ys 2 = xs ++ ys := rfl
     rw [e, List.length_append, hxl, hyl] at h7
     exact h7
theorem owns_slice {w : World} {base : Nat} {e : TypeId} {size : Nat} {v : Value} {n : Nat} {xs : List Value} (h : w.ownsRow base e size v n xs) : ∃ A c, v = .slice A n c := by
 rcases h.2 with ⟨rfl, rfl⟩ | ⟨g, cap, cur, rfl, _⟩
 ·exact ⟨_, _, rfl⟩
 ·exact ⟨_, _, rfl⟩
theorem concat_ex (n m h : Nat) (xs ys : List Int) (w : World) (hn : n + m ≤ 100000) (h0 : ∃ A c, w.cell? ⟨h, 0, none⟩ = some (.slice A n c) ∧ IntsAt w A n xs) (h1 : ∃ B d, w.cell? ⟨h, 1, none⟩ = some (.slice B m d) ∧ IntsAt w B m ys) :
 Calls Tryd.prog 60 #[.slice (some ⟨h, 0, none⟩) 2 2] w fun e w' => ∃ (A : Option Addr) (c : Nat), e = .returned (.slice A (n + m) c) ∧ w'.ownsRow w.heap.size 3 1 (.slice A (n + m) c) (n + m) ((xs ++ ys).map (.int .i64)) ∧ Below w.heap.size w w' := by
 obtain ⟨A, c, c0, hx⟩ := h0
 obtain ⟨B, d, c1, hy⟩ := h1
 refine (concat_two A B n m c d h xs ys w hx hy hn c0 c1).mono ?_
 rintro e w' ⟨v, rfl, hown, hb⟩
 obtain ⟨A', c', rfl⟩ := owns_slice hown
 exact ⟨A', c', rfl, hown, hb⟩
/-- A row of the call's own that holds numbers, reached by a slice value. -/
def OwnN (w : World) (base g n cap : Nat) (l : List Nat) : Prop := w.ownsRow base 3 1 (.slice (some ⟨g, 0, none⟩) n cap) n (l.map (fun k : Nat => Value.int .i64 k))
theorem OwnN.len {w : World} {base g n cap : Nat} {l : List Nat} (h : OwnN w base g n cap l) : l.length = n := by have := h.1; simpa using this
theorem OwnN.cell {w : World} {base g n cap : Nat} {l : List Nat} (h : OwnN w base g n cap l) {k : Nat} (hk : k < n) : w.cell? ⟨g, k, none⟩ = some (.int .i64 (l.getD k 0 : Nat)) := by
 have hl := h.len
 rw [World.ownsRow.cellAt h k (by omega), List.getElem?_map, List.getElem?_eq_getElem (by omega), List.getD_eq_getElem?_getD, List.getElem?_eq_getElem (by omega)]; rfl
theorem OwnN.free {w : World} {base g n cap : Nat} {l : List Nat} (h : OwnN w base g n cap l) (k : Nat) : w.frozen? ⟨g, k, none⟩ = false := World.ownsRow.frozenAt h k
theorem OwnN.set {w : World} {base g n cap : Nat} {l : List Nat} (h : OwnN w base g n cap l) (k v : Nat) : OwnN (w.setCell ⟨g, k, none⟩ (.int .i64 (v : Nat))) base g n cap (l.set k v) ∧ w.grownBy (w.setCell ⟨g, k, none⟩ (.int .i64 (v : Nat))) (some g) := by
 have := World.ownsRow.stored h k (.int .i64 (v : Nat))
 refine ⟨?_, this.2⟩
 unfold OwnN
 rw [List.map_set]
 exact this.1
theorem grownBy_trans {w w1 w2 : World} {r : Option Nat} (h : w.grownBy w1 r) (h2 : w1.grownBy w2 r) : w.grownBy w2 r :=
 ⟨h2.os.trans h.os, h2.tape.trans h.tape, h2.output.trans h.output, Nat.le_trans h.size h2.size, fun k hk hr => (h2.block k (Nat.lt_of_lt_of_le hk h.size) hr).trans (h.block k hk hr)⟩
/-- Two half-edges made mates. -/
def jn (l : List Nat) (a b : Nat) : List Nat := (l.set a b).set b a
end Go.Proofs.YtcaoblilkgajoaaDoor
end
section
namespace Go.Proofs.YtcaoblilkgajoaaDoor.Pl
variable {d : Dg}
/-- A list with a number at its end, unless it holds it. -/
def addN (o : List Nat) (b : Nat) : List Nat := if b ∈ o then o else o ++ [b]
/-- .. with the neighbours at the first slots of a crossing. -/
def addS (d : Dg) (o : List Nat) (c : Nat) : Nat → List Nat
 | 0 => o
 | s + 1 => addN (addS d o c s) (nb d c s)
/-- The order, when its first k crossings have been read. -/
def ordK (d : Dg) (r : Nat) : Nat → List Nat
 | 0 => [r]
 | k + 1 => match (ordK d r k)[k]? with
   | some c => addS d (ordK d r k) c 4
   | none => ordK d r k
def ord (d : Dg) (r : Nat) : List Nat := ordK d r d.n
theorem addN_pre (o : List Nat) (b : Nat) : o <+: addN o b := by
 unfold addN; split
 ·exact List.prefix_refl _
 ·exact List.prefix_append _ _
theorem addN_mem (o : List Nat) (b : Nat) : b ∈ addN o b := by
 unfold addN; split
 ·assumption
 ·simp
theorem mem_addN {o : List Nat} {b x : Nat} (h : x ∈ addN o b) : x ∈ o ∨ x = b := by
 unfold addN at h; split at h
 ·exact .inl h
 ·simpa using h
theorem addN_nodup {o : List Nat} (h : o.Nodup) (b : Nat) : (addN o b).Nodup := by
 unfold addN; split
 ·exact h
 ·rename_i hb
  rw [List.nodup_append]
  exact ⟨h, by simp, fun x hx y hy => by simp at hy; subst hy; exact fun e => hb (e ▸ hx)⟩
theorem addS_pre (o : List Nat) (c : Nat) : ∀ s, o <+: addS d o c s
 | 0 => List.prefix_refl _
 | s + 1 => (addS_pre o c s).trans (addN_pre _ _)
theorem addS_mono (o : List Nat) (c : Nat) (s : Nat) : ∀ k, addS d o c s <+: addS d o c (s + k)
 | 0 => List.prefix_refl _
 | k + 1 => (addS_mono o c s k).trans (addN_pre _ _)
theorem addS_mem (o : List Nat) (c : Nat) {t s : Nat} (h : t < s) : nb d c t ∈ addS d o c s := by
 obtain ⟨k, rfl⟩ : ∃ k, s = t + 1 + k := ⟨s - (t + 1), by omega⟩
 exact (addS_mono o c (t + 1) k).subset (addN_mem _ _)
theorem mem_addS {o : List Nat} {c x : Nat} : ∀ {s : Nat}, x ∈ addS d o c s → x ∈ o ∨ ∃ t, t < s ∧ x = nb d c t
 | 0, h => .inl h
 | s + 1, h => by
   rcases mem_addN h with h | h
   ·rcases mem_addS h with h | ⟨t, h1, h2⟩
    ·exact .inl h
    ·exact .inr ⟨t, by omega, h2⟩
   ·exact .inr ⟨s, by omega, h⟩
theorem addS_nodup {o : List Nat} (h : o.Nodup) (c : Nat) : ∀ s, (addS d o c s).Nodup
 | 0 => h
 | s + 1 => addN_nodup (addS_nodup h c s) _
theorem ordK_pre (r k : Nat) : ordK d r k <+: ordK d r (k + 1) := by
 conv => rhs; rw [ordK]
 split
 ·exact addS_pre _ _ _
 ·exact List.prefix_refl _
theorem ordK_mono (r k : Nat) : ∀ j, ordK d r k <+: ordK d r (k + j)
 | 0 => List.prefix_refl _
 | j + 1 => (ordK_mono r k j).trans (ordK_pre r (k + j))
theorem ordK_some {r k c : Nat} (h : (ordK d r k)[k]? = some c) : ordK d r (k + 1) = addS d (ordK d r k) c 4 := by
 rw [ordK, h]
theorem ordK_none {r k : Nat} (h : (ordK d r k).length ≤ k) : ordK d r (k + 1) = ordK d r k := by
 rw [ordK, List.getElem?_eq_none h]
theorem ordK_stop {r k : Nat} (h : (ordK d r k).length ≤ k) : ∀ j, ordK d r (k + j) = ordK d r k
 | 0 => rfl
 | j + 1 => by
   have ih := ordK_stop h j
   rw [show k + (j + 1) = k + j + 1 by omega, ordK_none (by rw [ih]; omega), ih]
/-- What the order is, on its way. -/
structure OK (d : Dg) (r k : Nat) (o : List Nat) : Prop where
 nd : o.Nodup
 mem : ∀ c, c ∈ o → c < d.n ∧ Comp d r c
 root : r ∈ o
 done : ∀ i c, i < k → o[i]? = some c → ∀ t, t < 4 → nb d c t ∈ o
theorem OK.start {r : Nat} (hr : r < d.n) : OK d r 0 [r] :=
 ⟨by simp, fun c hc => by simp at hc; subst hc; exact ⟨hr, .refl⟩, by simp, fun i c h => absurd h (by omega)⟩
theorem OK.step (hd : Wf d) {r k c : Nat} {o : List Nat} (h : OK d r k o) (hc : o[k]? = some c) : OK d r (k + 1) (addS d o c 4) := by
 have hcm := h.mem c (List.mem_of_getElem? hc)
 have hpre := addS_pre (d := d) o c 4
 refine ⟨addS_nodup h.nd c 4, fun x hx => ?_, hpre.subset h.root, fun i x hi hx t ht => ?_⟩
 ·rcases mem_addS hx with hx | ⟨t, ht, rfl⟩
  ·exact h.mem x hx
  ·exact ⟨nb_lt hd hcm.1 ht, hcm.2.trans (nb_comp hd hcm.1 ht)⟩
 ·have hik : i < o.length := by
   have : k < o.length := by
    rcases Nat.lt_or_ge k o.length with h1 | h1
    ·exact h1
    ·rw [List.getElem?_eq_none h1] at hc; cases hc
   omega
  obtain ⟨l, hl⟩ := hpre
  rw [← hl, List.getElem?_append_left hik] at hx
  by_cases e : i = k
  ·subst e
   rw [hx] at hc
   injection hc with hc
   subst hc
   exact addS_mem _ _ ht
  ·rw [← hl]; exact List.mem_append_left _ (h.done i x (by omega) hx t ht)
theorem ordK_ok (hd : Wf d) {r : Nat} (hr : r < d.n) : ∀ k, OK d r k (ordK d r k)
 | 0 => OK.start hr
 | k + 1 => by
   have ih := ordK_ok hd hr k
   cases hc : (ordK d r k)[k]? with
   | some c => rw [ordK_some hc]; exact ih.step hd hc
   | none =>
     have hl : (ordK d r k).length ≤ k := by
      rcases Nat.lt_or_ge k (ordK d r k).length with h1 | h1
      ·rw [List.getElem?_eq_getElem h1] at hc; cases hc
      ·exact h1
     rw [ordK_none hl]
     refine ⟨ih.nd, ih.mem, ih.root, fun i c hi hx t ht => ih.done i c ?_ hx t ht⟩
     have : i < (ordK d r k).length := by
      rcases Nat.lt_or_ge i (ordK d r k).length with h1 | h1
      ·exact h1
      ·rw [List.getElem?_eq_none h1] at hx; cases hx
     omega
theorem nodup_len {o : List Nat} {n : Nat} (h : o.Nodup) (hl : ∀ c, c ∈ o → c < n) : o.length ≤ n := by
 refine pigeon o.length n (fun i => o.getD i 0) (fun i hi => ?_) (fun i j hi hj e => ?_)
 ·rw [List.getD_eq_getElem?_getD, List.getElem?_eq_getElem hi]
  exact hl _ (List.getElem_mem hi)
 ·simp only [List.getD_eq_getElem?_getD, List.getElem?_eq_getElem hi, List.getElem?_eq_getElem hj, Option.getD_some] at e
  exact (List.getElem_inj h).1 e
theorem OK.len {r k : Nat} {o : List Nat} (h : OK d r k o) : o.length ≤ d.n := nodup_len h.nd (fun c hc => (h.mem c hc).1)
theorem ord_ok (hd : Wf d) {r : Nat} (hr : r < d.n) : OK d r (ord d r).length (ord d r) := by
 have h := ordK_ok hd hr d.n
 exact ⟨h.nd, h.mem, h.root, fun i c hi hx => h.done i c (by have := h.len; unfold ord at hi; omega) hx⟩
theorem ord_mem (hd : Wf d) {r : Nat} (hr : r < d.n) (c : Nat) : c ∈ ord d r ↔ Comp d r c := by
 have h := ord_ok hd hr
 refine ⟨fun hc => (h.mem c hc).2, fun e => ?_⟩
 refine comp_closed hd (P := fun c => c ∈ ord d r) (fun a ha hm t ht => ?_) hr h.root e
 obtain ⟨i, hi, rfl⟩ := List.getElem_of_mem hm
 exact h.done i _ hi (List.getElem?_eq_getElem hi) t ht
theorem ord_len (hd : Wf d) {r : Nat} (hr : r < d.n) : (ord d r).length ≤ d.n := (ord_ok hd hr).len
/-- All of the order is known as soon as all that is known has been read. -/
theorem ord_eq {r k : Nat} (hk : k ≤ d.n) (h : (ordK d r k).length ≤ k) : ordK d r k = ord d r := by
 have := ordK_stop h (d.n - k)
 rw [show k + (d.n - k) = d.n by omega] at this
 exact this.symm
theorem ordK_ord (r : Nat) {k : Nat} (hk : k ≤ d.n) : ordK d r k <+: ord d r := by
 have := ordK_mono (d := d) r k (d.n - k)
 rwa [show k + (d.n - k) = d.n by omega] at this
/-- The place of a crossing does not change when the list grows. -/
theorem idx_pre {o o' : List Nat} (h : o <+: o') {b : Nat} (hb : b ∈ o) : o'.idxOf b = o.idxOf b := by
 obtain ⟨l, rfl⟩ := h
 rw [List.idxOf_append, if_pos hb]
/-- What is read at a crossing. -/
def chk (d : Dg) (o : List Nat) (c : Nat) : List Int :=
 [d.s c, ((4 * o.idxOf (nb d c 0) + d.m (4 * c) % 4 : Nat) : Int), ((4 * o.idxOf (nb d c 1) + d.m (4 * c + 1) % 4 : Nat) : Int), ((4 * o.idxOf (nb d c 2) + d.m (4 * c + 2) % 4 : Nat) : Int), ((4 * o.idxOf (nb d c 3) + d.m (4 * c + 3) % 4 : Nat) : Int)]
theorem chk_len (o : List Nat) (c : Nat) : (chk d o c).length = 5 := rfl
/-- The code from a crossing. -/
def code (d : Dg) (r : Nat) : List Int := (ord d r).flatMap (chk d (ord d r))
theorem flat5 (o l : List Nat) : (l.flatMap (chk d o)).length = 5 * l.length := by
 induction l with
 | nil => rfl
 | cons c l ih => rw [List.flatMap_cons, List.length_append, ih, chk_len, List.length_cons]; omega
theorem code_len (r : Nat) : (code d r).length = 5 * (ord d r).length := flat5 _ _
/-- Equal codes: equal parts. -/
theorem flat5_eq {a b : Dg} {o o' : List Nat} : ∀ {l l' : List Nat}, l.flatMap (chk a o) = l'.flatMap (chk b o') → l.length = l'.length ∧ ∀ (i : Nat) (c c' : Nat), l[i]? = some c → l'[i]? = some c' → chk a o c = chk b o' c'
 | [], [], _ => ⟨rfl, fun i c c' h => by simp at h⟩
 | [], c :: l, h => by
   have := congrArg List.length h
   rw [flat5, flat5] at this; simp at this
 | c :: l, [], h => by
   have := congrArg List.length h
   rw [flat5, flat5] at this; simp at this
 | c :: l, c' :: l', h => by
   rw [List.flatMap_cons, List.flatMap_cons] at h
   have h1 := List.append_inj h (by rw [chk_len, chk_len])
   have ih := flat5_eq h1.2
   refine ⟨by simp [ih.1], fun i x x' hx hx' => ?_⟩
   cases i with
   | zero =>
     simp only [List.getElem?_cons_zero, Option.some.injEq] at hx hx'
     subst hx; subst hx'; exact h1.1
   | succ i => exact ih.2 i x x' (by simpa using hx) (by simpa using hx')
end Go.Proofs.YtcaoblilkgajoaaDoor.Pl
end
section
namespace Go.Proofs.YtcaoblilkgajoaaDoor.Pl
/-- A half-edge's number behind a renumbering of the crossings. -/
def hf (σ : Nat → Nat) (h : Nat) : Nat := 4 * σ (h / 4) + h % 4
theorem hf_div (σ : Nat → Nat) (h : Nat) : hf σ h / 4 = σ (h / 4) := by unfold hf; omega
theorem hf_mod (σ : Nat → Nat) (h : Nat) : hf σ h % 4 = h % 4 := by unfold hf; omega
theorem hf_at (σ : Nat → Nat) (c : Nat) {t : Nat} (ht : t < 4) : hf σ (4 * c + t) = 4 * σ c + t := by
 unfold hf; rw [show (4 * c + t) / 4 = c by omega, show (4 * c + t) % 4 = t by omega]
/-- b is a with the crossing c numbered σ c. -/
structure Iso (a b : Dg) (σ : Nat → Nat) : Prop where
 n : a.n = b.n
 lp : a.lp = b.lp
 lt : ∀ c, c < a.n → σ c < a.n
 inj : ∀ c c', c < a.n → c' < a.n → σ c = σ c' → c = c'
 s : ∀ c, c < a.n → b.s (σ c) = a.s c
 m : ∀ h, h < 4 * a.n → b.m (hf σ h) = hf σ (a.m h)
section
variable {a b : Dg} {σ : Nat → Nat}
theorem Iso.refl (a : Dg) : Iso a a (fun c => c) :=
 ⟨rfl, rfl, fun _ h => h, fun _ _ _ _ h => h, fun _ _ => rfl, fun h _ => by
   have e : ∀ x, hf (fun c => c) x = x := fun x => by unfold hf; show 4 * (x / 4) + x % 4 = x; omega
   rw [e, e]⟩
theorem Iso.hlt (I : Iso a b σ) {h : Nat} (hh : h < 4 * a.n) : hf σ h < 4 * a.n := by
 have := I.lt (h / 4) (by omega); unfold hf; omega
theorem Iso.hinj (I : Iso a b σ) {g h : Nat} (hg : g < 4 * a.n) (hh : h < 4 * a.n) (e : hf σ g = hf σ h) : g = h := by
 have h1 := congrArg (· / 4) e
 have h2 := congrArg (· % 4) e
 simp only [hf_div, hf_mod] at h1 h2
 have := I.inj (g / 4) (h / 4) (by omega) (by omega) h1
 omega
theorem Iso.trans {c : Dg} {τ : Nat → Nat} (I : Iso a b σ) (J : Iso b c τ) : Iso a c (fun x => τ (σ x)) := by
 have e : ∀ x, hf (fun x => τ (σ x)) x = hf τ (hf σ x) := fun x => by unfold hf; rw [show (4 * σ (x / 4) + x % 4) / 4 = σ (x / 4) by omega, show (4 * σ (x / 4) + x % 4) % 4 = x % 4 by omega]
 refine ⟨I.n.trans J.n, I.lp.trans J.lp, fun x hx => ?_, fun x y hx hy h => ?_, fun x hx => ?_, fun h hh => ?_⟩
 ·rw [I.n]; exact J.lt _ (by rw [← I.n]; exact I.lt x hx)
 ·exact I.inj x y hx hy (J.inj _ _ (by rw [← I.n]; exact I.lt x hx) (by rw [← I.n]; exact I.lt y hy) h)
 ·rw [J.s _ (by rw [← I.n]; exact I.lt x hx), I.s x hx]
 ·rw [e, e, J.m _ (by rw [← I.n]; exact I.hlt hh), I.m h hh]
theorem Iso.bij (I : Iso a b σ) : Bij a.n (fun c => c < a.n) σ := ⟨fun _ h => h, I.lt, I.inj⟩
/-- .. and back. -/
theorem Iso.symm (I : Iso a b σ) (hd : Wf a) : ∃ τ, Iso b a τ ∧ (∀ c, c < a.n → τ (σ c) = c) ∧ ∀ c, c < a.n → σ (τ c) = c := by
 have hx : ∀ c, ∃ q, c < a.n → q < a.n ∧ σ q = c := fun c => by
  by_cases h : c < a.n
  ·obtain ⟨p, hp, _, e⟩ := I.bij.back h
   refine ⟨it σ (p - 1) c, fun _ => ⟨I.bij.it _ c h, ?_⟩⟩
   have : p = (p - 1) + 1 := by omega
   rw [this] at e
   exact e
  ·exact ⟨0, fun h' => absurd h' h⟩
 let τ := fun c => Classical.choose (hx c)
 have t1 : ∀ c, c < a.n → τ c < a.n ∧ σ (τ c) = c := fun c hc => Classical.choose_spec (hx c) hc
 have t2 : ∀ c, c < a.n → τ (σ c) = c := fun c hc => I.inj _ _ (t1 _ (I.lt c hc)).1 hc (t1 _ (I.lt c hc)).2
 have t3 : ∀ h, h < 4 * a.n → hf σ (hf τ h) = h := fun h hh => by
  unfold hf; rw [show (4 * τ (h / 4) + h % 4) / 4 = τ (h / 4) by omega, (t1 (h / 4) (by omega)).2]; omega
 refine ⟨τ, ⟨I.n.symm, I.lp.symm, fun c hc => ?_, fun c c' hc hc' e => ?_, fun c hc => ?_, fun h hh => ?_⟩, t2, fun c hc => (t1 c hc).2⟩
 ·rw [← I.n] at hc ⊢; exact (t1 c hc).1
 ·rw [← I.n] at hc hc'; rw [← (t1 c hc).2, ← (t1 c' hc').2, e]
 ·rw [← I.n] at hc; rw [← I.s _ (t1 c hc).1, (t1 c hc).2]
 ·rw [← I.n] at hh
  have hl : hf τ h < 4 * a.n := by have := (t1 (h / 4) (by omega)).1; unfold hf; omega
  have e := I.m _ hl
  rw [t3 h hh] at e
  refine I.hinj (hd.lt _ hl) ?_ ?_
  ·have h1 : b.m h < 4 * a.n := by rw [e]; exact I.hlt (hd.lt _ hl)
   have := (t1 (b.m h / 4) (by omega)).1; unfold hf; omega
  ·rw [← e, t3 _ (by rw [e]; exact I.hlt (hd.lt _ hl))]
theorem Iso.nb (I : Iso a b σ) {c t : Nat} (hc : c < a.n) (ht : t < 4) : Pl.nb b (σ c) t = σ (Pl.nb a c t) := by
 unfold Pl.nb
 rw [← hf_at σ c ht, I.m _ (by omega), hf_div]
theorem Iso.mm (I : Iso a b σ) {c t : Nat} (hc : c < a.n) (ht : t < 4) : b.m (4 * σ c + t) % 4 = a.m (4 * c + t) % 4 := by
 rw [← hf_at σ c ht, I.m _ (by omega), hf_mod]
theorem mem_map_inj {o : List Nat} {x n : Nat} (inj : ∀ c c', c < n → c' < n → σ c = σ c' → c = c') (ho : ∀ c, c ∈ o → c < n) (hx : x < n) : σ x ∈ o.map σ ↔ x ∈ o := by
 rw [List.mem_map]
 constructor
 ·rintro ⟨y, hy, e⟩; rwa [← inj y x (ho y hy) hx e]
 ·intro h; exact ⟨x, h, rfl⟩
theorem idx_map {n : Nat} (inj : ∀ c c', c < n → c' < n → σ c = σ c' → c = c') {x : Nat} (hx : x < n) : ∀ {o : List Nat}, (∀ c, c ∈ o → c < n) → (o.map σ).idxOf (σ x) = o.idxOf x
 | [], _ => rfl
 | y :: o, ho => by
   rw [List.map_cons, List.idxOf_cons, List.idxOf_cons, idx_map inj hx (fun c hc => ho c (by simp [hc]))]
   by_cases e : y = x
   ·subst e; simp
   ·have : σ y ≠ σ x := fun e' => e (inj y x (ho y (by simp)) hx e')
    rw [beq_false_of_ne this, beq_false_of_ne e]
theorem Iso.addN (I : Iso a b σ) {o : List Nat} {x : Nat} (ho : ∀ c, c ∈ o → c < a.n) (hx : x < a.n) : Pl.addN (o.map σ) (σ x) = (Pl.addN o x).map σ := by
 unfold Pl.addN
 by_cases h : x ∈ o
 ·rw [if_pos h, if_pos ((mem_map_inj I.inj ho hx).2 h)]
 ·rw [if_neg h, if_neg (fun e => h ((mem_map_inj I.inj ho hx).1 e))]; simp
theorem addS_lt (hd : Wf a) {o : List Nat} {c s : Nat} (ho : ∀ c, c ∈ o → c < a.n) (hc : c < a.n) (hs : s ≤ 4) : ∀ x, x ∈ Pl.addS a o c s → x < a.n := fun x hx => by
 rcases mem_addS hx with hx | ⟨t, ht, rfl⟩
 ·exact ho x hx
 ·exact nb_lt hd hc (by omega)
theorem Iso.addS (I : Iso a b σ) (hd : Wf a) {o : List Nat} {c : Nat} (ho : ∀ c, c ∈ o → c < a.n) (hc : c < a.n) : ∀ s, s ≤ 4 → Pl.addS b (o.map σ) (σ c) s = (Pl.addS a o c s).map σ
 | 0, _ => rfl
 | s + 1, h => by
   unfold Pl.addS
   rw [I.addS hd ho hc s (by omega), I.nb hc (by omega)]
   exact I.addN (addS_lt hd ho hc (by omega)) (nb_lt hd hc (by omega))
theorem Iso.ordK (I : Iso a b σ) (hd : Wf a) {r : Nat} (hr : r < a.n) : ∀ k, Pl.ordK b (σ r) k = (Pl.ordK a r k).map σ
 | 0 => rfl
 | k + 1 => by
   have ih := I.ordK hd hr k
   have hm := fun c hc => ((ordK_ok hd hr k).mem c hc).1
   cases hc : (Pl.ordK a r k)[k]? with
   | some c =>
     have h2 : (Pl.ordK b (σ r) k)[k]? = some (σ c) := by rw [ih, List.getElem?_map, hc]; rfl
     rw [ordK_some hc, ordK_some h2, ih]
     exact I.addS hd hm (hm c (List.mem_of_getElem? hc)) 4 (Nat.le_refl _)
   | none =>
     have hl : (Pl.ordK a r k).length ≤ k := by
      rcases Nat.lt_or_ge k (Pl.ordK a r k).length with h1 | h1
      ·rw [List.getElem?_eq_getElem h1] at hc; cases hc
      ·exact h1
     rw [ordK_none hl, ordK_none (by rw [ih, List.length_map]; exact hl), ih]
theorem Iso.ord (I : Iso a b σ) (hd : Wf a) {r : Nat} (hr : r < a.n) : Pl.ord b (σ r) = (Pl.ord a r).map σ := by
 unfold Pl.ord; rw [← I.n]; exact I.ordK hd hr a.n
theorem Iso.chk (I : Iso a b σ) (hd : Wf a) {o : List Nat} {c : Nat} (ho : ∀ c, c ∈ o → c < a.n) (hc : c < a.n) : Pl.chk b (o.map σ) (σ c) = Pl.chk a o c := by
 have e : ∀ t, t < 4 → (o.map σ).idxOf (Pl.nb b (σ c) t) = o.idxOf (Pl.nb a c t) := fun t ht => by
  rw [I.nb hc ht]; exact idx_map I.inj (nb_lt hd hc ht) ho
 have m0 := I.mm hc (t := 0) (by omega)
 rw [Nat.add_zero, Nat.add_zero] at m0
 unfold Pl.chk
 rw [I.s c hc, e 0 (by omega), e 1 (by omega), e 2 (by omega), e 3 (by omega), m0, I.mm hc (t := 1) (by omega), I.mm hc (t := 2) (by omega), I.mm hc (t := 3) (by omega)]
theorem flat_map_eq {f g : Nat → List Int} : ∀ {l : List Nat}, (∀ c, c ∈ l → f (σ c) = g c) → (l.map σ).flatMap f = l.flatMap g
 | [], _ => rfl
 | c :: l, h => by
   rw [List.map_cons, List.flatMap_cons, List.flatMap_cons, h c (by simp), flat_map_eq (fun x hx => h x (by simp [hx]))]
/-- The code goes over. -/
theorem Iso.code (I : Iso a b σ) (hd : Wf a) {r : Nat} (hr : r < a.n) : Pl.code b (σ r) = Pl.code a r := by
 unfold Pl.code
 rw [I.ord hd hr]
 have hm := fun c hc => ((ord_ok hd hr).mem c hc).1
 exact flat_map_eq (fun c hc => I.chk hd hm (hm c hc))
theorem Iso.comp (I : Iso a b σ) (hd : Wf a) (hb : Wf b) {x y : Nat} (hx : x < a.n) (hy : y < a.n) : Comp b (σ x) (σ y) ↔ Comp a x y := by
 rw [← ord_mem hd hx, ← ord_mem hb (by rw [← I.n]; exact I.lt x hx), I.ord hd hx]
 exact mem_map_inj I.inj (fun c hc => ((ord_ok hd hx).mem c hc).1) hy
end
end Go.Proofs.YtcaoblilkgajoaaDoor.Pl
end
section
namespace Go.Proofs.YtcaoblilkgajoaaDoor.Pl
/-- Lists compared, element by element. -/
def lx : List Int → List Int → Int
 | [], [] => 0
 | [], _ :: _ => -1
 | _ :: _, [] => 1
 | x :: l, y :: m => if x < y then -1 else if y < x then 1 else lx l m
theorem lx_self : ∀ l, lx l l = 0
 | [] => rfl
 | x :: l => by unfold lx; rw [if_neg (by omega), if_neg (by omega), lx_self l]
theorem lx_eq : ∀ {l m : List Int}, lx l m = 0 → l = m
 | [], [], _ => rfl
 | [], _ :: _, h => by simp [lx] at h
 | _ :: _, [], h => by simp [lx] at h
 | x :: l, y :: m, h => by
   unfold lx at h
   by_cases h1 : x < y
   ·rw [if_pos h1] at h; omega
   ·by_cases h2 : y < x
    ·rw [if_neg h1, if_pos h2] at h; omega
    ·rw [if_neg h1, if_neg h2] at h
     rw [lx_eq h, show x = y by omega]
theorem lx_neg : ∀ (l m : List Int), lx m l = - lx l m
 | [], [] => rfl
 | [], _ :: _ => rfl
 | _ :: _, [] => rfl
 | x :: l, y :: m => by
   unfold lx
   by_cases h1 : x < y
   ·rw [if_pos h1, if_neg (by omega), if_pos h1]; rfl
   ·by_cases h2 : y < x
    ·rw [if_pos h2, if_neg h1, if_pos h2]
    ·rw [if_neg h1, if_neg h2, if_neg h1, if_neg h2, lx_neg l m]
theorem lx_trans : ∀ {l m k : List Int}, lx l m ≤ 0 → lx m k ≤ 0 → lx l k ≤ 0
 | [], [], k, _, h => h
 | [], _ :: _, [], _, _ => by simp [lx]
 | [], _ :: _, _ :: _, _, _ => by simp [lx]
 | _ :: _, [], _, h, _ => by simp [lx] at h
 | _ :: _, _ :: _, [], _, h => by simp [lx] at h
 | x :: l, y :: m, z :: k, h1, h2 => by
   unfold lx at h1 h2 ⊢
   by_cases a1 : x < y
   ·by_cases b1 : y < z
    ·rw [if_pos (by omega)]; omega
    ·by_cases b2 : z < y
     ·rw [if_neg b1, if_pos b2] at h2; omega
     ·rw [if_pos (by omega)]; omega
   ·by_cases a2 : y < x
    ·rw [if_neg a1, if_pos a2] at h1; omega
    ·rw [if_neg a1, if_neg a2] at h1
     by_cases b1 : y < z
     ·rw [if_pos (by omega)]; omega
     ·by_cases b2 : z < y
      ·rw [if_neg b1, if_pos b2] at h2; omega
      ·rw [if_neg b1, if_neg b2] at h2
       rw [if_neg (by omega), if_neg (by omega)]; exact lx_trans h1 h2
theorem lx_anti {l m : List Int} (h1 : lx l m ≤ 0) (h2 : lx m l ≤ 0) : l = m := lx_eq (by rw [lx_neg l m] at h2; omega)
theorem lx_app : ∀ {l m : List Int}, l.length = m.length → ∀ l' m', lx (l ++ l') (m ++ m') = if lx l m = 0 then lx l' m' else lx l m
 | [], [], _, l', m' => by simp [lx]
 | [], _ :: _, h, _, _ => by simp at h
 | _ :: _, [], h, _, _ => by simp at h
 | x :: l, y :: m, h, l', m' => by
   have ih := lx_app (l := l) (m := m) (by simpa using h) l' m'
   have e : ∀ (x y : Int) (l m : List Int), lx (x :: l) (y :: m) = if x < y then -1 else if y < x then 1 else lx l m := fun _ _ _ _ => rfl
   rw [List.cons_append, List.cons_append, e, e]
   by_cases h1 : x < y
   ·rw [if_pos h1, if_pos h1, if_neg (by omega)]
   ·by_cases h2 : y < x
    ·rw [if_neg h1, if_pos h2, if_neg h1, if_pos h2, if_neg (by omega)]
    ·rw [if_neg h1, if_neg h2, if_neg h1, if_neg h2, ih]
/-- Codes in order: the shorter first, then by their elements. -/
def kle (c c' : List Int) : Prop := c.length < c'.length ∨ (c.length = c'.length ∧ lx c c' ≤ 0)
theorem kle_anti {c c' : List Int} (h1 : kle c c') (h2 : kle c' c) : c = c' := by
 rcases h1 with h1 | ⟨h1, h1'⟩ <;> rcases h2 with h2 | ⟨h2, h2'⟩
 ·omega
 ·omega
 ·omega
 ·exact lx_anti h1' h2'
theorem kle_trans {c c' c'' : List Int} (h1 : kle c c') (h2 : kle c' c'') : kle c c'' := by
 rcases h1 with h1 | ⟨h1, h1'⟩ <;> rcases h2 with h2 | ⟨h2, h2'⟩
 ·exact .inl (by omega)
 ·exact .inl (by omega)
 ·exact .inl (by omega)
 ·exact .inr ⟨by omega, lx_trans h1' h2'⟩
theorem kle_total (c c' : List Int) : kle c c' ∨ kle c' c := by
 rcases Nat.lt_trichotomy c.length c'.length with h | h | h
 ·exact .inl (.inl h)
 ·rcases Int.le_total (lx c c') 0 with h1 | h1
  ·exact .inl (.inr ⟨h, h1⟩)
  ·exact .inr (.inr ⟨h.symm, by rw [lx_neg c c']; omega⟩)
 ·exact .inr (.inl h)
/-- A component: its least code, its crossings in the order of this code, how many crossings yield it. -/
structure Pc where
 code : List Int
 order : List Nat
 roots : Int
def PcOk (d : Dg) (p : Pc) : Prop := ∃ r, r < d.n ∧ p.code = code d r ∧ p.order = ord d r ∧ ∀ q, Comp d r q → lx (code d r) (code d q) ≤ 0
/-- Each component once. -/
structure Pcs (d : Dg) (ps : List Pc) : Prop where
 ok : ∀ p, p ∈ ps → PcOk d p
 nd : (ps.flatMap Pc.order).Nodup
 all : ∀ c, c < d.n → ∃ p, p ∈ ps ∧ c ∈ p.order
def Srt (ps : List Pc) : Prop := ps.Pairwise (fun p q => kle p.code q.code)
/-- The code of a diagram. -/
def pcode (lp : Nat) (ps : List Pc) : List Int := (lp : Int) :: (ps.length : Int) :: ps.flatMap (fun p => (p.order.length : Int) :: p.code)
theorem Pcs.uniq {d : Dg} {ps : List Pc} (h : Pcs d ps) {i j c : Nat} {p q : Pc} (hi : ps[i]? = some p) (hj : ps[j]? = some q) (hp : c ∈ p.order) (hq : c ∈ q.order) : i = j := by
 have h1 := (List.pairwise_flatMap.1 h.nd).2
 rw [List.pairwise_iff_getElem] at h1
 obtain ⟨li, ei⟩ := List.getElem?_eq_some_iff.1 hi
 obtain ⟨lj, ej⟩ := List.getElem?_eq_some_iff.1 hj
 rcases Nat.lt_trichotomy i j with e | e | e
 ·exact absurd rfl (h1 i j li lj e c (by rw [ei]; exact hp) c (by rw [ej]; exact hq))
 ·exact e
 ·exact absurd rfl (h1 j i lj li e c (by rw [ej]; exact hq) c (by rw [ei]; exact hp))
theorem Pcs.at_ {d : Dg} {ps : List Pc} (h : Pcs d ps) {c : Nat} (hc : c < d.n) : ∃ (i : Nat) (p : Pc), ps[i]? = some p ∧ c ∈ p.order := by
 obtain ⟨p, hp, hm⟩ := h.all c hc
 obtain ⟨i, hi, rfl⟩ := List.getElem_of_mem hp
 exact ⟨i, _, List.getElem?_eq_getElem hi, hm⟩
theorem PcOk.len {d : Dg} {p : Pc} (h : PcOk d p) : p.code.length = 5 * p.order.length := by
 obtain ⟨r, _, e1, e2, _⟩ := h
 rw [e1, e2, code_len]
/-- Two lists whose elements correspond have the same elements. -/
theorem perm_of_corr {α : Type} : ∀ (K L : List α) (π : Nat → Nat), (∀ i, i < K.length → π i < L.length ∧ L[π i]? = K[i]?) → (∀ i j, i < K.length → j < K.length → π i = π j → i = j) → ∃ r, L.Perm (K ++ r)
 | [], L, _, _, _ => ⟨L, by simp⟩
 | k :: K, L, π, h, hinj => by
   obtain ⟨hl, he⟩ := h 0 (by simp)
   have he' : L[π 0] = k := by
    rw [List.getElem?_eq_getElem hl] at he
    simpa using he
   have hL : L.Perm (k :: L.eraseIdx (π 0)) := by
    have h1 : L = L.take (π 0) ++ k :: L.drop (π 0 + 1) := by
     conv => lhs; rw [← List.take_append_drop (π 0) L]
     rw [List.drop_eq_getElem_cons hl, he']
    have h2 : L.eraseIdx (π 0) = L.take (π 0) ++ L.drop (π 0 + 1) := List.eraseIdx_eq_take_drop_succ _ _
    rw [h2]
    conv => lhs; rw [h1]
    exact List.perm_middle
   have hlen : (L.eraseIdx (π 0)).length + 1 = L.length := by rw [List.length_eraseIdx, if_pos hl]; omega
   have key : ∀ i, i < K.length → π (i + 1) ≠ π 0 := fun i hi e => by
    have := hinj (i + 1) 0 (by simp; omega) (by simp) e
    omega
   obtain ⟨r, hr⟩ := perm_of_corr K (L.eraseIdx (π 0)) (fun i => if π (i + 1) < π 0 then π (i + 1) else π (i + 1) - 1) (fun i hi => by
    obtain ⟨h1, h2⟩ := h (i + 1) (by simp; omega)
    have hne := key i hi
    rw [List.getElem?_cons_succ] at h2
    by_cases e : π (i + 1) < π 0
    ·simp only [if_pos e]
     exact ⟨by omega, by rw [List.getElem?_eraseIdx_of_lt e, h2]⟩
    ·simp only [if_neg e]
     refine ⟨by omega, ?_⟩
     rw [List.getElem?_eraseIdx_of_ge (by omega), show π (i + 1) - 1 + 1 = π (i + 1) by omega, h2]) (fun i j hi hj e => by
    have hne1 := key i hi
    have hne2 := key j hj
    have : π (i + 1) = π (j + 1) := by
     split at e <;> split at e <;> omega
    have := hinj (i + 1) (j + 1) (by simp; omega) (by simp; omega) this
    omega)
   exact ⟨r, hL.trans (hr.cons k)⟩
section
variable {a b : Dg} {ps qs : List Pc} {σ : Nat → Nat}
/-- The piece of b that a piece of a becomes: the same code. -/
theorem Pcs.corr (I : Iso a b σ) (ha : Wf a) (hb : Wf b) (hp : Pcs a ps) (hq : Pcs b qs) : ps.length ≤ qs.length ∧ ∃ r, (qs.map Pc.code).Perm (ps.map Pc.code ++ r) := by
 obtain ⟨τ, J, t1, t2⟩ := I.symm ha
 have hw : ∀ i, ∃ j, i < ps.length → ∃ (p q : Pc), ps[i]? = some p ∧ qs[j]? = some q ∧ p.code = q.code ∧ ∃ r, r ∈ p.order ∧ σ r ∈ q.order ∧ r < a.n := fun i => by
  by_cases hi : i < ps.length
  ·obtain ⟨r, hr, e1, e2, hl⟩ := hp.ok _ (List.getElem_mem hi)
   have hsr : σ r < b.n := by rw [← I.n]; exact I.lt r hr
   obtain ⟨j, q, hj, hm⟩ := hq.at_ hsr
   refine ⟨j, fun _ => ⟨_, q, List.getElem?_eq_getElem hi, hj, ?_, r, by rw [e2]; exact (ord_ok ha hr).root, hm, hr⟩⟩
   obtain ⟨r', hr', f1, f2, fl⟩ := hq.ok q (List.mem_of_getElem? hj)
   rw [f2, ord_mem hb hr'] at hm
   have k1 : lx (code b r') (code b (σ r)) ≤ 0 := fl _ hm
   have ht : τ r' < a.n := by rw [I.n]; exact J.lt r' hr'
   have k2 : Comp a r (τ r') := by
    have : Comp b (σ r) (σ (τ r')) := by rw [t2 r' (by rw [I.n]; exact hr')]; exact comp_symm hb hr' hm
    exact (I.comp ha hb hr ht).1 this
   have k3 := hl _ k2
   rw [I.code ha hr] at k1
   rw [J.code hb hr'] at k3
   rw [e1, f1]
   exact lx_anti k3 k1
  ·exact ⟨0, fun h => absurd h hi⟩
 let π := fun i => Classical.choose (hw i)
 have h1 : ∀ i, i < ps.length → ∃ (p q : Pc), ps[i]? = some p ∧ qs[π i]? = some q ∧ p.code = q.code ∧ ∃ r, r ∈ p.order ∧ σ r ∈ q.order ∧ r < a.n := fun i hi => Classical.choose_spec (hw i) hi
 have hlt : ∀ i, i < ps.length → π i < qs.length := fun i hi => by
  obtain ⟨p, q, _, h, _⟩ := h1 i hi
  exact (List.getElem?_eq_some_iff.1 h).1
 have hinj : ∀ i j, i < ps.length → j < ps.length → π i = π j → i = j := fun i j hi hj e => by
  obtain ⟨p, q, e1, e2, _, r, m1, m2, hr⟩ := h1 i hi
  obtain ⟨p', q', f1, f2, _, r', n1, n2, hr'⟩ := h1 j hj
  rw [e] at e2
  rw [e2] at f2
  injection f2 with f2
  subst f2
  obtain ⟨x, hx, x1, x2, _⟩ := hq.ok q (List.mem_of_getElem? e2)
  rw [x2, ord_mem hb hx] at m2 n2
  have k1 : Comp a r r' := (I.comp ha hb hr hr').1 ((comp_symm hb hx m2).trans n2)
  obtain ⟨y, hy, y1, y2, _⟩ := hp.ok p (List.mem_of_getElem? e1)
  refine hp.uniq (c := r') e1 f1 ?_ n1
  rw [y2, ord_mem ha hy] at m1 ⊢
  exact m1.trans k1
 refine ⟨pigeon _ _ π hlt hinj, perm_of_corr _ _ π (fun i hi => ?_) (fun i j hi hj e => hinj i j (by simpa using hi) (by simpa using hj) e)⟩
 rw [List.length_map] at hi
 obtain ⟨p, q, e1, e2, e3, _⟩ := h1 i hi
 refine ⟨by rw [List.length_map]; exact hlt i hi, ?_⟩
 rw [List.getElem?_map, List.getElem?_map, e1, e2]
 simp [e3]
theorem codes_eq (I : Iso a b σ) (ha : Wf a) (hb : Wf b) (hp : Pcs a ps) (hq : Pcs b qs) (sp : Srt ps) (sq : Srt qs) : ps.map Pc.code = qs.map Pc.code := by
 obtain ⟨τ, J, _, _⟩ := I.symm ha
 obtain ⟨l1, r, hr⟩ := hp.corr I ha hb hq
 obtain ⟨l2, _⟩ := hq.corr J hb ha hp
 have : r = [] := by
  have := hr.length_eq
  rw [List.length_append, List.length_map, List.length_map] at this
  exact List.length_eq_zero_iff.1 (by omega)
 subst this
 rw [List.append_nil] at hr
 exact (List.Perm.eq_of_pairwise (le := kle) (fun x y _ _ h1 h2 => kle_anti h1 h2) (by rw [List.pairwise_map]; exact sq) (by rw [List.pairwise_map]; exact sp) hr).symm
theorem pcode_of {d : Dg} {ps : List Pc} (h : Pcs d ps) (lp : Nat) : pcode lp ps = (lp : Int) :: ((ps.map Pc.code).length : Int) :: (ps.map Pc.code).flatMap (fun c => ((c.length / 5 : Nat) : Int) :: c) := by
 unfold pcode
 rw [List.length_map]
 congr 2
 have : ∀ (l : List Pc), (∀ p, p ∈ l → PcOk d p) → l.flatMap (fun p => (p.order.length : Int) :: p.code) = (l.map Pc.code).flatMap (fun c => ((c.length / 5 : Nat) : Int) :: c) := by
  intro l
  induction l with
  | nil => intro _; rfl
  | cons p l ih =>
    intro hl
    rw [List.map_cons, List.flatMap_cons, List.flatMap_cons, ih (fun q hq => hl q (by simp [hq])), (hl p (by simp)).len, show 5 * p.order.length / 5 = p.order.length by omega]
 exact this ps h.ok
/-- DIAGRAMS THAT DIFFER BY THE NUMBERING HAVE THE SAME CODE. -/
theorem Iso.pcode (I : Iso a b σ) (ha : Wf a) (hb : Wf b) (hp : Pcs a ps) (hq : Pcs b qs) (sp : Srt ps) (sq : Srt qs) : Pl.pcode a.lp ps = Pl.pcode b.lp qs := by
 rw [pcode_of hp, pcode_of hq, codes_eq I ha hb hp hq sp sq, I.lp]
theorem codes_of {ps qs : List Pc} (h : ∀ p, p ∈ ps → p.code.length = 5 * p.order.length) (h' : ∀ p, p ∈ qs → p.code.length = 5 * p.order.length) : ps.flatMap (fun p => (p.order.length : Int) :: p.code) = qs.flatMap (fun p => (p.order.length : Int) :: p.code) → ps.length = qs.length → ps.map Pc.code = qs.map Pc.code := by
 induction ps generalizing qs with
 | nil =>
   intro _ hl
   rw [List.length_nil] at hl
   rw [List.length_eq_zero_iff.1 hl.symm]
 | cons p ps ih =>
   cases qs with
   | nil => intro _ hl; simp at hl
   | cons q qs =>
     intro he hl
     rw [List.flatMap_cons, List.flatMap_cons, List.cons_append, List.cons_append] at he
     injection he with h1 h2
     have hlen : p.code.length = q.code.length := by rw [h p (by simp), h' q (by simp)]; omega
     obtain ⟨h3, h4⟩ := List.append_inj h2 hlen
     rw [List.map_cons, List.map_cons, h3, ih (fun x hx => h x (by simp [hx])) (fun x hx => h' x (by simp [hx])) h4 (by simpa using hl)]
/-- THE SAME CODE: they differ by the numbering. -/
theorem iso_of_code (ha : Wf a) (hb : Wf b) (hp : Pcs a ps) (hq : Pcs b qs) (h : Pl.pcode a.lp ps = Pl.pcode b.lp qs) : ∃ σ, Iso a b σ := by
 unfold Pl.pcode at h
 injection h with hlp h
 injection h with hlen h
 have hlen' : ps.length = qs.length := by omega
 have hc := codes_of (fun p hp' => (hp.ok p hp').len) (fun p hq' => (hq.ok p hq').len) h hlen'
 have hci : ∀ (i : Nat) (p q : Pc), ps[i]? = some p → qs[i]? = some q → p.code = q.code := fun i p q h1 h2 => by
  have := congrArg (fun l => l[i]?) hc
  simpa [List.getElem?_map, h1, h2] using this
 -- crossings that have the same place
 have ex : ∀ c, ∃ c', c < a.n → ∃ (i k : Nat) (p q : Pc), ps[i]? = some p ∧ qs[i]? = some q ∧ p.order[k]? = some c ∧ q.order[k]? = some c' := fun c => by
  by_cases hcn : c < a.n
  ·obtain ⟨i, p, hi, hm⟩ := hp.at_ hcn
   obtain ⟨k, hk, rfl⟩ := List.getElem_of_mem hm
   have hil := (List.getElem?_eq_some_iff.1 hi).1
   have hq' : qs[i]? = some (qs[i]'(by omega)) := List.getElem?_eq_getElem (by omega)
   have e := hci i p _ hi hq'
   have l1 := (hp.ok p (List.mem_of_getElem? hi)).len
   have l2 := (hq.ok _ (List.mem_of_getElem? hq')).len
   rw [e] at l1
   exact ⟨(qs[i]'(by omega)).order[k]'(by omega), fun _ => ⟨i, k, p, _, hi, hq', List.getElem?_eq_getElem hk, List.getElem?_eq_getElem (by omega)⟩⟩
  ·exact ⟨0, fun h => absurd h hcn⟩
 let σ := fun c => Classical.choose (ex c)
 have hσ : ∀ c, c < a.n → ∃ (i k : Nat) (p q : Pc), ps[i]? = some p ∧ qs[i]? = some q ∧ p.order[k]? = some c ∧ q.order[k]? = some (σ c) := fun c hc => Classical.choose_spec (ex c) hc
 have pnd : ∀ (d : Dg) (_ : Wf d) (p : Pc), PcOk d p → p.order.Nodup := fun d hd p h => by
  obtain ⟨r, hr, _, e, _⟩ := h
  rw [e]; exact (ord_ok hd hr).nd
 have one : ∀ (o : List Nat) (k k' c : Nat), o.Nodup → o[k]? = some c → o[k']? = some c → k = k' := fun o k k' c hn h1 h2 => by
  obtain ⟨l1, e1⟩ := List.getElem?_eq_some_iff.1 h1
  obtain ⟨l2, e2⟩ := List.getElem?_eq_some_iff.1 h2
  exact (List.getElem_inj hn).1 (e1.trans e2.symm)
 -- the place decides
 have fit : ∀ c (i k : Nat) (p q : Pc) (c' : Nat), c < a.n → ps[i]? = some p → qs[i]? = some q → p.order[k]? = some c → q.order[k]? = some c' → σ c = c' := fun c i k p q c' hc h1 h2 h3 h4 => by
  obtain ⟨i2, k2, p2, q2, g1, g2, g3, g4⟩ := hσ c hc
  obtain rfl := hp.uniq h1 g1 (List.mem_of_getElem? h3) (List.mem_of_getElem? g3)
  rw [h1] at g1; injection g1 with g1; subst g1
  rw [h2] at g2; injection g2 with g2; subst g2
  obtain rfl := one _ k k2 c (pnd a ha p (hp.ok p (List.mem_of_getElem? h1))) h3 g3
  rw [h4] at g4; injection g4 with g4; exact g4.symm
 have blt : ∀ (q : Pc) (c : Nat), q ∈ qs → c ∈ q.order → c < b.n := fun q c h1 h2 => by
  obtain ⟨r, hr, _, e, _⟩ := hq.ok q h1
  rw [e] at h2
  exact ((ord_ok hb hr).mem c h2).1
 have inj : ∀ c c', c < a.n → c' < a.n → σ c = σ c' → c = c' := fun c c' hc hc' e => by
  obtain ⟨i, k, p, q, h1, h2, h3, h4⟩ := hσ c hc
  obtain ⟨i2, k2, p2, q2, g1, g2, g3, g4⟩ := hσ c' hc'
  rw [← e] at g4
  obtain rfl := hq.uniq h2 g2 (List.mem_of_getElem? h4) (List.mem_of_getElem? g4)
  rw [h1] at g1; injection g1 with g1; subst g1
  rw [h2] at g2; injection g2 with g2; subst g2
  obtain rfl := one _ k k2 _ (pnd b hb q (hq.ok q (List.mem_of_getElem? h2))) h4 g4
  rw [h3] at g3; injection g3
 have lt : ∀ c, c < a.n → σ c < b.n := fun c hc => by
  obtain ⟨i, k, p, q, h1, h2, h3, h4⟩ := hσ c hc
  exact blt q _ (List.mem_of_getElem? h2) (List.mem_of_getElem? h4)
 have hn : a.n = b.n := by
  have l1 := pigeon a.n b.n σ lt inj
  have back : ∀ c', ∃ c, c' < b.n → c < a.n ∧ σ c = c' := fun c' => by
   by_cases hc' : c' < b.n
   ·obtain ⟨i, q, hi, hm⟩ := hq.at_ hc'
    obtain ⟨k, hk, rfl⟩ := List.getElem_of_mem hm
    have hil := (List.getElem?_eq_some_iff.1 hi).1
    have hp' : ps[i]? = some (ps[i]'(by omega)) := List.getElem?_eq_getElem (by omega)
    have e := hci i _ q hp' hi
    have l1 := (hp.ok _ (List.mem_of_getElem? hp')).len
    have l2 := (hq.ok q (List.mem_of_getElem? hi)).len
    rw [e] at l1
    have hk' : k < (ps[i]'(by omega)).order.length := by omega
    obtain ⟨r, hr, _, eo, _⟩ := hp.ok _ (List.mem_of_getElem? hp')
    have hlt : (ps[i]'(by omega)).order[k] < a.n := by
     have : (ps[i]'(by omega)).order[k] ∈ ord a r := by rw [← eo]; exact List.getElem_mem hk'
     exact ((ord_ok ha hr).mem _ this).1
    exact ⟨_, fun _ => ⟨hlt, fit _ i k _ q _ hlt hp' hi (List.getElem?_eq_getElem hk') (List.getElem?_eq_getElem hk)⟩⟩
   ·exact ⟨0, fun h => absurd h hc'⟩
  have l2 := pigeon b.n a.n (fun c' => Classical.choose (back c')) (fun c' hc' => (Classical.choose_spec (back c') hc').1) (fun x y hx hy e => by
   have e1 := (Classical.choose_spec (back x) hx).2
   have e2 := (Classical.choose_spec (back y) hy).2
   have e' : Classical.choose (back x) = Classical.choose (back y) := e
   rw [← e1, ← e2, e'])
  omega
 -- what is read at a crossing
 have rd : ∀ c, c < a.n → ∃ (o o' : List Nat), chk a o c = chk b o' (σ c) ∧ o.Nodup ∧ o'.Nodup ∧ (∀ t, t < 4 → nb a c t ∈ o ∧ nb b (σ c) t ∈ o') ∧ (∀ (j x x' : Nat), o[j]? = some x → o'[j]? = some x' → σ x = x') := fun c hc => by
  obtain ⟨i, k, p, q, h1, h2, h3, h4⟩ := hσ c hc
  obtain ⟨r, hr, c1, o1, _⟩ := hp.ok p (List.mem_of_getElem? h1)
  obtain ⟨r', hr', c2, o2, _⟩ := hq.ok q (List.mem_of_getElem? h2)
  have e := hci i p q h1 h2
  rw [c1, c2] at e
  unfold code at e
  rw [o1] at h3
  rw [o2] at h4
  refine ⟨ord a r, ord b r', (flat5_eq e).2 k c _ h3 h4, (ord_ok ha hr).nd, (ord_ok hb hr').nd, fun t ht => ⟨?_, ?_⟩, fun j x x' hx hx' => ?_⟩
  ·exact (ord_ok ha hr).done k c (List.getElem?_eq_some_iff.1 h3).1 h3 t ht
  ·exact (ord_ok hb hr').done k _ (List.getElem?_eq_some_iff.1 h4).1 h4 t ht
  ·exact fit x i j p q x' ((ord_ok ha hr).mem x (List.mem_of_getElem? hx)).1 h1 h2 (by rw [o1]; exact hx) (by rw [o2]; exact hx')
 refine ⟨σ, hn, by omega, fun c hc => by rw [hn]; exact lt c hc, inj, fun c hc => ?_, fun h hh => ?_⟩
 ·obtain ⟨o, o', e, _⟩ := rd c hc
  unfold chk at e
  injection e with e
  exact e.symm
 ·have hc : h / 4 < a.n := by omega
  obtain ⟨o, o', e, nd, nd', mem, pl⟩ := rd (h / 4) hc
  have key : ∀ t, t < 4 → 4 * o.idxOf (nb a (h / 4) t) + a.m (4 * (h / 4) + t) % 4 = 4 * o'.idxOf (nb b (σ (h / 4)) t) + b.m (4 * σ (h / 4) + t) % 4 := by
   unfold chk at e
   injection e with _ e
   injection e with e0 e
   injection e with e1 e
   injection e with e2 e
   injection e with e3 _
   intro t ht
   have : t = 0 ∨ t = 1 ∨ t = 2 ∨ t = 3 := by omega
   rcases this with rfl | rfl | rfl | rfl
   ·rw [Nat.add_zero, Nat.add_zero]; omega
   ·omega
   ·omega
   ·omega
  have k := key (h % 4) (by omega)
  rw [show 4 * (h / 4) + h % 4 = h by omega] at k
  have hm := mem (h % 4) (by omega)
  have hnb : nb a (h / 4) (h % 4) = a.m h / 4 := by unfold nb; rw [show 4 * (h / 4) + h % 4 = h by omega]
  have hnb' : nb b (σ (h / 4)) (h % 4) = b.m (hf σ h) / 4 := rfl
  have k1 : o.idxOf (nb a (h / 4) (h % 4)) = o'.idxOf (nb b (σ (h / 4)) (h % 4)) := by omega
  have k2 : a.m h % 4 = b.m (hf σ h) % 4 := by show _ = b.m (4 * σ (h / 4) + h % 4) % 4; omega
  have g1 := List.idxOf_lt_length_of_mem hm.1
  have g2 := List.idxOf_lt_length_of_mem hm.2
  have k3 := pl (o.idxOf (nb a (h / 4) (h % 4))) _ _ (by rw [List.getElem?_eq_getElem g1, List.getElem_idxOf]) (by rw [k1, List.getElem?_eq_getElem g2, List.getElem_idxOf])
  rw [hnb, hnb'] at k3
  unfold hf at k2 k3 ⊢
  rw [k3]
  omega
end
end Go.Proofs.YtcaoblilkgajoaaDoor.Pl
end
section
namespace Go.Proofs.YtcaoblilkgajoaaDoor
open Go Go.RowKit
theorem drop_at {xs : List Int} {k : Nat} (h : k < xs.length) : xs.drop k = xs.getD k 0 :: xs.drop (k + 1) := by
 rw [List.drop_eq_getElem_cons h, List.getD_eq_getElem?_getD, List.getElem?_eq_getElem h]; rfl
set_option maxRecDepth 100000 in
set_option maxHeartbeats 4000000 in
theorem compare_any (xs ys : List Int) (A B : Option Addr) (n m c c2 : Nat) (w : World) (hA : IntsAt w A n xs) (hB : IntsAt w B m ys) (hn : n ≤ 1000000) (hm : m ≤ 1000000) :
 Calls Tryd.prog 82 #[.slice A n c, .slice B m c2] w fun e w' => e = .returned (.int .i64 (Pl.lx xs ys)) ∧ w' = w := by
 have HA := hide hA
 have HB := hide hB
 have LA := hide hA.len
 have LB := hide hB.len
 clear hA hB
 go_enter Tryd.func82, Tryd.ntmps82
 go_wp2
 go_loopg [5, 6, 7, 8, 11] n (fun g s5 s6 s7 s8 i wx => ∃ k : Nat, k + g = n ∧ i = .int .i64 k ∧ k ≤ m ∧ Pl.lx xs ys = Pl.lx (xs.drop k) (ys.drop k) ∧ wx = w)
 case atStart => exact ⟨0, by omega, rfl, by omega, rfl, rfl⟩
 case round =>
  obtain ⟨k, hkg, rfl, hkm, hlx, rfl⟩ := hrel
  have HKG := hide hkg
  have HLX := hide hlx
  clear hlx
  by_cases hk : k < n
  ·have hki : (k : Int) < (n : Int) := by omega
   have k0 : (0 : Int) ≤ (k : Int) := by omega
   obtain ⟨b, o, rfl, x1⟩ := HA.out.at_ hk
   have e1 := drop_at (xs := xs) (k := k) (by rw [LA.out]; exact hk)
   obtain ⟨u, hu⟩ : ∃ u, u = xs.getD k 0 := ⟨_, rfl⟩
   rw [← hu] at x1 e1
   have E1 := hide e1
   clear hu hkg e1
   by_cases hk2 : k < m
   ·have hk2i : (k : Int) < (m : Int) := by omega
    have hk2j : ¬ ((m : Int) ≤ (k : Int)) := by omega
    obtain ⟨b2, o2, rfl, y1⟩ := HB.out.at_ hk2
    have e2 := drop_at (xs := ys) (k := k) (by rw [LB.out]; exact hk2)
    obtain ⟨v, hv⟩ : ∃ v, v = ys.getD k 0 := ⟨_, rfl⟩
    rw [← hv] at y1 e2
    have E2 := hide e2
    clear hv e2
    go_wp2_with fail
    refine (Tryd.cmp_Compare_int u v _).mono ?_
    rintro e w1 ⟨rfl, rfl⟩
    unfold Lib.compareInt
    have HL := hide HLX.out
    rcases Int.lt_trichotomy u v with h | h | h
    ·have hne : ¬ v < u := by omega
     have HR := hide (show Pl.lx xs ys = -1 by rw [HLX.out, E1.out, E2.out, Pl.lx, if_pos h])
     rw [if_pos h]
     clear h hne
     go_wp2
     go_ret
     exact ⟨by rw [HR.out]; rfl, rfl⟩
    ·have HR := hide (show Pl.lx xs ys = Pl.lx (xs.drop (k + 1)) (ys.drop (k + 1)) by rw [HLX.out, E1.out, E2.out, Pl.lx, if_neg (by omega), if_neg (by omega)])
     rw [if_neg (show ¬ u < v by omega), if_neg (show ¬ v < u by omega)]
     clear h
     go_wp2
     go_roundg (gk - 1)
     case measure => have := HKG.out; omega
     case rel => exact ⟨k + 1, by have := HKG.out; omega, by go_num, by omega, HR.out, rfl⟩
    ·have hne : ¬ u < v := by omega
     have HR := hide (show Pl.lx xs ys = 1 by rw [HLX.out, E1.out, E2.out, Pl.lx, if_neg hne, if_pos h])
     rw [if_neg hne, if_pos h]
     clear h hne
     go_wp2
     go_ret
     exact ⟨by rw [HR.out]; rfl, rfl⟩
   ·have hk2i : (m : Int) ≤ (k : Int) := by omega
    have HR := hide (show Pl.lx xs ys = 1 by rw [HLX.out, E1.out, List.drop_eq_nil_of_le (show ys.length ≤ k by rw [LB.out]; omega)]; rfl)
    go_wp2
    go_ret
    exact ⟨by rw [HR.out]; rfl, rfl⟩
  ·have hki : ¬ ((k : Int) < (n : Int)) := by omega
   have hkn : k = n := by omega
   subst hkn
   clear hkg
   by_cases hnm : (k : Int) < (m : Int)
   ·have HR := hide (show Pl.lx xs ys = -1 by
     rw [HLX.out, List.drop_eq_nil_of_le (show xs.length ≤ k by rw [LA.out]; exact Nat.le_refl _), drop_at (xs := ys) (k := k) (by rw [LB.out]; omega)]; rfl)
    go_wp2
    go_ret
    exact ⟨by rw [HR.out]; rfl, rfl⟩
   ·have HR := hide (show Pl.lx xs ys = 0 by
     rw [HLX.out, List.drop_eq_nil_of_le (show xs.length ≤ k by rw [LA.out]; exact Nat.le_refl _), List.drop_eq_nil_of_le (show ys.length ≤ k by rw [LB.out]; omega)]; rfl)
    go_wp2
    go_ret
    exact ⟨by rw [HR.out]; rfl, rfl⟩
end Go.Proofs.YtcaoblilkgajoaaDoor
end
section
namespace Go.Proofs.YtcaoblilkgajoaaDoor.Pl
variable {d : Dg}
/-- The numbers of the crossings, -1 where there is none. -/
def nums (n : Nat) (o : List Nat) : List Int := (List.range n).map (fun c => if c ∈ o then ((o.idxOf c : Nat) : Int) else -1)
theorem nums_len (n : Nat) (o : List Nat) : (nums n o).length = n := by unfold nums; simp
theorem nums_get {n c : Nat} (o : List Nat) (hc : c < n) : (nums n o)[c]? = some (if c ∈ o then ((o.idxOf c : Nat) : Int) else -1) := by
 unfold nums
 rw [List.getElem?_map, List.getElem?_range hc]
 rfl
theorem nums_nil (n : Nat) : nums n [] = List.replicate n (-1) := by
 unfold nums
 refine List.ext_getElem? fun i => ?_
 rw [List.getElem?_map, List.getElem?_replicate]
 by_cases h : i < n
 ·rw [List.getElem?_range h, if_pos h]; simp
 ·rw [List.getElem?_eq_none (by simp; omega), if_neg h]; rfl
theorem nums_add {n b : Nat} {o : List Nat} (hb : b < n) (hn : b ∉ o) : nums n (o ++ [b]) = (nums n o).set b (o.length : Int) := by
 refine List.ext_getElem? fun i => ?_
 rw [List.getElem?_set]
 by_cases hi : i < n
 ·rw [nums_get _ hi]
  by_cases e : b = i
  ·subst e
   have h1 : b ∈ o ++ [b] := by simp
   have h2 : b < (nums n o).length := by rw [nums_len]; exact hi
   rw [if_pos h1, if_pos rfl, if_pos h2, List.idxOf_append, if_neg hn]
   simp
  ·rw [if_neg e, nums_get _ hi]
   by_cases hm : i ∈ o
   ·rw [if_pos (by simp [hm]), if_pos hm, List.idxOf_append, if_pos hm]
   ·rw [if_neg (by simp [hm]; exact fun h => e h.symm), if_neg hm]
 ·have h1 : (nums n (o ++ [b])).length ≤ i := by rw [nums_len]; omega
  rw [List.getElem?_eq_none h1, if_neg (by omega), List.getElem?_eq_none (by rw [nums_len]; omega)]
theorem nums_one {n r : Nat} (hr : r < n) : nums n [r] = (List.replicate n (-1)).set r 0 := by
 have := nums_add (o := []) hr (by simp)
 rw [nums_nil] at this
 exact this
/-- The code's places. -/
theorem flat5_at {o : List Nat} : ∀ {l : List Nat} {i c : Nat}, l[i]? = some c → ∀ j, j < 5 → (l.flatMap (chk d o))[5 * i + j]? = (chk d o c)[j]?
 | [], i, c, h, _, _ => by simp at h
 | x :: l, 0, c, h, j, hj => by
   obtain rfl : x = c := by simpa using h
   rw [List.flatMap_cons, Nat.mul_zero, Nat.zero_add, List.getElem?_append_left (by rw [chk_len]; exact hj)]
 | x :: l, i + 1, c, h, j, hj => by
   have ih := flat5_at (o := o) (l := l) (i := i) (c := c) (by simpa using h) j hj
   rw [List.flatMap_cons, List.getElem?_append_right (by rw [chk_len]; omega), chk_len, ← ih]
   congr 1
   omega
theorem code_sgn {r i c : Nat} (h : (ord d r)[i]? = some c) : (code d r)[5 * i]? = some (d.s c) := by
 have := flat5_at (d := d) (o := ord d r) h 0 (by omega)
 exact this
theorem code_nb {r i c s : Nat} (h : (ord d r)[i]? = some c) (hs : s < 4) : (code d r)[5 * i + 1 + s]? = some (((4 * (ord d r).idxOf (nb d c s) + d.m (4 * c + s) % 4 : Nat)) : Int) := by
 have := flat5_at (d := d) (o := ord d r) h (1 + s) (by omega)
 rw [Nat.add_assoc]
 refine this.trans ?_
 have h4 : s = 0 ∨ s = 1 ∨ s = 2 ∨ s = 3 := by omega
 rcases h4 with rfl | rfl | rfl | rfl <;> rfl
theorem take_one {α : Type} {l : List α} {k : Nat} {x : α} (h : l[k]? = some x) : l.take (k + 1) = l.take k ++ [x] := by
 rw [List.take_add_one, h]; rfl
/-- The comparison so far. -/
def vdt (best : Option (List Int)) (c : List Int) (k : Nat) : Int := match best with
 | none => -1
 | some b => lx (c.take k) (b.take k)
theorem vdt_step {b c : List Int} {k : Nat} (hc : k + 5 ≤ c.length) (hb : k + 5 ≤ b.length) : vdt (some b) c (k + 5) = if vdt (some b) c k = 0 then lx ((c.drop k).take 5) ((b.drop k).take 5) else vdt (some b) c k := by
 unfold vdt
 simp only
 rw [List.take_add, List.take_add]
 exact lx_app (by rw [List.length_take, List.length_take]; omega) _ _
theorem vdt_keep {b c : List Int} {k : Nat} (hl : c.length = b.length) (h : vdt (some b) c k ≠ 0) : lx c b = vdt (some b) c k := by
 unfold vdt at h ⊢
 simp only at h ⊢
 have := lx_app (l := c.take k) (m := b.take k) (by rw [List.length_take, List.length_take, hl]) (c.drop k) (b.drop k)
 rw [List.take_append_drop, List.take_append_drop, if_neg h] at this
 exact this
/-- The comparison with the best. -/
def vall (best : Option (List Int)) (c : List Int) : Int := match best with | none => -1 | some b => lx c b
theorem vall_some (b c : List Int) : vall (some b) c = lx c b := rfl
theorem vall_none (c : List Int) : vall none c = -1 := rfl
theorem vdt_all {best : Option (List Int)} {c : List Int} {k : Nat} (hk : c.length ≤ k) (hb : ∀ b, best = some b → b.length ≤ k) : vdt best c k = vall best c := by
 unfold vdt vall
 cases best with
 | none => rfl
 | some b => simp only; rw [List.take_of_length_le hk, List.take_of_length_le (hb b rfl)]
theorem pre_get {o o' : List Nat} (h : o <+: o') {i c : Nat} (hc : o[i]? = some c) : o'[i]? = some c := by
 obtain ⟨l, rfl⟩ := h
 rw [List.getElem?_append_left (List.getElem?_eq_some_iff.1 hc).1, hc]
theorem add_ord {r i c s : Nat} (hi : i + 1 ≤ d.n) (hc : (ordK d r i)[i]? = some c) (hs : s ≤ 4) : addS d (ordK d r i) c s <+: ord d r := by
 have h1 := addS_mono (d := d) (ordK d r i) c s (4 - s)
 rw [show s + (4 - s) = 4 by omega, ← ordK_some hc] at h1
 exact h1.trans (ordK_ord r hi)
theorem code_step {r i c s : Nat} (hi : i + 1 ≤ d.n) (hc : (ordK d r i)[i]? = some c) (hs : s < 4) : (code d r)[5 * i + 1 + s]? = some (((4 * (addS d (ordK d r i) c (s + 1)).idxOf (nb d c s) + d.m (4 * c + s) % 4 : Nat)) : Int) := by
 rw [code_nb (pre_get (ordK_ord r (by omega)) hc) hs, idx_pre (add_ord (s := s + 1) hi hc (by omega)) (addN_mem (addS d (ordK d r i) c s) (nb d c s))]
theorem order_lt {r i : Nat} (hi : i ≤ d.n) (h : i < (ord d r).length) : i < (ordK d r i).length := by
 rcases Nat.lt_or_ge i (ordK d r i).length with h1 | h1
 ·exact h1
 ·rw [ord_eq hi h1] at h1; omega
end Go.Proofs.YtcaoblilkgajoaaDoor.Pl
end
