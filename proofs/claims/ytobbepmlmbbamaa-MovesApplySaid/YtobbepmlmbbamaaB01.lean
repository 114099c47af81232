/-
 The texts Cyc, Byp, Mk, Shr, Slv, Und, Unk, Pkv, Str, Cmk, Mem, Wa, Q, Row, Grow, Wd, We, Wf, Wg, Wh in one.
-/
import Derived.Test.YtobbepmlmbbamaaB00
import Derived.WalkKit
import Derived.WalkSpells
import Derived.WalkLawsBesides
import Derived.Test.YtobbepmlmbbamaaRows
import Derived.BigQuiet
import Derived.Deep.QuietTactic
import Derived.Deep.Light
import Derived.Laws.AppendOwn
import Derived.Laws.MakeOwn
import Derived.Laws.Rows
import Derived.Laws.OwnMore
import Derived.Shelf.Spec.SlicesGrow
import Derived.Deep.LoopGhost
import Derived.Deep.RegionWith
import Derived.Deep.RegionHeld3
import Derived.Deep.DrawnRows
import Derived.StillTailTactics
set_option linter.unusedVariables false
set_option linter.unusedSimpArgs false
section
namespace Go.Proofs.Ytobbepmlmbbamaa.Pl
variable {N : Nat} {S : Nat → Prop} {f : Nat → Nat}
def Per (f : Nat → Nat) (x p : Nat) : Prop := 0 < p ∧ it f p x = x ∧ ∀ i, 0 < i → i < p → it f i x ≠ x
theorem least_nat {P : Nat → Prop} : ∀ (n : Nat), P n → ∃ m, m ≤ n ∧ P m ∧ ∀ k, k < m → ¬ P k
 | 0, h => ⟨0, Nat.le_refl _, h, fun k hk => absurd hk (by omega)⟩
 | n + 1, h => by
   by_cases e : ∃ k, k < n + 1 ∧ P k
   ·obtain ⟨k, hk, hp⟩ := e
    obtain ⟨m, h1, h2, h3⟩ := least_nat k hp
    exact ⟨m, by omega, h2, h3⟩
   ·exact ⟨n + 1, Nat.le_refl _, h, fun k hk hp => e ⟨k, hk, hp⟩⟩
termination_by n => n
theorem Bij.per (h : Bij N S f) {x : Nat} (hx : S x) : ∃ p, p ≤ N ∧ Per f x p := by
 obtain ⟨q, h1, h2, h3⟩ := h.back hx
 obtain ⟨m, g1, ⟨g2, g3⟩, g4⟩ := least_nat (P := fun p => 0 < p ∧ Pl.it f p x = x) q ⟨h1, h3⟩
 exact ⟨m, by omega, g2, g3, fun i hi hm e => g4 i hm ⟨hi, e⟩⟩
def cyc (f : Nat → Nat) (x p : Nat) : List Nat := (List.range p).map (fun i => it f i x)
theorem cyc_len (f : Nat → Nat) (x p : Nat) : (cyc f x p).length = p := by unfold cyc; simp
theorem cyc_succ (f : Nat → Nat) (x p : Nat) : cyc f x (p + 1) = cyc f x p ++ [it f p x] := by unfold cyc; rw [List.range_succ, List.map_append]; rfl
theorem cyc_get {f : Nat → Nat} {x p i : Nat} (hi : i < p) : (cyc f x p).getD i 0 = it f i x := by
 unfold cyc
 rw [List.getD_eq_getElem?_getD, List.getElem?_map, List.getElem?_range hi]; rfl
theorem mem_cyc {x p : Nat} (hp : Per f x p) {y : Nat} : y ∈ cyc f x p ↔ Orb f x y := by
 unfold cyc
 rw [List.mem_map]
 constructor
 ·rintro ⟨i, _, e⟩; exact ⟨i, e⟩
 ·rintro ⟨k, e⟩
  refine ⟨k % p, List.mem_range.2 (Nat.mod_lt _ hp.1), ?_⟩
  have h1 : k = k % p + k / p * p:=by rw [Nat.mul_comm]; exact (Nat.mod_add_div k p).symm
  rw [h1, it_add, it_mul f p x hp.2.1] at e
  exact e
structure Fcs (f : Nat → Nat) (W : Nat → Prop) (N k : Nat) (fs : List (List Nat)) (bs : List Bool) : Prop where
 len : bs.length = N
 is : ∀ l, l ∈ fs → ∃ h p, h < N ∧ W h ∧ Per f h p ∧ l = cyc f h p
 seen : ∀ h, h < N → (gb bs h = true ↔ ∃ l, l ∈ fs ∧ h ∈ l)
 all : ∀ h, h < k → W h → gb bs h = true
 one : ∀ (i j : Nat) (l m : List Nat) (h : Nat), fs[i]? = some l → fs[j]? = some m → h ∈ l → h ∈ m → i = j
theorem Fcs.start (f : Nat → Nat) (W : Nat → Prop) (N : Nat) : Fcs f W N 0 [] (List.replicate N false) := by
 refine ⟨by simp, fun l h => by simp at h, fun h hh => ?_, fun h hh => absurd hh (by omega), fun i j l m h e => by simp at e⟩
 constructor
 ·intro e; unfold gb at e; rw [List.getD_eq_getElem?_getD, List.getElem?_replicate, if_pos hh] at e; exact absurd e (by decide)
 ·rintro ⟨l, h, _⟩; simp at h
theorem Fcs.skip {W : Nat → Prop} {k : Nat} {fs : List (List Nat)} {bs : List Bool} (h : Fcs f W N k fs bs) (hs : gb bs k = true ∨ ¬ W k) : Fcs f W N (k + 1) fs bs :=
 ⟨h.len, h.is, h.seen, fun x hx hw => by
   by_cases e : x = k
   ·subst e
    rcases hs with hs | hs
    ·exact hs
    ·exact absurd hw hs
   ·exact h.all x (by omega) hw, h.one⟩
def mark (bs : List Bool) : List Nat → List Bool
 | [] => bs
 | x :: l => mark (bs.set x true) l
theorem mark_append (bs : List Bool) : ∀ (l m : List Nat), mark bs (l ++ m) = mark (mark bs l) m := by
 intro l
 induction l generalizing bs with
 | nil => intro m; rfl
 | cons x l ih => intro m; exact ih (bs.set x true) m
theorem mark_len (bs : List Bool) (l : List Nat) : (mark bs l).length = bs.length := by
 induction l generalizing bs with
 | nil => rfl
 | cons x l ih => show (mark (bs.set x true) l).length = _; rw [ih, List.length_set]
theorem gb_mark {bs : List Bool} {l : List Nat} (hl : ∀ x, x ∈ l → x < bs.length) (h : Nat) : gb (mark bs l) h = true ↔ gb bs h = true ∨ h ∈ l := by
 induction l generalizing bs with
 | nil => simp [mark]
 | cons x l ih =>
   show gb (mark (bs.set x true) l) h = true ↔ _
   rw [ih (fun y hy => by rw [List.length_set]; exact hl y (List.mem_cons_of_mem _ hy)), gb_set (hl x List.mem_cons_self) true h, List.mem_cons]
   by_cases e : h = x
   ·simp [e]
   ·simp [e]
theorem Fcs.add {W : Nat → Prop} (hb : Bij N S f) (hS : ∀ x, x < N → S x) (hN : ∀ x, S x → x < N) {k p : Nat} {fs : List (List Nat)} {bs : List Bool} (h : Fcs f W N k fs bs) (hk : k < N) (hw : W k) (hn : gb bs k = false) (hp : Per f k p) :
 Fcs f W N (k + 1) (fs ++ [cyc f k p]) (mark bs (cyc f k p)) := by
 have hin : ∀ x, x ∈ cyc f k p → x < bs.length:=fun x hx => by
  rw [h.len]; exact hN x (hb.orb_mem (hS k hk) ((mem_cyc hp).1 hx))
 have apart : ∀ l x, l ∈ fs → x ∈ l → ¬ x ∈ cyc f k p:=fun l x hl hx hc => by
  obtain ⟨g, q, h1, h2, h3, rfl⟩ := h.is l hl
  have e1:=(mem_cyc h3).1 hx
  have e2:=(mem_cyc hp).1 hc
  have e3 : Orb f g k:=e1.trans (hb.symm (hS k hk) e2)
  have:=(h.seen k hk).2 ⟨_, hl, (mem_cyc h3).2 e3⟩
  rw [hn] at this
  exact absurd this (by decide)
 refine ⟨by rw [mark_len, h.len], fun l hl => ?_, fun x hx => ?_, fun x hx hwx => ?_, fun i j l m x e1 e2 h1 h2 => ?_⟩
 ·rcases List.mem_append.1 hl with hl | hl
  ·exact h.is l hl
  ·rw [List.mem_singleton] at hl
   exact ⟨k, p, hk, hw, hp, hl⟩
 ·rw [gb_mark hin, h.seen x hx]
  constructor
  ·rintro (⟨l, h1, h2⟩ | h2)
   ·exact ⟨l, List.mem_append_left _ h1, h2⟩
   ·exact ⟨_, List.mem_append_right _ (List.mem_singleton.2 rfl), h2⟩
  ·rintro ⟨l, h1, h2⟩
   rcases List.mem_append.1 h1 with h1 | h1
   ·exact .inl ⟨l, h1, h2⟩
   ·rw [List.mem_singleton] at h1; subst h1; exact .inr h2
 ·rw [gb_mark hin]
  by_cases e : x = k
  ·subst e; exact .inr ((mem_cyc hp).2 (Orb.refl f x))
  ·exact .inl (h.all x (by omega) hwx)
 ·rw [List.getElem?_append] at e1 e2
  by_cases c1 : i < fs.length
  ·rw [if_pos c1] at e1
   by_cases c2 : j < fs.length
   ·rw [if_pos c2] at e2
    exact h.one i j l m x e1 e2 h1 h2
   ·rw [if_neg c2] at e2
    have:=List.mem_of_getElem? e2
    rw [List.mem_singleton] at this
    subst this
    exact absurd h2 (apart l x (List.mem_of_getElem? e1) h1)
  ·rw [if_neg c1] at e1
   have t1:=List.mem_of_getElem? e1
   rw [List.mem_singleton] at t1
   by_cases c2 : j < fs.length
   ·rw [if_pos c2] at e2
    subst t1
    exact absurd h1 (apart m x (List.mem_of_getElem? e2) h2)
   ·rw [if_neg c2] at e2
    have a1:=(List.getElem?_eq_some_iff.1 e1).1
    have a2:=(List.getElem?_eq_some_iff.1 e2).1
    simp only [List.length_singleton] at a1 a2
    omega
theorem Fcs.label {W : Nat → Prop} (hb : Bij N S f) (hS : ∀ x, x < N → S x) {fs : List (List Nat)} {bs : List Bool} (h : Fcs f W N N fs bs) (hW : ∀ x, x < N → W x) {F : Nat → Nat} (hF : ∀ (i : Nat) (l : List Nat) (x : Nat), fs[i]? = some l → x ∈ l → F x = i) {x y : Nat} (hx : x < N) (hy : y < N) : F x = F y ↔ Orb f x y := by
 obtain ⟨l, h1, h2⟩ := (h.seen x hx).1 (h.all x hx (hW x hx))
 obtain ⟨m, g1, g2⟩ := (h.seen y hy).1 (h.all y hy (hW y hy))
 obtain ⟨i, hi⟩ := List.getElem?_of_mem h1
 obtain ⟨j, hj⟩ := List.getElem?_of_mem g1
 rw [hF i l x hi h2, hF j m y hj g2]
 obtain ⟨a, p, a1, a2, a3, rfl⟩ := h.is l h1
 have ox:=(mem_cyc a3).1 h2
 constructor
 ·intro e
  subst e
  rw [hi] at hj
  injection hj with hj
  subst hj
  have oy:=(mem_cyc a3).1 g2
  exact (hb.symm (hS a a1) ox).trans oy
 ·intro e
  exact h.one i j _ m y hi hj ((mem_cyc a3).2 (ox.trans e)) g2
end Go.Proofs.Ytobbepmlmbbamaa.Pl
end
section
namespace Go.Proofs.Ytobbepmlmbbamaa.Pl
variable {N : Nat} {S : Nat → Prop} {r a : Nat → Nat}
def cut2 (a : Nat → Nat) (u v : Nat) : Nat → Nat := tr (tr a u (a u)) v (a v)
def byp (a : Nat → Nat) (u v : Nat) : Nat → Nat := tr (cut2 a u v) (a u) (a v)
end Go.Proofs.Ytobbepmlmbbamaa.Pl
end
section
namespace Go.Proofs.Ytobbepmlmbbamaa.Pl
def mk (sg mt : List Int) (lp : Int) : Dg := ⟨sg, mt.map Int.toNat, lp.toNat⟩
def VL (sg mt : List Int) (lp : Int) : Prop := Valid (mk sg mt lp) ∧ (∀ z, z ∈ mt → 0 ≤ z) ∧ 0 ≤ lp
variable {sg mt : List Int} {lp : Int}
theorem mk_n (sg mt : List Int) (lp : Int) : (mk sg mt lp).n = sg.length := rfl
theorem mk_m {h : Nat} (hh : h < mt.length) : (mk sg mt lp).m h = (pv mt h).toNat := by
 unfold Dg.m mk pv
 rw [List.getD_eq_getElem?_getD, List.getD_eq_getElem?_getD, List.getElem?_map, List.getElem?_eq_getElem hh]; rfl
theorem nats_mk (h : ∀ z, z ∈ mt → 0 ≤ z) : (mk sg mt lp).mt.map (fun m : Nat => (m : Int)) = mt := by
 unfold mk
 rw [List.map_map]
 refine (List.map_congr_left (fun z hz => ?_)).trans (List.map_id mt)
 have:=h z hz
 simp only [Function.comp_apply, id_eq]
 omega
theorem pv_mem {l : List Int} {h : Nat} (hh : h < l.length) : pv l h ∈ l := by
 unfold pv
 rw [List.getD_eq_getElem?_getD, List.getElem?_eq_getElem hh]
 exact List.getElem_mem hh
theorem VL.few (h : VL sg mt lp) : sg.length ≤ 64 := h.1.wf.few
theorem VL.len (h : VL sg mt lp) : mt.length = 4 * sg.length := by have := h.1.wf.len; unfold mk Dg.n at this; simpa using this
theorem VL.loops (h : VL sg mt lp) : 0 ≤ lp ∧ lp ≤ 64 := by
 have h1:=h.1.wf.lp
 have h2:=h.2.2
 unfold mk at h1
 simp only at h1
 omega
theorem VL.sign (h : VL sg mt lp) {c : Nat} (hc : c < sg.length) : pv sg c = 1 ∨ pv sg c = -1 := h.1.wf.sign c hc
theorem VL.mate (h : VL sg mt lp) {k : Nat} (hk : k < mt.length) : 0 ≤ pv mt k ∧ pv mt k < mt.length ∧ pv mt k ≠ k ∧ pv mt (pv mt k).toNat = k ∧ out (mk sg mt lp) k ≠ out (mk sg mt lp) (pv mt k).toNat := by
 have hl:=h.len
 have hw:=h.1.wf
 have h0:=h.2.1 _ (pv_mem hk)
 have hk4 : k < 4 * (mk sg mt lp).n:=by rw [mk_n]; omega
 have h1:=hw.lt k hk4
 have h2:=hw.ne k hk4
 have h3:=hw.inv k hk4
 have h4:=hw.way k hk4
 rw [mk_m hk] at h1 h2 h3 h4
 rw [mk_n] at h1
 have hm : (pv mt k).toNat < mt.length:=by omega
 rw [mk_m hm] at h3
 have h5:=h.2.1 _ (pv_mem hm)
 exact ⟨h0, by omega, by omega, by omega, h4⟩
theorem wf_of (h1 : sg.length ≤ 64) (h2 : mt.length = 4 * sg.length) (h3 : 0 ≤ lp ∧ lp ≤ 64) (h4 : ∀ c, c < sg.length → pv sg c = 1 ∨ pv sg c = -1)
 (h5 : ∀ k, k < mt.length → 0 ≤ pv mt k ∧ pv mt k < mt.length ∧ pv mt k ≠ k ∧ pv mt (pv mt k).toNat = k ∧ out (mk sg mt lp) k ≠ out (mk sg mt lp) (pv mt k).toNat) : Wf (mk sg mt lp) := by
 refine ⟨h1, by unfold mk Dg.n; simpa using h2, by unfold mk; simp only; omega, h4, fun h hh => ?_, fun h hh => ?_, fun h hh => ?_, fun h hh => ?_⟩
 all_goals
  rw [mk_n] at hh
  have hl : h < mt.length:=by omega
  obtain ⟨g1, g2, g3, g4, g5⟩ := h5 h hl
  rw [mk_m hl]
 ·rw [mk_n]; omega
 ·omega
 ·rw [mk_m (by omega), g4]; rfl
 ·exact g5
theorem VL.of (hw : Wf (mk sg mt lp)) (hp : ∀ z, z ∈ mt → 0 ≤ z) (hl : 0 ≤ lp) : VL sg mt lp ↔ Rule (mk sg mt lp) :=
 ⟨fun h => h.1.flat, fun h => ⟨⟨hw, h⟩, hp, hl⟩⟩
theorem mem_pv {l : List Int} {z : Int} (h : z ∈ l) : ∃ k, k < l.length ∧ pv l k = z := by
 obtain ⟨k, hk, e⟩ := List.mem_iff_getElem.1 h
 exact ⟨k, hk, by unfold pv; rw [List.getD_eq_getElem?_getD, List.getElem?_eq_getElem hk]; exact e⟩
end Go.Proofs.Ytobbepmlmbbamaa.Pl
end
section
namespace Go.Proofs.Ytobbepmlmbbamaa.Pl
def shf (gs : List Nat) (h : Nat) : Nat := h - 4 * (gs.filter (fun c => decide (c < h / 4))).length
def left (n : Nat) (gs : List Nat) : List Nat := (List.range n).filter (fun c => !gs.contains c)
def four (f : Nat → Nat) (c : Nat) : List Nat := [f (4 * c), f (4 * c + 1), f (4 * c + 2), f (4 * c + 3)]
def shrS (gs : List Nat) (sg : List Int) : List Int := (left sg.length gs).map (fun c => sg.getD c 0)
def shrM (gs : List Nat) (n : Nat) (mt : List Nat) : List Nat := (left n gs).flatMap (four (fun h => shf gs (mt.getD h 0)))
theorem left_succ (n : Nat) (gs : List Nat) : left (n + 1) gs = left n gs ++ if gs.contains n then [] else [n] := by
 unfold left
 rw [List.range_succ, List.filter_append]
 congr 1
 cases h : gs.contains n
 ·rw [List.filter_cons, if_pos (by rw [h]; rfl)]; rfl
 ·rw [List.filter_cons, if_neg (by rw [h]; decide)]; rfl
theorem left_zero (gs : List Nat) : left 0 gs = [] := rfl
theorem left_le (n : Nat) (gs : List Nat) : (left n gs).length ≤ n := by
 unfold left
 have:=List.length_filter_le (fun c => !gs.contains c) (List.range n)
 simpa using this
theorem flat4 (l : List Nat) (f : Nat → Nat) : (l.flatMap (four f)).length = 4 * l.length := by
 induction l with
 | nil => rfl
 | cons a l ih => rw [List.flatMap_cons, List.length_append, ih, List.length_cons]; unfold four; simp only [List.length_cons, List.length_nil]; omega
theorem shrM_len (gs : List Nat) (n : Nat) (mt : List Nat) : (shrM gs n mt).length = 4 * (left n gs).length := flat4 _ _
theorem shrS_len (gs : List Nat) (sg : List Int) : (shrS gs sg).length = (left sg.length gs).length := by unfold shrS; rw [List.length_map]
theorem left_one {n c : Nat} (h : c < n) : (left n [c]).length + 1 = n := by
 induction n with
 | zero => omega
 | succ n ih =>
   rw [left_succ]
   by_cases e : c = n
   ·subst e
    have : ∀ k, k ≤ c → (left k [c]).length = k:=by
     intro k
     induction k with
     | zero => intro _; rfl
     | succ k ihk => intro hk; rw [left_succ, List.length_append, ihk (by omega)]; have : [c].contains k = false := by simp; omega
                     rw [this]; rfl
    have h2:=this c (Nat.le_refl _)
    simp [h2]
   ·have h2:=ih (by omega)
    have : [c].contains n = false:=by simp; omega
    rw [this, List.length_append]
    simp
    omega
theorem left_none {n : Nat} {gs : List Nat} (h : ∀ k, k < n → k ∉ gs) : left n gs = List.range n := by
 unfold left
 rw [List.filter_eq_self]
 intro a ha
 simp only [List.mem_range] at ha
 simpa using h a ha
theorem left_two {n x y : Nat} (h : x < y) (hy : y < n) : (left n [x, y]).length + 2 = n := by
 induction n with
 | zero => omega
 | succ n ih =>
   rw [left_succ, List.length_append]
   by_cases e : y = n
   ·subst e
    have : ∀ k, k ≤ y → left k [x, y] = left k [x]:=by
     intro k
     induction k with
     | zero => intro _; rfl
     | succ k ihk =>
       intro hk
       rw [left_succ, left_succ, ihk (by omega)]
       congr 1
       have : ([x, y].contains k) = ([x].contains k):=by
        rw [Bool.eq_iff_iff]; simp; omega
       rw [this]
    rw [this y (Nat.le_refl _)]
    have:=left_one h
    simp
    omega
   ·have h2:=ih (by omega)
    have : [x, y].contains n = false:=by simp; omega
    rw [this]
    simp
    omega
theorem shf_one (c h : Nat) : shf [c] h = if c < h / 4 then h - 4 else h := by
 unfold shf
 by_cases e : c < h / 4 <;> simp [List.filter_cons, e]
def Few (gs : List Nat) : Prop := ∀ q : Nat, (gs.filter (fun c => decide (c < q))).length ≤ q
theorem few_one (c : Nat) : Few [c] := by
 intro q
 by_cases e : c < q
 ·simp [List.filter_cons, e]; omega
 ·simp [List.filter_cons, e]
theorem few_two {x y : Nat} (h : x < y) : Few [x, y] := by
 intro q
 by_cases e : x < q <;> by_cases e2 : y < q <;> simp [List.filter_cons, e, e2] <;> omega
theorem shf_le {gs : List Nat} (hf : Few gs) (h : Nat) : 4 * (gs.filter (fun c => decide (c < h / 4))).length ≤ h := by
 have:=hf (h / 4)
 omega
end Go.Proofs.Ytobbepmlmbbamaa.Pl
end
section
namespace Go.Proofs.Ytobbepmlmbbamaa.Pl
theorem out_opp {d : Dg} (hd : Wf d) {h : Nat} (hh : h < 4 * d.n) : out d (tn h 2) = !out d h := by
 have s:=hd.sign (h / 4) (by omega)
 unfold out
 rw [tn_div, tn_mod]
 generalize d.s (h / 4) = s at *
 have ha : h % 4 = 0 ∨ h % 4 = 1 ∨ h % 4 = 2 ∨ h % 4 = 3:=by omega
 rcases ha with a | a | a | a <;> rw [a] <;> rcases s with rfl | rfl <;> rfl
structure Tr (d : Dg) (h0 h1 h2 : Nat) : Prop where
 l0 : h0 < 4 * d.n
 e0 : nx d h0 = h1
 e1 : nx d h1 = h2
 e2 : nx d h2 = h0
 c01 : h0 / 4 ≠ h1 / 4
 c12 : h1 / 4 ≠ h2 / 4
 c02 : h0 / 4 ≠ h2 / 4
def tu (h0 h1 h2 x : Nat) : Nat := tau h0 h1 h2 (tn h0 1) (tn h1 1) (tn h2 1) (tn h0 2) (tn h1 2) (tn h2 2) (tn h0 3) (tn h1 3) (tn h2 3) x
theorem Tr.tri {d : Dg} (hd : Wf d) {h0 h1 h2 : Nat} (t : Tr d h0 h1 h2) : Tri (dart d) rot d.m (tu h0 h1 h2) h0 h1 h2 (tn h0 1) (tn h1 1) (tn h2 1) (tn h0 2) (tn h1 2) (tn h2 2) (tn h0 3) (tn h1 3) (tn h2 3) := tri_of hd t.l0 t.e0 t.e1 t.e2 t.c01 t.c12 t.c02
theorem Tr.out {d : Dg} (hd : Wf d) {h0 h1 h2 : Nat} (t : Tr d h0 h1 h2) {x : Nat} (hx : x < 4 * d.n) : Pl.out d (tu h0 h1 h2 x) = Pl.out d x := by
 have T:=t.tri hd
 have l1 : h1 < 4 * d.n:=T.mem h1 (by simp)
 have l2 : h2 < 4 * d.n:=T.mem h2 (by simp)
 -- a half-edge and the one across the crossing of its mate
 have key : ∀ {h h' : Nat}, h < 4 * d.n → d.m h = tn h' 1 → h' < 4 * d.n → Pl.out d (tn h 2) = Pl.out d (tn h' 1) ∧ Pl.out d (tn h' 3) = Pl.out d h:=by
  intro h h' hh e hh'
  have w:=hd.way h hh
  rw [e] at w
  have o1:=out_opp hd hh
  have o2:=out_opp hd (show tn h' 1 < 4 * d.n from tn_lt hh')
  rw [tn_tn] at o2
  constructor
  ·rw [o1]; cases q : Pl.out d h <;> cases q' : Pl.out d (tn h' 1) <;> rw [q, q'] at w <;> first | rfl | exact absurd rfl w
  ·rw [o2]; cases q : Pl.out d h <;> cases q' : Pl.out d (tn h' 1) <;> rw [q, q'] at w <;> first | rfl | exact absurd rfl w
 obtain ⟨a0, b0⟩ := key t.l0 T.ah0 l1
 obtain ⟨a1, b1⟩ := key l1 T.ah1 l2
 obtain ⟨a2, b2⟩ := key l2 T.ah2 t.l0
 by_cases hm : x ∈ [h0, h1, h2, tn h0 1, tn h1 1, tn h2 1, tn h0 2, tn h1 2, tn h2 2, tn h0 3, tn h1 3, tn h2 3]
 ·simp only [List.mem_cons, List.not_mem_nil, or_false] at hm
  rcases hm with e | e | e | e | e | e | e | e | e | e | e | e <;> rw [e]
  ·rw [T.th0, b0]
  ·rw [T.th1, b1]
  ·rw [T.th2, b2]
  ·rw [T.tp0, a2]
  ·rw [T.tp1, a0]
  ·rw [T.tp2, a1]
  ·rw [T.tu0, a0]
  ·rw [T.tu1, a1]
  ·rw [T.tu2, a2]
  ·rw [T.tv0, b2]
  ·rw [T.tv1, b0]
  ·rw [T.tv2, b1]
 ·rw [T.tx x hm]
theorem Tr.valid {d d' : Dg} (hd : Valid d) {h0 h1 h2 : Nat} (t : Tr d h0 h1 h2) (sg : d'.sg = d.sg) (lp : d'.lp = d.lp) (len : d'.mt.length = 4 * d.n) (hm : ∀ x, x < 4 * d.n → d'.m x = cj (tu h0 h1 h2) d.m x) : Valid d' := by
 have hv:=Valid.iff.1 hd
 have T:=t.tri hv.1
 have hn : d'.n = d.n:=by unfold Dg.n; rw [sg]
 have hs : ∀ c, d'.s c = d.s c:=fun c => by unfold Dg.s; rw [sg]
 have ho : ∀ x, Pl.out d' x = Pl.out d x:=fun x => out_old (hs _)
 have hj:=hv.1.hm.cj (t := tu h0 h1 h2) T.tS (fun x _ => T.tt x)
 have tl : ∀ x, x < 4 * d.n → tu h0 h1 h2 x < 4 * d.n:=fun x hx => T.tS x hx
 refine Valid.iff.2 ⟨wf_by (by rw [hn]; exact hv.1.few) (by rw [hn]; exact len) (by rw [lp]; exact hv.1.lp) (fun c hc => by rw [hs]; exact hv.1.sign c (by rw [← hn]; exact hc)) (fun z hz => ?_), ?_⟩
 ·rw [hn] at hz ⊢
  have hz2 : cj (tu h0 h1 h2) d.m z < 4 * d.n:=hj.ab.maps z hz
  rw [hm z hz, hm _ hz2, ho, ho]
  refine ⟨hz2, hj.inv z hz, ?_⟩
  unfold cj
  have h1:=tl z hz
  rw [t.out hv.1 (hv.1.lt _ h1), ← t.out hv.1 hz]
  exact hv.1.way _ h1
 ·have hg:=T.gen hv.1.hm hv.2
  have e : dart d' = dart d:=by funext x; unfold dart; rw [hn]
  rw [e]
  exact Gen.congr (hj.congr (fun _ _ => rfl) (fun _ _ => rfl) |> fun _ => (⟨hv.1.hm.rb, hj.ab, hj.inv⟩ : Hm (4 * d.n) (dart d) rot (cj (tu h0 h1 h2) d.m))) (fun _ _ => rfl) (fun x hx => (hm x hx).symm) hg
end Go.Proofs.Ytobbepmlmbbamaa.Pl
end
section
namespace Go.Proofs.Ytobbepmlmbbamaa.Pl
variable {d : Dg}
theorem tn_ne {h j k : Nat} (e : j % 4 ≠ k % 4) : tn h j ≠ tn h k := by unfold tn; omega
end Go.Proofs.Ytobbepmlmbbamaa.Pl
end
section
namespace Go.Proofs.Ytobbepmlmbbamaa.Pl
variable {d : Dg}
def Wy (d : Dg) (b : Nat → Nat) : Prop := ∀ z, z < 4 * d.n → b z ≠ z → out d (b z) = !out d z
structure Lens (d : Dg) (h u : Nat) : Prop where
 hh : h < 4 * d.n
 m0 : d.m h = u
 m1 : d.m (tn h 1) = tn u 3
 ne : h / 4 ≠ u / 4
def cls (b : Nat → Nat) (u v : Nat) : Nat → Nat := if b u = v then b else byp b u v
section
variable {h u : Nat}
theorem Lens.hu (hd : Wf d) (L : Lens d h u) : u < 4 * d.n := by rw [← L.m0]; exact hd.lt h L.hh
structure LA (d : Dg) (h u : Nat) (b : Nat → Nat) : Prop where
 hm : Hm (4 * d.n) (dart d) rot b
 fl : Flat (dart d) rot b
 wy : Wy d b
 e0 : b h = u
 e1 : b (tn h 1) = tn u 3
 e2 : b u = h
 e3 : b (tn u 3) = tn h 1
 c : (b (tn h 2) = tn u 2 ∧ b (tn u 2) = tn h 2) ∨ (b (tn h 2) = tn h 2 ∧ b (tn u 2) = tn u 2)
 nf : ∀ z, z < 4 * d.n → z ≠ tn h 2 → z ≠ tn u 2 → b z ≠ z
end
end Go.Proofs.Ytobbepmlmbbamaa.Pl
end
section
namespace Go.Proofs.Ytobbepmlmbbamaa.Pl
section
variable {M : Nat} {o : Nat → Bool} {l : List Nat} {a : Nat → Nat}
end
def pp (n f t : Nat) : Nat := 4 * n + (t + f) % 4
section
variable {d d' : Dg} {f g : Nat} {fx fy : Bool}
variable {b : Nat → Nat}
end
end Go.Proofs.Ytobbepmlmbbamaa.Pl
end
section
namespace Go.Proofs.Ytobbepmlmbbamaa.Pl
def op (h : Nat) : Nat := tn h 2
section
variable {n : Nat} {b : Nat → Nat} {h u : Nat}
end
section
variable {N : Nat} {S : Nat → Prop} {r a : Nat → Nat}
end
section
variable {n : Nat} {b : Nat → Nat} {h u : Nat}
end
section
variable {d : Dg}
end
end Go.Proofs.Ytobbepmlmbbamaa.Pl
end
section
namespace Go.Proofs.Ytobbepmlmbbamaa.Pl
section
variable {d : Dg} {h u : Nat}
end
section
variable {d d' : Dg} {f g c1 c2 : Nat}
structure In (d d' : Dg) (f g : Nat) : Prop where
 n : d'.n = d.n + 2
 v : Valid d'
 m0 : d'.m (pp d.n f 0) = pp (d.n + 1) g 2
 m1 : d'.m (pp d.n f 1) = pp (d.n + 1) g 1
section
variable (I : In d d' f g)
include I
end
end
end Go.Proofs.Ytobbepmlmbbamaa.Pl
end
section
namespace Go.Proofs.Ytobbepmlmbbamaa
open Go.RowKit
theorem hide {p : Prop} (h : p) : Hid p := h
theorem ret_bool {a b : Bool} (h : a = b) : Ending.returned (.bool a) = Ending.returned (.bool b) := by rw [h]
theorem ret_int {k : IntKind} {a b : Int} (h : a = b) : Ending.returned (.int k a) = Ending.returned (.int k b) := by rw [h]
theorem lt_of_cell {w : World} {p : Addr} {v : Value} (h : w.cell? p = some v) : p.block < w.heap.size := by
 rcases Nat.lt_or_ge p.block w.heap.size with h1 | h1
 ·exact h1
 ·unfold World.cell? at h
  rw [Array.getElem?_eq_none h1] at h
  cases h
theorem cell_below {w w' : World} {p : Addr} {v : Value} (h : w.cell? p = some v) (hb : Below w.heap.size w w') : w'.cell? p = some v :=
 (hb.cell (lt_of_cell h)).trans h
def RowAt (w : World) (A : Option Addr) (n : Nat) (xs : List Value) : Prop :=
 xs.length = n ∧ (0 < n → ∃ b o, A = some ⟨b, o, none⟩ ∧ ∀ (j : Nat) u, xs[j]? = some u → w.cell? ⟨b, o + j, none⟩ = some u)
theorem RowAt.nil (w : World) : RowAt w none 0 [] := ⟨rfl, fun h => absurd h (by omega)⟩
theorem RowAt.keep {w w' : World} {A : Option Addr} {n : Nat} {xs : List Value} (h : RowAt w A n xs) (hb : Below w.heap.size w w') : RowAt w' A n xs :=
 ⟨h.1, fun hn => let ⟨b, o, e, hc⟩ := h.2 hn; ⟨b, o, e, fun j u hu => cell_below (hc j u hu) hb⟩⟩
theorem RowAt.at_ {w : World} {A : Option Addr} {n k : Nat} {xs : List Value} (h : RowAt w A n xs) (hk : k < n) :
 ∃ b o, A = some ⟨b, o, none⟩ ∧ w.cell? ⟨b, o + k, none⟩ = some (xs[k]'(by have := h.1; omega)) := by
 obtain ⟨b, o, e, hc⟩ := h.2 (by omega)
 have:=h.1
 exact ⟨b, o, e, hc k _ (List.getElem?_eq_getElem (by omega))⟩
def RowT (w : World) (t : TypeId) (A : Option Addr) (n : Nat) (xs : List Value) : Prop :=
 xs.length = n ∧ (0 < n → ∃ b o cs fr, A = some ⟨b, o, none⟩ ∧ w.heap[b]? = some (.cells cs t fr) ∧ ∀ (j : Nat) u, xs[j]? = some u → cs[o + j]? = some u)
theorem RowT.row {w : World} {t : TypeId} {A : Option Addr} {n : Nat} {xs : List Value} (h : RowT w t A n xs) : RowAt w A n xs :=
 ⟨h.1, fun hn => let ⟨b, o, cs, fr, e, hb, hc⟩ := h.2 hn; ⟨b, o, e, fun j u hu => by rw [cell_of_row w b _ cs t fr hb]; exact hc j u hu⟩⟩
theorem RowT.keep {w w' : World} {t : TypeId} {A : Option Addr} {n : Nat} {xs : List Value} (h : RowT w t A n xs) (hb : Below w.heap.size w w') : RowT w' t A n xs :=
 ⟨h.1, fun hn => let ⟨b, o, cs, fr, e, hg, hc⟩ := h.2 hn; ⟨b, o, cs, fr, e, (hb.block b (by
   rcases Nat.lt_or_ge b w.heap.size with h1 | h1
   ·exact h1
   ·rw [Array.getElem?_eq_none h1] at hg; cases hg)).trans hg, hc⟩⟩
theorem RowT.grown {w w' : World} {t t' : TypeId} {A : Option Addr} {n : Nat} {xs : List Value} {row : Option Nat} (h : RowT w t A n xs) (hg : w.grownBy w' row) (hr : ∀ g, row = some g → ∃ cs fr, w.heap[g]? = some (.cells cs t' fr)) (hne : t ≠ t') : RowT w' t A n xs :=
 ⟨h.1, fun hn => let ⟨b, o, cs, fr, e, hb, hc⟩ := h.2 hn; ⟨b, o, cs, fr, e, (hg.block b (by
   rcases Nat.lt_or_ge b w.heap.size with h1 | h1
   ·exact h1
   ·rw [Array.getElem?_eq_none h1] at hb; cases hb) (fun he => by
    obtain ⟨cs', fr', h3⟩ := hr b he.symm
    rw [hb] at h3
    injection h3 with h3
    injection h3 with _ h4
    exact hne h4)).trans hb, hc⟩⟩
theorem ownsRow_block {w : World} {base : Nat} {e : TypeId} {size : Nat} {v : Value} {n : Nat} {xs : List Value} (h : w.ownsRow base e size v n xs) : ∀ g, v.ownBlock = some g → ∃ cs fr, w.heap[g]? = some (.cells cs e fr) := by
 intro g hg
 rcases h.2 with ⟨rfl, _⟩ | ⟨g', cap, cur, rfl, _, h3, _⟩
 ·simp [Value.ownBlock] at hg
 ·simp [Value.ownBlock] at hg
  subst hg
  exact ⟨_, _, h3⟩
def IntsAt (w : World) (A : Option Addr) (n : Nat) (zs : List Int) : Prop := RowAt w A n (zs.map (.int .i64))
theorem IntsAt.keep {w w' : World} {A : Option Addr} {n : Nat} {zs : List Int} (h : IntsAt w A n zs) (hb : Below w.heap.size w w') : IntsAt w' A n zs := RowAt.keep h hb
theorem IntsAt.len {w : World} {A : Option Addr} {n : Nat} {zs : List Int} (h : IntsAt w A n zs) : zs.length = n := by have := h.1; simpa using this
theorem IntsAt.at_ {w : World} {A : Option Addr} {n k : Nat} {zs : List Int} (h : IntsAt w A n zs) (hk : k < n) :
 ∃ b o, A = some ⟨b, o, none⟩ ∧ w.cell? ⟨b, o + k, none⟩ = some (.int .i64 (zs.getD k 0)) := by
 obtain ⟨b, o, e, hc⟩ := RowAt.at_ h hk
 refine ⟨b, o, e, hc.trans ?_⟩
 have:=h.len
 rw [List.getElem_map, List.getD_eq_getElem?_getD, List.getElem?_eq_getElem (by omega)]; rfl
def nats (l : List Nat) : List Int := l.map (fun m : Nat => (m : Int))
structure DgAt (w : World) (A : Option Addr) (B : Option Addr) (d : Pl.Dg) : Prop where
 s : IntsAt w A d.n d.sg
 m : IntsAt w B (4 * d.n) (nats d.mt)
theorem DgAt.keep {w w' : World} {A B : Option Addr} {d : Pl.Dg} (h : DgAt w A B d) (hb : Below w.heap.size w w') : DgAt w' A B d := ⟨h.s.keep hb, h.m.keep hb⟩
theorem sign_at {w : World} {A : Option Addr} {d : Pl.Dg} (h : IntsAt w A d.n d.sg) {c : Nat} (hc : c < d.n) :
 ∃ b o, A = some ⟨b, o, none⟩ ∧ w.cell? ⟨b, o + c, none⟩ = some (.int .i64 (d.s c)) := h.at_ hc
theorem mate_at {w : World} {B : Option Addr} {d : Pl.Dg} (h : IntsAt w B (4 * d.n) (nats d.mt)) {k : Nat} (hk : k < 4 * d.n) :
 ∃ b o, B = some ⟨b, o, none⟩ ∧ w.cell? ⟨b, o + k, none⟩ = some (.int .i64 (d.m k : Nat)) := by
 obtain ⟨b, o, e, hc⟩ := h.at_ hk
 refine ⟨b, o, e, hc.trans ?_⟩
 have hl:=h.len
 unfold nats at hl
 rw [List.length_map] at hl
 unfold nats Pl.Dg.m
 rw [List.getD_eq_getElem?_getD, List.getD_eq_getElem?_getD, List.getElem?_map, List.getElem?_eq_getElem (by omega)]; rfl
end Go.Proofs.Ytobbepmlmbbamaa
end
section
namespace Go.Proofs.Ytobbepmlmbbamaa
open Go.RowKit
theorem turn_back (h : Nat) (w : World) (hh : h ≤ 1000000) :
 Calls Try.prog 108 #[.int .i64 (h : Int), .int .i64 (-1)] w fun e w' => e = .returned (.int .i64 (Pl.tn h 3 : Nat)) ∧ w = w' := by
 go_enter Try.func108, Try.ntmps108
 go_wp2
 go_ret
 exact ⟨ret_int (by unfold Pl.tn; omega), rfl⟩
theorem turn_opp (h : Nat) (w : World) (hh : h ≤ 1000000) :
 Calls Try.prog 108 #[.int .i64 (h : Int), .int .i64 2] w fun e w' => e = .returned (.int .i64 (Pl.tn h 2 : Nat)) ∧ w = w' := by
 go_enter Try.func108, Try.ntmps108
 go_wp2
 go_ret
 exact ⟨ret_int (by unfold Pl.tn; omega), rfl⟩
theorem opposite_any (h : Nat) (w : World) (hh : h ≤ 1000000) :
 Calls Try.prog 121 #[.int .i64 (h : Int)] w fun e w' => e = .returned (.int .i64 (Pl.tn h 2 : Nat)) ∧ w = w' := by
 go_enter Try.func121, Try.ntmps121
 go_wp2_with fail
 refine (turn_opp h _ hh).mono ?_
 rintro e w1 ⟨rfl, rfl⟩
 go_wp2
 go_ret
 exact ⟨rfl, rfl⟩
theorem out_zero {d : Pl.Dg} {h : Nat} (e : h % 4 = 0) : Pl.out d h = false := by unfold Pl.out; simp [e]
theorem out_one {d : Pl.Dg} {h : Nat} (e : h % 4 = 1) : Pl.out d h = (d.s (h / 4) == 1) := by unfold Pl.out; simp [e]
theorem out_two {d : Pl.Dg} {h : Nat} (e : h % 4 = 2) : Pl.out d h = true := by unfold Pl.out; simp [e]
theorem out_three {d : Pl.Dg} {h : Nat} (e : h % 4 = 3) : Pl.out d h = (d.s (h / 4) == -1) := by unfold Pl.out; simp [e]
theorem out_any (d : Pl.Dg) (A B : Option Addr) (cp q cq : Nat) (l : Value) (h : Nat) (w : World) (hh : h < 4 * d.n) (hn : d.n ≤ 1000) (hs : IntsAt w A d.n d.sg) :
 Calls Try.prog 58 #[.agg #[.slice A d.n cp, .slice B q cq, l], .int .i64 (h : Int)] w fun e w' => e = .returned (.bool (Pl.out d h)) ∧ Below w.heap.size w w' := by
 obtain ⟨b, o, rfl, hc⟩ := sign_at hs (c := h / 4) (by omega)
 have hb : Below w.heap.size w (w.alloc (.cells #[.slice (some ⟨b, o, none⟩) d.n cp, .slice B q cq, l] 24)):=(Below.refl _ _).alloc (Nat.le_refl _) _
 have hc2:=cell_below hc hb
 go_enter Try.func58, Try.ntmps58
 go_wp2
 all_goals
  go_ret
  refine ⟨ret_bool ?_, hb⟩
  simp only [beq_iff_eq, beq_eq_false_iff_ne, ne_eq] at *
 ·rw [out_one (by omega)]
 ·rw [out_two (by omega)]
 ·rw [out_three (by omega)]
 ·rw [out_zero (by omega)]
theorem out_n (d : Pl.Dg) (A B : Option Addr) (n cp q cq : Nat) (l : Value) (h : Nat) (w : World) (e : n = d.n) (hh : h < 4 * n) (hn : n ≤ 1000) (hs : IntsAt w A n d.sg) :
 Calls Try.prog 58 #[.agg #[.slice A n cp, .slice B q cq, l], .int .i64 (h : Int)] w fun e w' => e = .returned (.bool (Pl.out d h)) ∧ Below w.heap.size w w' := by
 subst e; exact out_any d A B cp q cq l h w hh hn hs
theorem out2_any (d : Pl.Dg) (A B : Option Addr) (cp q cq : Nat) (l : Value) (h : Nat) (w : World) (hh : h < 4 * d.n) (hn : d.n ≤ 1000) (hs : IntsAt w A d.n d.sg) :
 Calls Try.prog 119 #[.agg #[.slice A d.n cp, .slice B q cq, l], .int .i64 (h : Int)] w fun e w' => e = .returned (.bool (Pl.out d h)) ∧ Below w.heap.size w w' := by
 obtain ⟨b, o, rfl, hc⟩ := sign_at hs (c := h / 4) (by omega)
 have hb : Below w.heap.size w (w.alloc (.cells #[.slice (some ⟨b, o, none⟩) d.n cp, .slice B q cq, l] 24)):=(Below.refl _ _).alloc (Nat.le_refl _) _
 have hc2:=cell_below hc hb
 go_enter Try.func119, Try.ntmps119
 go_wp2
 all_goals
  go_ret
  refine ⟨ret_bool ?_, hb⟩
 ·rw [out_two (by omega)]
 ·rename_i e1
  rw [out_one (by omega)]; try simp [e1]
 ·rename_i e1
  rw [out_one (by omega)]; try simp [e1]
 ·rw [out_three (by omega)]
 ·rw [out_zero (by omega)]; simp; omega
theorem out2_n (d : Pl.Dg) (A B : Option Addr) (n cp q cq : Nat) (l : Value) (h : Nat) (w : World) (e : n = d.n) (hh : h < 4 * n) (hn : n ≤ 1000) (hs : IntsAt w A n d.sg) :
 Calls Try.prog 119 #[.agg #[.slice A n cp, .slice B q cq, l], .int .i64 (h : Int)] w fun e w' => e = .returned (.bool (Pl.out d h)) ∧ Below w.heap.size w w' := by
 subst e; exact out2_any d A B cp q cq l h w hh hn hs
theorem next_any (d : Pl.Dg) (B : Option Addr) (cq : Nat) (h : Nat) (w : World) (hh : h < 4 * d.n) (hn : d.n ≤ 1000) (hm : IntsAt w B (4 * d.n) (nats d.mt)) (hlt : d.m h < 4 * d.n) :
 Calls Try.prog 95 #[.slice B (4 * d.n) cq, .int .i64 (h : Int)] w fun e w' => e = .returned (.int .i64 (Pl.nx d h : Nat)) ∧ w = w' := by
 obtain ⟨b, o, rfl, hc⟩ := mate_at hm hh
 go_enter Try.func95, Try.ntmps95
 go_wp2_with fail
 refine (turn_back _ _ (by omega)).mono ?_
 rintro e w1 ⟨rfl, rfl⟩
 go_wp2
 go_ret
 exact ⟨rfl, rfl⟩
end Go.Proofs.Ytobbepmlmbbamaa
end
section
namespace Go.Proofs.Ytobbepmlmbbamaa
open Go Go.RowKit
def OwnT (w : World) (base : Nat) (e : TypeId) (v : Value) (n : Nat) (xs : List Value) : Prop :=
 xs.length = n ∧ ∃ g off cap cur, v = .slice (some ⟨g, off, none⟩) n cap ∧ base ≤ g ∧ w.heap[g]? = some (.cells cur e (0, 0)) ∧ n ≤ cap ∧ cap ≤ maxLen ∧ off + cap ≤ cur.size ∧ (cur.toList.drop off).take n = xs
theorem lt_of_heap {w : World} {g : Nat} {o : Obj} (h : w.heap[g]? = some o) : g < w.heap.size := by
 rcases Nat.lt_or_ge g w.heap.size with h1 | h1
 ·exact h1
 ·rw [Array.getElem?_eq_none h1] at h; cases h
theorem OwnT.keep {w w' : World} {base : Nat} {e : TypeId} {v : Value} {n : Nat} {xs : List Value} (h : OwnT w base e v n xs) (hb : ∀ g, base ≤ g → g < w.heap.size → v.ownBlock = some g → w'.heap[g]? = w.heap[g]?) : OwnT w' base e v n xs := by
 obtain ⟨h0, g, off, cap, cur, rfl, h1, h2, h3⟩ := h
 exact ⟨h0, g, off, cap, cur, rfl, h1, (hb g h1 (lt_of_heap h2) rfl).trans h2, h3⟩
theorem OwnT.below {w w' : World} {base : Nat} {e : TypeId} {v : Value} {n : Nat} {xs : List Value} (h : OwnT w base e v n xs) (hb : Below w.heap.size w w') : OwnT w' base e v n xs :=
 h.keep fun g _ h2 _ => hb.block g h2
theorem OwnT.cells {w : World} {base : Nat} {e : TypeId} {v : Value} {n : Nat} {xs : List Value} (h : OwnT w base e v n xs) : ∃ g off cap, v = .slice (some ⟨g, off, none⟩) n cap ∧ base ≤ g ∧ g < w.heap.size ∧ n ≤ cap ∧ cap ≤ maxLen ∧ ∀ (j : Nat) u, xs[j]? = some u → w.cell? ⟨g, off + j, none⟩ = some u := by
 obtain ⟨h0, g, off, cap, cur, rfl, h1, h2, h3, h4, h5, h6⟩ := h
 refine ⟨g, off, cap, rfl, h1, lt_of_heap h2, h3, h4, fun j u hu => ?_⟩
 rw [cell_of_row w g _ cur e (0, 0) h2]
 rw [← h6, List.getElem?_take] at hu
 split at hu
 ·rw [List.getElem?_drop] at hu
  rw [← Array.getElem?_toList]; exact hu
 ·cases hu
theorem OwnT.tail0 {w : World} {base : Nat} {e : TypeId} {g off n cap : Nat} {x : Value} {xs : List Value} (h : OwnT w base e (.slice (some ⟨g, off, none⟩) (n + 1) cap) (n + 1) (x :: xs)) (hc : cap = 1) : OwnT w base e (.slice (some ⟨g, off, none⟩) n (cap - 1)) n xs := by
 obtain ⟨h0, g', off', cap', cur, e1, h1, h2, h3, h4, h5, h6⟩ := h
 injection e1 with e1 _ e2
 injection e1 with e1
 injection e1 with e3 e4
 subst e2; subst e3; subst e4
 have hl : xs.length = n:=by simpa using h0
 obtain rfl : n = 0 := by omega
 exact ⟨hl, g, off, cap - 1, cur, rfl, h1, h2, by omega, by omega, by omega, by rw [List.take_zero]; exact (List.eq_nil_of_length_eq_zero hl).symm⟩
theorem OwnT.tail {w : World} {base : Nat} {e : TypeId} {g off n cap : Nat} {x : Value} {xs : List Value} (h : OwnT w base e (.slice (some ⟨g, off, none⟩) (n + 1) cap) (n + 1) (x :: xs)) : OwnT w base e (.slice (some ⟨g, off + 1, none⟩) n (cap - 1)) n xs := by
 obtain ⟨h0, g', off', cap', cur, e1, h1, h2, h3, h4, h5, h6⟩ := h
 injection e1 with e1 _ e2
 injection e1 with e1
 injection e1 with e3 e4
 subst e2; subst e3; subst e4
 have hl : xs.length = n:=by simpa using h0
 refine ⟨hl, g, off + 1, cap - 1, cur, rfl, h1, h2, by omega, by omega, by omega, ?_⟩
 have e5 : cur.toList.drop off = (cur.toList.drop off).head?.getD x :: cur.toList.drop (off + 1):=by
  have : cur.toList.drop off ≠ []:=by
   intro e; rw [e] at h6; simp at h6
  rw [List.drop_eq_getElem_cons (by simp; omega)]
  simp
 rw [e5, List.take_succ_cons] at h6
 injection h6
section
variable {P : Program} (w : World)
theorem run_append_tail (base : Nat) (t ty e : TypeId) (i : TypeInfo) (z : Value) (bytes : Nat) (ht : P.underlying t = some (.slice e)) (hi : P.info? e = some i) (hz : i.zero = some z)
 (hsize : i.size = 1) (hby : i.bytes = bytes) (hzs : z.cells.size = 1)
 (v : Value) (n : Nat) (xs : List Value) (hown : OwnT w base e v n xs)
 (a : Addr) (c : Nat) (x : Value) (hnews : w.cell? (a.add 0) = some x) (h1 : x.oneCell' = true)
 (h63 : n + 1 ≤ maxLen) (hbytes : (n + 1) * bytes ≤ 140737488355328) (hbase : base ≤ w.heap.size) :
 ∃ v' w', (Builtin.append_ #[t, t] ty #[v, .slice (some a) 1 c]).run P w = .ok v' w' ∧ OwnT w' base e v' (n + 1) (xs ++ [x]) ∧ w.grownBy w' v.ownBlock := by
 subst hby
 have hsmall : n + 1 ≤ 9223372036854775807:=by simp only [maxLen] at h63; omega
 have hlen : (xs ++ [x]).length = n + 1:=by rw [List.length_append, hown.1]; rfl
 have hn1 : ∀ (j : Nat) u, [x][j]? = some u → w.cell? (a.add j) = some u:=by
  intro j u hu
  match j, hu with
  | 0, hu => simp at hu; subst hu; exact hnews
 obtain ⟨h0, g, off, cap, cur, rfl, hbg, hg, hnc, hcm, hcs, htake⟩ := hown
 by_cases hroom : n + 1 ≤ cap
 ·have hf:=run_firstCells_some (P := P) w i.size 1 a 1 c [x] (by rw [hsize]; rfl) hn1
  have hst:=run_storeCells_at P g (off + n) e [x] 0 cur w hg (by simp; omega) (by simpa using h1)
  simp only [Nat.add_zero] at hst
  rw [hsize] at hf
  have hr : (Builtin.append_ #[t, t] ty #[.slice (some ⟨g, off, none⟩) n cap, .slice (some a) 1 c]).run P w = .ok (.slice (some ⟨g, off, none⟩) (n + 1) cap) (w.setRow g (cur.toList.take (off + n) ++ [x] ++ cur.toList.drop (off + n + [x].length)).toArray):=by
   simp only [List.length_singleton] at hst ⊢
   simp [Builtin.append_, run_underlying ht, sizeOf, typeInfo, hi, hsize, Builtin.lenOf, hroom, hf, Addr.add_lit, hst]
  refine ⟨_, _, hr, ⟨hlen, g, off, cap, _, rfl, hbg, setRow_heap w g cur _ e _ hg, hroom, hcm, ?_, ?_⟩, ⟨rfl, rfl, rfl, by simp, fun k _ hk => setRow_other w g k _ (fun e => hk (by simp [Value.ownBlock, e]))⟩⟩
  ·simp only [List.size_toArray, List.length_append, List.length_take, List.length_drop, Array.length_toList, List.length_cons, List.length_nil]
   omega
  ·have e1 : cur.toList.take (off + n) = cur.toList.take off ++ xs := by
    rw [← htake, List.take_add]
   rw [e1]
   simp only [List.append_assoc]
   have e2 : (cur.toList.take off).length = off:=by rw [List.length_take, Array.length_toList]; omega
   rw [List.drop_append, e2, Nat.sub_self, List.drop_zero, List.drop_eq_nil_of_le (by omega), List.nil_append, ← List.append_assoc, ← hlen, List.take_left]
 ·have holds : ∀ (j : Nat) u, xs[j]? = some u → w.cell? ((⟨g, off, none⟩ : Addr).add j) = some u := by
   intro j u hu
   have : (⟨g, off, none⟩ : Addr).add j = ⟨g, off + j, none⟩:=by unfold Addr.add; split <;> simp_all
   rw [this, cell_of_row w g _ cur e (0, 0) hg]
   rw [← htake, List.getElem?_take] at hu
   split at hu
   ·rw [List.getElem?_drop] at hu
    rw [← Array.getElem?_toList]; exact hu
   ·cases hu
  have hr:=run_append_grow (P := P) w t ty e i z ht hi hz ⟨g, off, none⟩ n cap xs (by rw [hsize, h0]; omega) holds a 1 c [x] (by rw [hsize]; rfl) hn1 (by omega) (by omega) (growslice_fits (by omega) hbytes)
  have hge:=grownCap_ge w (n + 1) cap e
  have hcm' : grownCap w (n + 1) cap e ≤ maxLen:=grownCap_le_maxLen w (n + 1) cap e h63
  refine ⟨_, _, hr, ⟨hlen, w.heap.size, 0, _, _, rfl, hbase, heap_alloc_new w.drew _, hge, hcm', ?_, ?_⟩, ⟨rfl, rfl, rfl, by simp, fun k hk _ => Below.heap_alloc w.drew _ k hk⟩⟩
  ·simp only [Array.size_append, List.size_toArray, size_zeroCells, hzs, h0, List.length_cons, List.length_nil]
   omega
  ·simp only [Array.toList_append, List.drop_zero]
   rw [← hlen]
   exact List.take_left
theorem wp_append_tail {o : Oper} {a : Act} {K : Act → World → Prop} {Q : Exit → Act → World → Prop} (s x : Operand) (t : TypeId)
 (ho : o.op = .call { callee := .builtin .append, args := #[s, x], argTypes := #[t, t] })
 (base : Nat) (e : TypeId) (i : TypeInfo) (z : Value) (bytes : Nat) (ht : P.underlying t = some (.slice e)) (hi : P.info? e = some i) (hz : i.zero = some z)
 (hsize : i.size = 1) (hby : i.bytes = bytes) (hzs : z.cells.size = 1)
 (v : Value) (n : Nat) (xs : List Value) (hs : a.eval s = v) (hown : OwnT w base e v n xs)
 (ad : Addr) (c : Nat) (u : Value) (hx : a.eval x = .slice (some ad) 1 c) (hnews : w.cell? (ad.add 0) = some u) (h1 : u.oneCell' = true)
 (h63 : n + 1 ≤ maxLen) (hbytes : (n + 1) * bytes ≤ 140737488355328) (hbase : base ≤ w.heap.size)
 (h : ∀ v' w', OwnT w' base e v' (n + 1) (xs ++ [u]) → w.grownBy w' v.ownBlock → K (a.put o.dst v') w') : o.wp P a w K Q := by
 obtain ⟨v', w', hr, h2, h3⟩ := run_append_tail (P := P) w base t o.type e i z bytes ht hi hz hsize hby hzs v n xs hown ad c u hnews h1 h63 hbytes hbase
 unfold Oper.wp execOp
 simp only [ho, resolve, invoke, builtin, Sem.run_bind, Sem.run_pure, Result.andThen_ok, List.map_toArray, List.map_cons, List.map_nil, hs, hx, hr]
 exact h v' w' h2 h3
theorem wpList_append_tail {ops : Array Oper} {rest : List Oper} {o : Oper} {a : Act} {Q : Exit → Act → World → Prop} (hgd : o.guard = none) (s x : Operand) (t : TypeId)
 (ho : o.op = .call { callee := .builtin .append, args := #[s, x], argTypes := #[t, t] })
 (base : Nat) (e : TypeId) (i : TypeInfo) (z : Value) (bytes : Nat) (ht : P.underlying t = some (.slice e)) (hi : P.info? e = some i) (hz : i.zero = some z)
 (hsize : i.size = 1) (hby : i.bytes = bytes) (hzs : z.cells.size = 1)
 (v : Value) (n : Nat) (xs : List Value) (hs : a.eval s = v) (hown : OwnT w base e v n xs)
 (ad : Addr) (c : Nat) (u : Value) (hx : a.eval x = .slice (some ad) 1 c) (hnews : w.cell? (ad.add 0) = some u) (h1 : u.oneCell' = true)
 (h63 : n + 1 ≤ maxLen) (hbytes : (n + 1) * bytes ≤ 140737488355328) (hbase : base ≤ w.heap.size)
 (h : ∀ v' w', OwnT w' base e v' (n + 1) (xs ++ [u]) → w.grownBy w' v.ownBlock → wpList P ops Q rest (a.put o.dst v') w') : wpList P ops Q (o :: rest) a w :=
 wpList_plain hgd fun _ hK => wp_append_tail w s x t ho base e i z bytes ht hi hz hsize hby hzs v n xs hs hown ad c u hx hnews h1 h63 hbytes hbase fun v' w' h2 h3 => hK _ _ (h v' w' h2 h3)
end
end Go.Proofs.Ytobbepmlmbbamaa
end
section
namespace Go.Proofs.Ytobbepmlmbbamaa
open Go Go.RowKit
def Row (w : World) (g : Nat) (t : TypeId) (vs : List Value) : Prop := w.heap[g]? = some (.cells vs.toArray t (0, 0))
theorem Row.lt {w : World} {g : Nat} {t : TypeId} {vs : List Value} (h : Row w g t vs) : g < w.heap.size := lt_of_heap h
theorem Row.cell {w : World} {g : Nat} {t : TypeId} {vs : List Value} (h : Row w g t vs) {i : Nat} (hi : i < vs.length) : w.cell? ⟨g, i, none⟩ = some (vs[i]'hi) := by
 rw [cell_of_row w g i _ t (0, 0) h]; simp [hi]
theorem Row.free {w : World} {g : Nat} {t : TypeId} {vs : List Value} (h : Row w g t vs) (i : Nat) : w.frozen? ⟨g, i, none⟩ = false := frozen_of_row w g i _ t h
theorem Row.set {w : World} {g : Nat} {t : TypeId} {vs : List Value} (h : Row w g t vs) (i : Nat) (v : Value) : Row (w.setCell ⟨g, i, none⟩ v) g t (vs.set i v) := by
 unfold Row
 rw [Go.heap_setCell_same w g i _ t v h]
 simp
theorem Row.other {w : World} {g : Nat} {t : TypeId} {vs : List Value} (h : Row w g t vs) {a : Addr} (ha : g ≠ a.block) (v : Value) : Row (w.setCell a v) g t vs := (Below.heap_setCell w a v g ha).trans h
theorem Row.alloc {w : World} {g : Nat} {t : TypeId} {vs : List Value} (h : Row w g t vs) (o : Obj) : Row (w.alloc o) g t vs := (Below.heap_alloc w o g h.lt).trans h
theorem Row.drew {w : World} {g : Nat} {t : TypeId} {vs : List Value} (h : Row w g t vs) : Row w.drew g t vs := h
theorem Row.below {w w' : World} {g : Nat} {t : TypeId} {vs : List Value} (h : Row w g t vs) (hb : Below w.heap.size w w') : Row w' g t vs := (hb.block g h.lt).trans h
theorem Row.grown {w w' : World} {g : Nat} {t : TypeId} {vs : List Value} {r : Option Nat} (h : Row w g t vs) (hg : w.grownBy w' r) (hr : some g ≠ r) : Row w' g t vs := (hg.block g h.lt hr).trans h
theorem Row.new (w : World) (t : TypeId) (vs : List Value) : Row (w.alloc (.cells vs.toArray t)) w.heap.size t vs := heap_alloc_new w _
def IRow (w : World) (g : Nat) (zs : List Int) : Prop := Row w g 3 (zs.map (.int .i64))
theorem IRow.cell {w : World} {g : Nat} {zs : List Int} (h : IRow w g zs) {i : Nat} (hi : i < zs.length) : w.cell? ⟨g, i, none⟩ = some (.int .i64 (Pl.pv zs i)) := by
 refine (Row.cell h (i := i) (by simpa using hi)).trans ?_
 unfold Pl.pv
 rw [List.getElem_map, List.getD_eq_getElem?_getD, List.getElem?_eq_getElem hi]; rfl
theorem IRow.set {w : World} {g : Nat} {zs : List Int} (h : IRow w g zs) (i : Nat) (v : Int) : IRow (w.setCell ⟨g, i, none⟩ (.int .i64 v)) g (zs.set i v) := by
 unfold IRow
 rw [List.map_set]
 exact Row.set h i _
theorem IRow.ints {w : World} {g : Nat} {zs : List Int} (h : IRow w g zs) : IntsAt w (some ⟨g, 0, none⟩) zs.length zs := by
 refine ⟨by simp, fun _ => ⟨g, 0, rfl, fun j u hu => ?_⟩⟩
 rw [Nat.zero_add]
 refine (cell_of_row w g j _ _ (0, 0) h).trans ?_
 simpa using hu
def BRow (w : World) (g : Nat) (bs : List Bool) : Prop := Row w g 4 (bs.map .bool)
theorem BRow.cell {w : World} {g : Nat} {bs : List Bool} (h : BRow w g bs) {i : Nat} (hi : i < bs.length) : w.cell? ⟨g, i, none⟩ = some (.bool (bs.getD i false)) := by
 refine (Row.cell h (i := i) (by simpa using hi)).trans ?_
 rw [List.getElem_map, List.getD_eq_getElem?_getD, List.getElem?_eq_getElem hi]; rfl
theorem BRow.set {w : World} {g : Nat} {bs : List Bool} (h : BRow w g bs) (i : Nat) (v : Bool) : BRow (w.setCell ⟨g, i, none⟩ (.bool v)) g (bs.set i v) := by
 unfold BRow
 rw [List.map_set]
 exact Row.set h i _
theorem made_rep (v : Value) (n : Nat) : madeCells #[v] n = (List.replicate n v).toArray := by
 apply Array.ext'
 simp only [madeCells, Array.toList_map, Array.toList_range]
 refine List.ext_getElem (by simp) (fun i h1 h2 => ?_)
 have : i % 1 = 0:=Nat.mod_one i
 simp [this]
theorem IRow.made (w : World) (n : Nat) : IRow (w.alloc (.cells (Array.replicate n (Value.int .i64 0)) 3)) w.heap.size (List.replicate n 0) := by
 unfold IRow Row
 rw [List.map_replicate]
 exact heap_alloc_new w _
theorem BRow.made (w : World) (n : Nat) : BRow (w.alloc (.cells (Array.replicate n (Value.bool false)) 4)) w.heap.size (List.replicate n false) := by
 unfold BRow Row
 rw [List.map_replicate]
 exact heap_alloc_new w _
theorem intInfo : (Try.prog.info? 3).map (fun i => (i.zero, i.size, i.bytes)) = some (some (.int .i64 0), 1, 8) := by kernel_rfl
theorem boolInfo : (Try.prog.info? 4).map (fun i => (i.zero, i.size, i.bytes)) = some (some (.bool false), 1, 1) := by kernel_rfl
theorem run_ints (n : Nat) (hn : n ≤ 100000) (w : World) : (Instr.makeSlice 22 (.int .i64 (n : Int)) (.int .i64 (n : Int))).run Try.prog w = .ok (.slice (some ⟨w.heap.size, 0, none⟩) n n) (w.alloc (.cells (Array.replicate n (Value.int .i64 0)) 3)) := by
 obtain ⟨i0, hi, hz0, hz1, hz2⟩ := info_parts intInfo
 have:=run_make (P := Try.prog) w 22 3 i0 (.int .i64 0) Try.underlying22 hi hz0 .i64 .i64 n n (by omega) (Int.le_refl _) (by rw [hz2]; omega) (by omega)
 rw [hz1, Nat.mul_one, Int.toNat_natCast, show madeCells (Value.cells (.int .i64 0)) n = (List.replicate n (.int .i64 0)).toArray from made_rep _ _] at this
 exact this
theorem run_bools (n : Nat) (hn : n ≤ 100000) (w : World) : (Instr.makeSlice 69 (.int .i64 (n : Int)) (.int .i64 (n : Int))).run Try.prog w = .ok (.slice (some ⟨w.heap.size, 0, none⟩) n n) (w.alloc (.cells (Array.replicate n (Value.bool false)) 4)) := by
 obtain ⟨i0, hi, hz0, hz1, hz2⟩ := info_parts boolInfo
 have:=run_make (P := Try.prog) w 69 4 i0 (.bool false) Try.underlying69 hi hz0 .i64 .i64 n n (by omega) (Int.le_refl _) (by rw [hz2]; omega) (by omega)
 rw [hz1, Nat.mul_one, Int.toNat_natCast, show madeCells (Value.cells (.bool false)) n = (List.replicate n (.bool false)).toArray from made_rep _ _] at this
 exact this
end Go.Proofs.Ytobbepmlmbbamaa
end
section
namespace Go.Proofs.Ytobbepmlmbbamaa
open Go Go.RowKit
section
variable {P : Program} (w : World)
theorem run_append_ints (base : Nat) (t ty e : TypeId) (i : TypeInfo) (z : Value) (bytes : Nat) (ht : P.underlying t = some (.slice e)) (hi : P.info? e = some i) (hz : i.zero = some z)
 (hsize : i.size = 1) (hby : i.bytes = bytes) (hzs : z.cells.size = 1)
 (v : Value) (n : Nat) (xs : List Value) (hown : w.ownsRow base e 1 v n xs)
 (A : Option Addr) (m c : Nat) (zs : List Int) (hin : IntsAt w A m zs)
 (h63 : n + m ≤ maxLen) (hbytes : (n + m) * bytes ≤ 140737488355328) (hbase : base ≤ w.heap.size) :
 ∃ v' w', (Builtin.append_ #[t, t] ty #[v, .slice A m c]).run P w = .ok v' w' ∧ w'.ownsRow base e 1 v' (n + m) (xs ++ zs.map (.int .i64)) ∧ w.grownBy w' v.ownBlock := by
 have hl:=hin.len
 rcases Nat.eq_zero_or_pos m with h0 | h0
 ·subst h0
  obtain rfl : zs = [] := List.eq_nil_of_length_eq_zero hl
  have hr : (Builtin.append_ #[t, t] ty #[v, .slice A 0 c]).run P w = .ok v w:=by
   rcases hown.2 with ⟨rfl, rfl⟩ | ⟨g, cap, cur, rfl, _, _, hnc, _⟩
   ·cases A <;> simp [Builtin.append_, run_underlying ht, sizeOf, typeInfo, hi, Builtin.lenOf, Builtin.firstCells, loadCells, loadCellsFrom]
   ·cases A <;> simp [Builtin.append_, run_underlying ht, sizeOf, typeInfo, hi, Builtin.lenOf, Builtin.firstCells, hnc, storeCells, loadCells, loadCellsFrom]
  refine ⟨v, w, hr, by simpa using hown, ⟨rfl, rfl, rfl, Nat.le_refl _, fun _ _ _ => rfl⟩⟩
 ·obtain ⟨b, o, rfl, hc⟩ := hin.2 h0
  obtain ⟨v', w', hr, h2, h3, _⟩ := run_append_own (P := P) w base t ty e i z 1 bytes ht hi hz hsize hby hzs (by omega) v n xs hown ⟨b, o, none⟩ m c (zs.map (.int .i64)) (by rw [List.length_map, hl, Nat.mul_one]) (fun j u hu => by
   have : (⟨b, o, none⟩ : Addr).add j = ⟨b, o + j, none⟩:=by unfold Addr.add; split <;> simp_all
   rw [this]; exact hc j u hu) (fun u hu => by
   obtain ⟨x, _, rfl⟩ := List.mem_map.1 hu; rfl) h63 hbytes hbase
  exact ⟨v', w', hr, h2, h3⟩
theorem wp_append_ints {o : Oper} {a : Act} {K : Act → World → Prop} {Q : Exit → Act → World → Prop} (s x : Operand) (t : TypeId)
 (ho : o.op = .call { callee := .builtin .append, args := #[s, x], argTypes := #[t, t] })
 (base : Nat) (e : TypeId) (i : TypeInfo) (z : Value) (bytes : Nat) (ht : P.underlying t = some (.slice e)) (hi : P.info? e = some i) (hz : i.zero = some z)
 (hsize : i.size = 1) (hby : i.bytes = bytes) (hzs : z.cells.size = 1)
 (v : Value) (n : Nat) (xs : List Value) (hs : a.eval s = v) (hown : w.ownsRow base e 1 v n xs)
 (A : Option Addr) (m c : Nat) (zs : List Int) (hx : a.eval x = .slice A m c) (hin : IntsAt w A m zs)
 (h63 : n + m ≤ maxLen) (hbytes : (n + m) * bytes ≤ 140737488355328) (hbase : base ≤ w.heap.size)
 (h : ∀ v' w', w'.ownsRow base e 1 v' (n + m) (xs ++ zs.map (.int .i64)) → w.grownBy w' v.ownBlock → K (a.put o.dst v') w') : o.wp P a w K Q := by
 obtain ⟨v', w', hr, h2, h3⟩ := run_append_ints (P := P) w base t o.type e i z bytes ht hi hz hsize hby hzs v n xs hown A m c zs hin h63 hbytes hbase
 unfold Oper.wp execOp
 simp only [ho, resolve, invoke, builtin, Sem.run_bind, Sem.run_pure, Result.andThen_ok, List.map_toArray, List.map_cons, List.map_nil, hs, hx, hr]
 exact h v' w' h2 h3
theorem wpList_append_ints {ops : Array Oper} {rest : List Oper} {o : Oper} {a : Act} {Q : Exit → Act → World → Prop} (hgd : o.guard = none) (s x : Operand) (t : TypeId)
 (ho : o.op = .call { callee := .builtin .append, args := #[s, x], argTypes := #[t, t] })
 (base : Nat) (e : TypeId) (i : TypeInfo) (z : Value) (bytes : Nat) (ht : P.underlying t = some (.slice e)) (hi : P.info? e = some i) (hz : i.zero = some z)
 (hsize : i.size = 1) (hby : i.bytes = bytes) (hzs : z.cells.size = 1)
 (v : Value) (n : Nat) (xs : List Value) (hs : a.eval s = v) (hown : w.ownsRow base e 1 v n xs)
 (A : Option Addr) (m c : Nat) (zs : List Int) (hx : a.eval x = .slice A m c) (hin : IntsAt w A m zs)
 (h63 : n + m ≤ maxLen) (hbytes : (n + m) * bytes ≤ 140737488355328) (hbase : base ≤ w.heap.size)
 (h : ∀ v' w', w'.ownsRow base e 1 v' (n + m) (xs ++ zs.map (.int .i64)) → w.grownBy w' v.ownBlock → wpList P ops Q rest (a.put o.dst v') w') : wpList P ops Q (o :: rest) a w :=
 wpList_plain hgd fun _ hK => wp_append_ints w s x t ho base e i z bytes ht hi hz hsize hby hzs v n xs hs hown A m c zs hx hin h63 hbytes hbase fun v' w' h2 h3 => hK _ _ (h v' w' h2 h3)
end
def growRen : Go.Shelf.Ren := ⟨fun | 4 => 131 | n => n, fun | 22 => 22 | 25 => 3 | 3 => 3 | 4 => 4 | 9 => 9 | 20 => 20 | 0 => 0 | n => n, fun | n => n⟩
theorem growLays : Go.Proofs.Lays8.n4 Try.prog growRen := {
 mixed := by kernel_rfl
 f4 := ⟨Try.f131.name, by decide, Try.func131.trans (congrArg some (by kernel_rfl))⟩
 t0 := Try.underlying0
 a0 := Try.isAgg0
 z0 := Try.sizeOf0
 v0 := Try.zeroValue0
 t3 := Try.underlying3
 a3 := Try.isAgg3
 z3 := Try.sizeOf3
 v3 := Try.zeroValue3
 t4 := Try.underlying4
 a4 := Try.isAgg4
 z4 := Try.sizeOf4
 v4 := Try.zeroValue4
 t9 := Try.underlying9
 a9 := Try.isAgg9
 z9 := Try.sizeOf9
 v9 := Try.zeroValue9
 t20 := Try.underlying20
 a20 := Try.isAgg20
 z20 := Try.sizeOf20
 v20 := Try.zeroValue20
 t22 := Try.underlying22
 a22 := Try.isAgg22
 z22 := Try.sizeOf22
 v22 := Try.zeroValue22 }
theorem grow_nil (n : Nat) (w : World) (hn : n ≤ 100000) :
 Calls Try.prog 131 #[.slice none 0 0, .int .i64 (n : Int)] w fun e w' => ∃ v, e = .returned v ∧ w'.ownsRow w.heap.size 3 1 v 0 [] ∧ Below w.heap.size w w' := by
 rcases Nat.eq_zero_or_pos n with h0 | h0
 ·subst h0
  refine (Any8.slices_Grow_room growLays none 0 0 0 w (by omega) (by omega) (by omega) (by omega)).mono ?_
  rintro e w' ⟨rfl, rfl⟩
  exact ⟨_, rfl, World.ownsRow_nil _ _ _ _, Below.refl _ _⟩
 ·obtain ⟨i0, hi0, hz0, hz1, hz2⟩ := info_parts intInfo
  refine (Any8.slices_Grow_grow growLays i0 (.int .i64 0) hi0 hz0 (by omega) none 0 0 n [] w (by omega) (by omega) (by rw [hz2]; omega) (by omega) (by simp) (fun _ => rfl) (fun a h => by cases h)).mono ?_
  rintro e w' ⟨rfl, rfl⟩
  have hge:=grownCap_ge w (0 + n) 0 3
  have hle:=grownCap_le_maxLen w (0 + n) 0 3 (by unfold maxLen; omega)
  refine ⟨_, rfl, ?_, ((Below.refl _ _).drew).alloc (by simp) _⟩
  refine ⟨rfl, .inr ⟨w.heap.size, _, _, rfl, Nat.le_refl _, heap_alloc_new w.drew _, Nat.zero_le _, hle, ?_, by simp⟩⟩
  show _ = grownCap w (0 + n) 0 3 * 1
  simp only [Array.size_append, List.size_toArray, size_zeroCells, List.length_nil]
  show 0 + (0 + n - 0) * 1 + (grownCap w (0 + n) 0 3 - (0 + n)) * 1 = _
  omega
end Go.Proofs.Ytobbepmlmbbamaa
end
section
namespace Go.Proofs.Ytobbepmlmbbamaa
open Go.RowKit
def pre (xs ys : List Int) (k : Nat) : List Int := if k = 0 then [] else if k = 1 then xs else xs ++ ys
set_option maxRecDepth 100000 in
set_option maxHeartbeats 2000000 in
theorem concat_two (A B : Option Addr) (n m c d h : Nat) (xs ys : List Int) (w : World) (hx : IntsAt w A n xs) (hy : IntsAt w B m ys) (hn : n + m ≤ 100000)
 (c0 : w.cell? ⟨h, 0, none⟩ = some (.slice A n c)) (c1 : w.cell? ⟨h, 1, none⟩ = some (.slice B m d)) :
 Calls Try.prog 120 #[.slice (some ⟨h, 0, none⟩) 2 2] w fun e w' => ∃ v, e = .returned v ∧ w'.ownsRow w.heap.size 3 1 v (n + m) ((xs ++ ys).map (.int .i64)) ∧ Below w.heap.size w w' := by
 have HX:=hide hx
 have HY:=hide hy
 clear hx hy
 go_enter Try.func120, Try.ntmps120
 go_wp2
 go_loop [3, 11] (fun s i => ∃ k : Nat, k ≤ 2 ∧ i = .int .i64 k ∧ s = .int .i64 ((if k = 0 then 0 else if k = 1 then n else n + m : Nat) : Int)) (fun _ i => 2 - (intOf i).toNat)
 case atStart => exact ⟨0, by omega, rfl, rfl⟩
 case round =>
  obtain ⟨k, hk, rfl, rfl⟩ := hrel
  have h3 : k = 0 ∨ k = 1 ∨ k = 2:=by omega
  rcases h3 with rfl | rfl | rfl
  ·simp only [if_true]
   go_wp2
   go_round
   case rel => exact ⟨1, by omega, by go_num, by simp⟩
   case measure => simp [intOf]
  ·simp only [Nat.one_ne_zero, if_true, if_false]
   go_wp2
   go_round
   case rel => exact ⟨2, by omega, by go_num, by simp⟩
   case measure => simp [intOf]
  ·simp only [show (2 : Nat) ≠ 0 by omega, show (2 : Nat) ≠ 1 by omega, if_false]
   obtain ⟨s, hs⟩ : ∃ s, s = n + m := ⟨_, rfl⟩
   rw [← hs]
   have HS:=hide hs
   have hs2 : s ≤ 100000:=by omega
   clear hs
   go_wp2_with fail
   refine (grow_nil s _ hs2).mono ?_
   rintro e w1 ⟨v0, rfl, hown, hb1⟩
   have HO:=hide hown
   have HB1:=hide hb1
   clear hown hb1
   go_wp2
   have hxl:=HX.out.len
   have hyl:=HY.out.len
   go_loopg [6, 27] 2 (fun g v i wx => ∃ k : Nat, k + g = 2 ∧ i = .int .i64 k ∧ wx.ownsRow w.heap.size 3 1 v (pre xs ys k).length ((pre xs ys k).map (.int .i64)) ∧ Below w.heap.size w wx)
   case atStart => exact ⟨0, rfl, rfl, HO.out, HB1.out⟩
   case round =>
    obtain ⟨k, hkg, rfl, hown, hb⟩ := hrel
    have hcell:=hide hb
    have d0':=cell_below c0 hb
    have d1':=cell_below c1 hb
    have HX':=hide (HX.out.keep hb)
    have HY':=hide (HY.out.keep hb)
    obtain ⟨i0, hi0, hz0, hz1, hz2⟩ := info_parts intInfo
    have hwz:=hb.size
    obtain ⟨g1, rfl⟩ : ∃ g1, g1 = gk := ⟨_, rfl⟩
    have HK:=hide hkg
    have HO':=hide hown
    clear hb hown
    have h3 : k = 0 ∨ k = 1 ∨ k = 2:=by omega
    clear hkg
    rcases h3 with rfl | rfl | rfl
    ·go_wp2_with (at_builtin; refine wpList_append_ints _ rfl _ _ 22 rfl w.heap.size 3 i0 (.int .i64 0) 8 Try.underlying22 hi0 hz0 hz1 hz2 rfl _ 0 [] (by rfl) HO'.out A n c xs (by rfl) HX'.out (by unfold maxLen; omega) (by omega) hwz ?_; intro v2 w2 own2 grow2)
     go_roundg 1
     case measure => have := HK.out; omega
     case rel =>
      refine ⟨1, rfl, rfl, ?_, hcell.out.grown grow2 hwz (fun k hk => (HO'.out.lt k hk).1)⟩
      have e : pre xs ys 1 = xs:=rfl
      rw [e, hxl]
      simpa using own2
    ·have e1 : (pre xs ys 1).length = n:=hxl
     have HO2:=hide (show wr.ownsRow w.heap.size 3 1 u6 n (xs.map (.int .i64)) by have := HO'.out; rw [e1] at this; exact this)
     go_wp2_with (at_builtin; refine wpList_append_ints _ rfl _ _ 22 rfl w.heap.size 3 i0 (.int .i64 0) 8 Try.underlying22 hi0 hz0 hz1 hz2 rfl _ n (xs.map (.int .i64)) (by rfl) HO2.out B m d ys (by rfl) HY'.out (by unfold maxLen; omega) (by omega) hwz ?_; intro v2 w2 own2 grow2)
     go_roundg 0
     case measure => have := HK.out; omega
     case rel =>
      refine ⟨2, rfl, rfl, ?_, hcell.out.grown grow2 hwz (fun k hk => (HO'.out.lt k hk).1)⟩
      have e : pre xs ys 2 = xs ++ ys:=rfl
      rw [e, List.length_append, hxl, hyl, List.map_append]
      exact own2
    ·go_wp2
     go_ret
     refine ⟨_, rfl, ?_, hcell.out⟩
     have h7:=HO'.out
     have e : pre xs ys 2 = xs ++ ys:=rfl
     rw [e, List.length_append, hxl, hyl] at h7
     exact h7
theorem owns_slice {w : World} {base : Nat} {e : TypeId} {size : Nat} {v : Value} {n : Nat} {xs : List Value} (h : w.ownsRow base e size v n xs) : ∃ A c, v = .slice A n c := by
 rcases h.2 with ⟨rfl, rfl⟩ | ⟨g, cap, cur, rfl, _⟩
 ·exact ⟨_, _, rfl⟩
 ·exact ⟨_, _, rfl⟩
theorem concat_ex (n m h : Nat) (xs ys : List Int) (w : World) (hn : n + m ≤ 100000) (h0 : ∃ A c, w.cell? ⟨h, 0, none⟩ = some (.slice A n c) ∧ IntsAt w A n xs) (h1 : ∃ B d, w.cell? ⟨h, 1, none⟩ = some (.slice B m d) ∧ IntsAt w B m ys) :
 Calls Try.prog 120 #[.slice (some ⟨h, 0, none⟩) 2 2] w fun e w' => ∃ (A : Option Addr) (c : Nat), e = .returned (.slice A (n + m) c) ∧ w'.ownsRow w.heap.size 3 1 (.slice A (n + m) c) (n + m) ((xs ++ ys).map (.int .i64)) ∧ Below w.heap.size w w' := by
 obtain ⟨A, c, c0, hx⟩ := h0
 obtain ⟨B, d, c1, hy⟩ := h1
 refine (concat_two A B n m c d h xs ys w hx hy hn c0 c1).mono ?_
 rintro e w' ⟨v, rfl, hown, hb⟩
 obtain ⟨A', c', rfl⟩ := owns_slice hown
 exact ⟨A', c', rfl, hown, hb⟩
def OwnN (w : World) (base g n cap : Nat) (l : List Nat) : Prop := w.ownsRow base 3 1 (.slice (some ⟨g, 0, none⟩) n cap) n (l.map (fun k : Nat => Value.int .i64 k))
theorem OwnN.len {w : World} {base g n cap : Nat} {l : List Nat} (h : OwnN w base g n cap l) : l.length = n := by have := h.1; simpa using this
theorem OwnN.cell {w : World} {base g n cap : Nat} {l : List Nat} (h : OwnN w base g n cap l) {k : Nat} (hk : k < n) : w.cell? ⟨g, k, none⟩ = some (.int .i64 (l.getD k 0 : Nat)) := by
 have hl:=h.len
 rw [World.ownsRow.cellAt h k (by omega), List.getElem?_map, List.getElem?_eq_getElem (by omega), List.getD_eq_getElem?_getD, List.getElem?_eq_getElem (by omega)]; rfl
theorem OwnN.free {w : World} {base g n cap : Nat} {l : List Nat} (h : OwnN w base g n cap l) (k : Nat) : w.frozen? ⟨g, k, none⟩ = false := World.ownsRow.frozenAt h k
theorem OwnN.set {w : World} {base g n cap : Nat} {l : List Nat} (h : OwnN w base g n cap l) (k v : Nat) : OwnN (w.setCell ⟨g, k, none⟩ (.int .i64 (v : Nat))) base g n cap (l.set k v) ∧ w.grownBy (w.setCell ⟨g, k, none⟩ (.int .i64 (v : Nat))) (some g) := by
 have:=World.ownsRow.stored h k (.int .i64 (v : Nat))
 refine ⟨?_, this.2⟩
 unfold OwnN
 rw [List.map_set]
 exact this.1
theorem grownBy_trans {w w1 w2 : World} {r : Option Nat} (h : w.grownBy w1 r) (h2 : w1.grownBy w2 r) : w.grownBy w2 r :=
 ⟨h2.os.trans h.os, h2.tape.trans h.tape, h2.output.trans h.output, Nat.le_trans h.size h2.size, fun k hk hr => (h2.block k (Nat.lt_of_lt_of_le hk h.size) hr).trans (h.block k hk hr)⟩
def jn (l : List Nat) (a b : Nat) : List Nat := (l.set a b).set b a
theorem join_any (base g n cap a b : Nat) (l : List Nat) (w : World) (h : OwnN w base g n cap l) (ha : a < n) (hb : b < n) (hn : n ≤ 100000) :
 Calls Try.prog 79 #[.slice (some ⟨g, 0, none⟩) n cap, .int .i64 (a : Int), .int .i64 (b : Int)] w fun e w' => e = .returned (.tuple #[]) ∧ OwnN w' base g n cap (jn l a b) ∧ w.grownBy w' (some g) := by
 have c1:=h.cell ha
 have f1:=h.free a
 obtain ⟨h2, g2⟩ := h.set a b
 have c2:=h2.cell hb
 have f2:=h2.free b
 obtain ⟨h3, g3⟩ := h2.set b a
 have H3:=hide h3
 have G3:=hide (grownBy_trans g2 g3)
 clear h h2 h3 g2 g3
 go_enter Try.func79, Try.ntmps79
 go_wp2
 go_end0
 exact ⟨rfl, H3.out, G3.out⟩
theorem join_int (base g n cap : Nat) (a b : Int) (l : List Nat) (w : World) (h : OwnN w base g n cap l) (ha : 0 ≤ a ∧ a < n) (hb : 0 ≤ b ∧ b < n) (hn : n ≤ 100000) :
 Calls Try.prog 79 #[.slice (some ⟨g, 0, none⟩) n cap, .int .i64 a, .int .i64 b] w fun e w' => e = .returned (.tuple #[]) ∧ OwnN w' base g n cap (jn l a.toNat b.toNat) ∧ w.grownBy w' (some g) := by
 obtain ⟨x, rfl⟩ := Int.eq_ofNat_of_zero_le ha.1
 obtain ⟨y, rfl⟩ := Int.eq_ofNat_of_zero_le hb.1
 rw [Int.toNat_natCast, Int.toNat_natCast]
 exact join_any base g n cap x y l w h (by omega) (by omega) hn
end Go.Proofs.Ytobbepmlmbbamaa
end
section
namespace Go.Proofs.Ytobbepmlmbbamaa
open Go.RowKit
attribute [local go_sem ↓] Go.wp_at_zero Go.wp_at_succ
structure GS (w : World) (g : Nat) (x0 x1 x2 : Value) (W : World) : Prop where
 row : ∃ vs, Row W g 24 [x0, x1, x2] ∧ Row W (g + 1) 24 vs ∧ vs.length = 3
 bel : Below w.heap.size w W
 lo : w.heap.size ≤ g
theorem GS.drew {w : World} {g : Nat} {x0 x1 x2 : Value} {W : World} (h : GS w g x0 x1 x2 W) : GS w g x0 x1 x2 W.drew := ⟨h.row, h.bel.drew, h.lo⟩
def cv (W : World) (a : Addr) : Value := (W.cell? a).getD (.bool false)
theorem cv_some {W : World} {a : Addr} {v : Value} (h : W.cell? a = some v) : W.cell? a = some (cv W a) := by unfold cv; rw [h]; rfl
theorem GS.alloc {w : World} {g : Nat} {x0 x1 x2 : Value} {W : World} (h : GS w g x0 x1 x2 W) (o : Obj) : GS w g x0 x1 x2 (W.alloc o) :=
 let ⟨vs, r1, r2, r3⟩ := h.row
 ⟨⟨vs, r1.alloc o, r2.alloc o, r3⟩, h.bel.alloc h.bel.size o, h.lo⟩
theorem GS.below {w : World} {g : Nat} {x0 x1 x2 : Value} {W W' : World} (h : GS w g x0 x1 x2 W) (hb : Below W.heap.size W W') : GS w g x0 x1 x2 W' :=
 let ⟨vs, r1, r2, r3⟩ := h.row
 ⟨⟨vs, r1.below hb, r2.below hb, r3⟩, h.bel.trans (hb.mono h.bel.size), h.lo⟩
theorem GS.set {w : World} {g : Nat} {x0 x1 x2 : Value} {W : World} (h : GS w g x0 x1 x2 W) (o : Nat) (v : Value) : GS w g x0 x1 x2 (W.setCell ⟨g + 1, o, none⟩ v) :=
 let ⟨vs, r1, r2, r3⟩ := h.row
 ⟨⟨vs.set o v, r1.other (by simp) v, r2.set o v, by rw [List.length_set, r3]⟩, h.bel.setCell (by have := h.lo; simp; omega) v, h.lo⟩
theorem GS.all {w : World} {g : Nat} {x0 x1 x2 : Value} {W : World} (h : GS w g x0 x1 x2 W) : W.cell? ⟨g, 0, none⟩ = some x0 ∧ W.cell? ⟨g, 1, none⟩ = some x1 ∧ W.cell? ⟨g, 2, none⟩ = some x2 ∧ W.cell? ⟨g + 1, 0, none⟩ = some (cv W ⟨g + 1, 0, none⟩) ∧ W.cell? ⟨g + 1, 1, none⟩ = some (cv W ⟨g + 1, 1, none⟩) ∧ W.cell? ⟨g + 1, 2, none⟩ = some (cv W ⟨g + 1, 2, none⟩) ∧ (∀ o, W.frozen? ⟨g + 1, o, none⟩ = false) ∧ GS w g x0 x1 x2 W := by
 obtain ⟨vs, r1, r2, r3⟩ := h.row
 exact ⟨r1.cell (i := 0) (by show 0 < 3; omega), r1.cell (i := 1) (by show 1 < 3; omega), r1.cell (i := 2) (by show 2 < 3; omega), cv_some (r2.cell (i := 0) (by omega)), cv_some (r2.cell (i := 1) (by omega)), cv_some (r2.cell (i := 2) (by omega)), fun o => r2.free o, h⟩
theorem GS.fin {w : World} {g : Nat} {x0 x1 x2 : Value} {W : World} (h : GS w g x0 x1 x2 W) (y0 y1 y2 : Value) :
 (((W.setCell ⟨g + 1, 0, none⟩ y0).setCell ⟨g + 1, 1, none⟩ y1).setCell ⟨g + 1, 2, none⟩ y2).cell? ⟨g + 1, 0, none⟩ = some y0 ∧ (((W.setCell ⟨g + 1, 0, none⟩ y0).setCell ⟨g + 1, 1, none⟩ y1).setCell ⟨g + 1, 2, none⟩ y2).cell? ⟨g + 1, 1, none⟩ = some y1 ∧ (((W.setCell ⟨g + 1, 0, none⟩ y0).setCell ⟨g + 1, 1, none⟩ y1).setCell ⟨g + 1, 2, none⟩ y2).cell? ⟨g + 1, 2, none⟩ = some y2 := by
 obtain ⟨vs, _, r2, r3⟩ := h.row
 have r:=((r2.set 0 y0).set 1 y1).set 2 y2
 obtain ⟨a, b, c, rfl⟩ : ∃ a b c, vs = [a, b, c] := by
  match vs, r3 with
  | [a, b, c], _ => exact ⟨a, b, c, rfl⟩
 exact ⟨r.cell (i := 0) (by simp), r.cell (i := 1) (by simp), r.cell (i := 2) (by simp)⟩
theorem GS.start (w : World) (x0 x1 x2 y0 y1 y2 : Value) : GS w w.heap.size x0 x1 x2 ((w.alloc (.cells #[x0, x1, x2] 24)).alloc (.cells #[y0, y1, y2] 24)) := by
 refine ⟨⟨[y0, y1, y2], Row.alloc (Row.new w _ [x0, x1, x2]) _, ?_, rfl⟩, ((Below.refl _ _).alloc (Nat.le_refl _) _).alloc (by simp) _, Nat.le_refl _⟩
 have:=Row.new (w.alloc (.cells #[x0, x1, x2] 24)) 24 [y0, y1, y2]
 simpa using this
theorem IntsAt.alloc {w : World} {A : Option Addr} {n : Nat} {zs : List Int} (h : IntsAt w A n zs) (o : Obj) : IntsAt (w.alloc o) A n zs := h.keep ((Below.refl _ _).alloc (Nat.le_refl _) o)
theorem IntsAt.drew {w : World} {A : Option Addr} {n : Nat} {zs : List Int} (h : IntsAt w A n zs) : IntsAt w.drew A n zs := h
theorem made_at {w : World} {g : Nat} (h : g = w.heap.size) (n : Nat) : IntsAt (w.alloc (.cells (Array.replicate n (Value.int .i64 0)) 3)) (some ⟨g, 0, none⟩) n (List.replicate n 0) := by
 subst h
 have:=(IRow.made w n).ints
 rw [List.length_replicate] at this
 exact this
theorem owns_pos {w : World} {base : Nat} {e : TypeId} {A : Option Addr} {n c : Nat} {xs : List Value} (hn : 0 < n) (h : w.ownsRow base e 1 (.slice A n c) n xs) : ∃ g, A = some ⟨g, 0, none⟩ ∧ base ≤ g ∧ g < w.heap.size := by
 rcases h.2 with ⟨_, h0⟩ | ⟨g, cap, cur, h1, h2, h3, _⟩
 ·omega
 ·injection h1 with h1
  exact ⟨g, h1, h2, lt_of_heap h3⟩
theorem own_keep {w w' : World} {base base' : Nat} {e : TypeId} {v : Value} {n : Nat} {xs : List Value} (h : w.ownsRow base e 1 v n xs) (hb : Below w.heap.size w w') (hle : base' ≤ base) : w'.ownsRow base' e 1 v n xs := by
 refine ⟨h.1, ?_⟩
 rcases h.2 with hz | ⟨g, cap, cur, r1, r2, r3, r4⟩
 ·exact .inl hz
 ·exact .inr ⟨g, cap, cur, r1, Nat.le_trans hle r2, (hb.block g (lt_of_heap r3)).trans r3, r4⟩
theorem own_set {w : World} {base : Nat} {e : TypeId} {g n c b o : Nat} {v : Value} {xs : List Value} (h : w.ownsRow base e 1 (.slice (some ⟨g, 0, none⟩) n c) n xs) (hne : g ≠ b) : (w.setCell ⟨b, o, none⟩ v).ownsRow base e 1 (.slice (some ⟨g, 0, none⟩) n c) n xs := by
 refine ⟨h.1, ?_⟩
 rcases h.2 with hz | ⟨g', cap, cur, r1, r2, r3, r4⟩
 ·exact .inl hz
 ·injection r1 with e1 e2 e3
  injection e1 with e1
  injection e1 with e1
  subst e1
  exact .inr ⟨g, cap, cur, by rw [e3], r2, (Below.heap_setCell w _ v g hne).trans r3, r4⟩
theorem nats_rep (l : List Nat) (k : Nat) : (nats l ++ List.replicate k 0).map (Value.int .i64) = (l ++ List.replicate k 0).map (fun j : Nat => Value.int .i64 j) := by
 unfold nats
 simp
set_option maxRecDepth 100000 in
set_option maxHeartbeats 8000000 in
theorem grown_any (d : Pl.Dg) (A B : Option Addr) (cp cq s cs h m m4 : Nat) (ss : List Int) (w : World) (hm : m = 4 * d.n) (hm4 : m4 = 4 * s) (hg : DgAt w A B d) (hs : IntsAt w (some ⟨h, 0, none⟩) s ss) (hn : d.n ≤ 1000) (hs1 : 1 ≤ s) (hs2 : s ≤ 10) :
 Calls Try.prog 78 #[.agg #[.slice A d.n cp, .slice B m cq, .int .i64 d.lp], .slice (some ⟨h, 0, none⟩) s cs] w fun e w' => ∃ g1 c1 g2 c2 : Nat, e = .returned (.agg #[.slice (some ⟨g1, 0, none⟩) (d.n + s) c1, .slice (some ⟨g2, 0, none⟩) (m + m4) c2, .int .i64 d.lp]) ∧
  w'.ownsRow w.heap.size 3 1 (.slice (some ⟨g1, 0, none⟩) (d.n + s) c1) (d.n + s) ((d.sg ++ ss).map (.int .i64)) ∧ OwnN w' w.heap.size g2 (m + m4) c2 (d.mt ++ List.replicate m4 0) ∧ g1 ≠ g2 ∧ Below w.heap.size w w' := by
 have HS:=hide hg.s
 have HMT:=hide (show IntsAt w B m (nats d.mt) by rw [hm]; exact hg.m)
 have HSS:=hide hs
 have HM:=hide hm
 have hmm : m ≤ 4000:=by omega
 have hm44 : m4 ≤ 40:=by omega
 have hmk:=fun W : World => run_ints m4 (by omega) W
 have h44 : 4 * (s : Int) = (m4 : Int):=by omega
 clear hm hm4 hg hs
 have HGS:=hide (GS.start w (.slice A d.n cp) (.slice B m cq) (.int .i64 d.lp) (.slice none 0 0) (.slice none 0 0) (.int .i64 0))
 go_enter Try.func78, Try.ntmps78
 go_wp2
 have hwr : IntKind.i64.wrap (m4 : Int) = (m4 : Int):=IntWalk.i64_in _ (by omega)
 go_region_held3 (fun w' => w'.cell? ⟨w.heap.size, 0, none⟩ = some (.slice A d.n cp) ∧ w'.cell? ⟨w.heap.size, 1, none⟩ = some (.slice B m cq) ∧ w'.cell? ⟨w.heap.size, 2, none⟩ = some (.int .i64 d.lp) ∧ w'.cell? ⟨w.heap.size + 1, 0, none⟩ = some (cv w' ⟨w.heap.size + 1, 0, none⟩) ∧ w'.cell? ⟨w.heap.size + 1, 1, none⟩ = some (cv w' ⟨w.heap.size + 1, 1, none⟩) ∧ w'.cell? ⟨w.heap.size + 1, 2, none⟩ = some (cv w' ⟨w.heap.size + 1, 2, none⟩) ∧ (∀ o, w'.frozen? ⟨w.heap.size + 1, o, none⟩ = false) ∧ GS w w.heap.size (.slice A d.n cp) (.slice B m cq) (.int .i64 d.lp) w')
  ((go_split_ands; refine GS.all ?_; (repeat (first | assumption | (with_reducible exact HGS.out) | (with_reducible refine GS.set ?_ _ _) | (with_reducible refine GS.alloc ?_ _) | (with_reducible refine GS.drew ?_) | (with_reducible refine GS.below ?_ hba) | (with_reducible refine GS.below ?_ hbb)))))
  (first
    | (go_at_call 120
       refine Calls.mono (concat_ex d.n s _ d.sg ss _ (by omega) ?_ ?_) ?_
       ·refine ⟨A, cp, ?_, HS.out.keep (GS.bel (g := w.heap.size) (x0 := .slice A d.n cp) (x1 := .slice B m cq) (x2 := .int .i64 d.lp) ?_)⟩
        ·first | (go_simp; done) | ((with_reducible refine cell_below ?_ hbb); go_simp; done)
        ·repeat (first | assumption | (with_reducible exact HGS.out) | (with_reducible refine GS.set ?_ _ _) | (with_reducible refine GS.alloc ?_ _) | (with_reducible refine GS.drew ?_) | (with_reducible refine GS.below ?_ hba) | (with_reducible refine GS.below ?_ hbb))
       ·refine ⟨some ⟨h, 0, none⟩, cs, ?_, HSS.out.keep (GS.bel (g := w.heap.size) (x0 := .slice A d.n cp) (x1 := .slice B m cq) (x2 := .int .i64 d.lp) ?_)⟩
        ·first | (go_simp; done) | ((with_reducible refine cell_below ?_ hbb); go_simp; done)
        ·repeat (first | assumption | (with_reducible exact HGS.out) | (with_reducible refine GS.set ?_ _ _) | (with_reducible refine GS.alloc ?_ _) | (with_reducible refine GS.drew ?_) | (with_reducible refine GS.below ?_ hba) | (with_reducible refine GS.below ?_ hbb))
       rintro e wa ⟨Aa, ca, rfl, owna, hba⟩)
    | (go_at_call 120
       refine Calls.mono (concat_ex m m4 _ (nats d.mt) (List.replicate m4 0) _ (by omega) ?_ ?_) ?_
       ·refine ⟨B, cq, ?_, HMT.out.keep (GS.bel (g := w.heap.size) (x0 := .slice A d.n cp) (x1 := .slice B m cq) (x2 := .int .i64 d.lp) ?_)⟩
        ·first | (go_simp; done) | ((with_reducible refine cell_below ?_ hba); go_simp; done)
        ·repeat (first | assumption | (with_reducible exact HGS.out) | (with_reducible refine GS.set ?_ _ _) | (with_reducible refine GS.alloc ?_ _) | (with_reducible refine GS.drew ?_) | (with_reducible refine GS.below ?_ hba) | (with_reducible refine GS.below ?_ hbb))
       ·refine ⟨?_, m4, ?_, ?_⟩
        rotate_left 1
        ·first | (go_simp; rfl) | ((with_reducible refine cell_below ?_ hba); go_simp; rfl)
        ·repeat (first | ((with_reducible refine made_at ?_ _); (simp; done)) | (with_reducible refine made_at rfl _) | (with_reducible refine IntsAt.drew ?_) | (with_reducible refine IntsAt.alloc ?_ _) | (with_reducible refine IntsAt.keep ?_ hba))
       rintro e wb ⟨Ab, cb, rfl, ownb, hbb⟩))
 all_goals
  obtain ⟨g1, rfl, b1, l1⟩ := owns_pos (by omega) owna
  obtain ⟨g2, rfl, b2, l2⟩ := owns_pos (by omega) ownb
  go_wp2
  refine bodyPost_ret (v := .agg #[.slice (some ⟨g1, 0, none⟩) (d.n + s) ca, .slice (some ⟨g2, 0, none⟩) (m + m4) cb, .int .i64 d.lp]) ?_ rfl ⟨g1, ca, g2, cb, rfl, ?_, ?_, ?_, ?_⟩
  ·first
    | (have hx : GS w w.heap.size (.slice A d.n cp) (.slice B m cq) (.int .i64 d.lp) wb := by
        repeat (first | assumption | (with_reducible exact HGS.out) | (with_reducible refine GS.set ?_ _ _) | (with_reducible refine GS.alloc ?_ _) | (with_reducible refine GS.drew ?_) | (with_reducible refine GS.below ?_ hba) | (with_reducible refine GS.below ?_ hbb))
       obtain ⟨e0, e1, e2⟩ := hx.fin (.slice (some ⟨g1, 0, none⟩) (d.n + s) ca) (.slice (some ⟨g2, 0, none⟩) (m + m4) cb) (.int .i64 d.lp)
       simp [results, Try.results78, go_sem, e0, e1, e2]
       done)
    | (have hx : GS w w.heap.size (.slice A d.n cp) (.slice B m cq) (.int .i64 d.lp) wa := by
        repeat (first | assumption | (with_reducible exact HGS.out) | (with_reducible refine GS.set ?_ _ _) | (with_reducible refine GS.alloc ?_ _) | (with_reducible refine GS.drew ?_) | (with_reducible refine GS.below ?_ hba) | (with_reducible refine GS.below ?_ hbb))
       obtain ⟨e0, e1, e2⟩ := hx.fin (.slice (some ⟨g1, 0, none⟩) (d.n + s) ca) (.slice (some ⟨g2, 0, none⟩) (m + m4) cb) (.int .i64 d.lp)
       simp [results, Try.results78, go_sem, e0, e1, e2]
       done)
  ·simp at b1 b2
   refine own_set (own_set (own_set ?_ (by omega)) (by omega)) (by omega)
   first
    | (refine own_keep owna (Below.refl _ _) ?_; first | omega | (simp; done) | (simp; omega))
    | (refine own_keep owna (Below.trans ?_ (hbb.mono ?_)) ?_; all_goals (repeat (first | exact Below.refl _ _ | (with_reducible refine Below.drew ?_) | (with_reducible refine Below.alloc ?_ ?_ _) | omega | (simp; done) | (simp; omega))))
  ·simp at b1 b2
   unfold OwnN
   rw [← nats_rep]
   refine own_set (own_set (own_set ?_ (by omega)) (by omega)) (by omega)
   first
    | (refine own_keep ownb (Below.refl _ _) ?_; first | omega | (simp; done) | (simp; omega))
    | (refine own_keep ownb (Below.trans ?_ (hba.mono ?_)) ?_; all_goals (repeat (first | exact Below.refl _ _ | (with_reducible refine Below.drew ?_) | (with_reducible refine Below.alloc ?_ ?_ _) | omega | (simp; done) | (simp; omega))))
  ·simp at b1 b2
   omega
  ·refine GS.bel (g := w.heap.size) (x0 := .slice A d.n cp) (x1 := .slice B m cq) (x2 := .int .i64 d.lp) ?_
   repeat (first | assumption | (with_reducible exact HGS.out) | (with_reducible refine GS.set ?_ _ _) | (with_reducible refine GS.alloc ?_ _) | (with_reducible refine GS.drew ?_) | (with_reducible refine GS.below ?_ hba) | (with_reducible refine GS.below ?_ hbb))
end Go.Proofs.Ytobbepmlmbbamaa
end
section
namespace Go.Proofs.Ytobbepmlmbbamaa
open Go.RowKit
theorem bcell {W w1 : World} (hb : Below W.heap.size W w1) : (∀ b o, b < W.heap.size → w1.cell? ⟨b, o, none⟩ = W.cell? ⟨b, o, none⟩) ∧ (∀ b o, b < W.heap.size → w1.frozen? ⟨b, o, none⟩ = W.frozen? ⟨b, o, none⟩) :=
 ⟨fun b o h => hb.cell (p := ⟨b, o, none⟩) h, fun b o h => hb.frozen (p := ⟨b, o, none⟩) h⟩
structure Mv where
 kind : Int
 x : Int
 y : Int
 sign : Int
 over : Bool
def Mv.v (m : Mv) : Value := .agg #[.int .i64 m.kind, .int .i64 m.x, .int .i64 m.y, .int .i64 m.sign, .bool m.over]
def fullC (n k : Nat) : Int := if 64 < n + k then 5 else 0
def curlableC (d : Pl.Dg) (x : Int) : Int := if x < 0 then (if d.lp = 0 then 6 else fullC d.n 1) else if Pl.out d x.toNat = true then fullC d.n 1 else 6
set_option maxRecDepth 100000 in
set_option maxHeartbeats 2000000 in
theorem curlable_any (d : Pl.Dg) (A B : Option Addr) (cp cq : Nat) (k x y sg : Int) (ov : Bool) (w : World) (hg : DgAt w A B d) (hn : d.n ≤ 64) (hlp : d.lp ≤ 64) (hx : -1 ≤ x ∧ x < 4 * d.n) :
 Calls Try.prog 77 #[.agg #[.slice A d.n cp, .slice B (4 * d.n) cq, .int .i64 d.lp], .agg #[.int .i64 k, .int .i64 x, .int .i64 y, .int .i64 sg, .bool ov]] w fun e w' => e = .returned (.int .i64 (curlableC d x)) ∧ Below w.heap.size w w' := by
 obtain ⟨m, hm⟩ : ∃ m, m = 4 * d.n := ⟨_, rfl⟩
 rw [← hm]
 have HM:=hide hm
 clear hm
 have b0 : Below w.heap.size w ((w.alloc (.cells #[.slice A d.n cp, .slice B m cq, .int .i64 d.lp] 24)).alloc (.cells #[.int .i64 k, .int .i64 x, .int .i64 y, .int .i64 sg, .bool ov] 28)):=((Below.refl _ _).alloc (Nat.le_refl _) _).alloc (by simp) _
 have HS:=hide (hg.s.keep b0)
 clear hg
 by_cases hx0 : 0 ≤ x
 ·obtain ⟨q, rfl⟩ := Int.eq_ofNat_of_zero_le hx0
  have hq : q < 4 * d.n:=by omega
  have t1 : decide (0 ≤ (q : Int)) = true:=by simp
  go_enter Try.func77, Try.ntmps77
  go_wp2_with fail
  refine (out2_n d A B d.n cp m cq (.int .i64 d.lp) q _ rfl hq (by omega) HS.out).mono ?_
  rintro e w1 ⟨rfl, hb1⟩
  have b1:=b0.trans (hb1.mono b0.size)
  obtain ⟨hc, hf⟩ := bcell hb1
  have hsz : w.heap.size + 1 < w1.heap.size:=by have := hb1.size; simp at this; omega
  have e0 : curlableC d (q : Int) = if Pl.out d q = true then fullC d.n 1 else 6:=by unfold curlableC; rw [if_neg (by omega), Int.toNat_natCast]
  have E0:=hide e0
  clear e0
  clear t1
  go_wp2
  all_goals
   go_ret
   refine ⟨ret_int ?_, b1⟩
   rw [E0.out]
   unfold fullC
   repeat' split
   all_goals first | omega | (exfalso; first | omega | (simp_all; done))
 ·go_enter Try.func77, Try.ntmps77
  go_wp2
  all_goals
   go_ret
   refine ⟨ret_int ?_, b0⟩
   unfold curlableC fullC
   rw [if_pos (by omega)]
   simp only [beq_iff_eq, beq_eq_false_iff_ne, ne_eq] at *
   repeat' split
   all_goals omega
theorem curlable_m (d : Pl.Dg) (A B : Option Addr) (cp cq m : Nat) (k x y sg : Int) (ov : Bool) (w : World) (hm : m = 4 * d.n) (hg : DgAt w A B d) (hn : d.n ≤ 64) (hlp : d.lp ≤ 64) (hx : -1 ≤ x ∧ x < 4 * d.n) :
 Calls Try.prog 77 #[.agg #[.slice A d.n cp, .slice B m cq, .int .i64 d.lp], .agg #[.int .i64 k, .int .i64 x, .int .i64 y, .int .i64 sg, .bool ov]] w fun e w' => e = .returned (.int .i64 (curlableC d x)) ∧ Below w.heap.size w w' := by
 subst hm; exact curlable_any d A B cp cq k x y sg ov w hg hn hlp hx
end Go.Proofs.Ytobbepmlmbbamaa
end
section
namespace Go.Proofs.Ytobbepmlmbbamaa
open Go.RowKit
def nilD : Value := .agg #[.slice none 0 0, .slice none 0 0, .int .i64 0]
def nilM : Value := .agg #[.int .i64 0, .int .i64 0, .int .i64 0, .int .i64 0, .bool false]
def ResErr (k : Int) (e : Ending) : Prop := e = .returned (.tuple #[nilD, nilM, .int .i64 k])
structure DgT (w : World) (A : Option Addr) (B : Option Addr) (d : Pl.Dg) : Prop where
 s : RowT w 3 A d.n (d.sg.map (.int .i64))
 m : RowT w 3 B (4 * d.n) ((nats d.mt).map (.int .i64))
theorem DgT.at {w : World} {A B : Option Addr} {d : Pl.Dg} (h : DgT w A B d) : DgAt w A B d := ⟨h.s.row, h.m.row⟩
theorem own_intsT {w : World} {base : Nat} {e : TypeId} {A : Option Addr} {n c : Nat} {zs : List Int} (h : w.ownsRow base e 1 (.slice A n c) n (zs.map (.int .i64))) : RowT w e A n (zs.map (.int .i64)) := by
 have hl:=h.1
 refine ⟨by simpa using hl, fun hn => ?_⟩
 rcases h.2 with ⟨_, h2⟩ | ⟨g, cap, cur, h1, _, h3, _, _, _, h7⟩
 ·omega
 ·injection h1 with h1 _ _
  refine ⟨g, 0, cur, (0, 0), h1, h3, fun j u hu => ?_⟩
  rw [Nat.zero_add, ← Array.getElem?_toList]
  have h9:=hu
  rw [← h7, List.getElem?_take] at h9
  split at h9
  ·exact h9
  ·exact absurd h9 (by simp)
theorem OwnN.intsT {w : World} {base g n c : Nat} {l : List Nat} (h : OwnN w base g n c l) : RowT w 3 (some ⟨g, 0, none⟩) n ((nats l).map (.int .i64)) := by
 refine own_intsT (base := base) (e := 3) (c := c) ?_
 unfold OwnN at h
 unfold nats
 rw [List.map_map]
 exact h
def ResOk (r : Pl.Dg) (mv : Mv) (e : Ending) (w' : World) : Prop :=
 ∃ (A B : Option Addr) (c1 c2 : Nat), e = .returned (.tuple #[.agg #[.slice A r.n c1, .slice B (4 * r.n) c2, .int .i64 r.lp], mv.v, .int .i64 0]) ∧ DgT w' A B r
theorem fin8 {W : World} {gd gm : Nat} {vs us : List Value} (h1 : Row W gd 24 vs) (h2 : Row W gm 28 us) (l1 : vs.length = 3) (l2 : us.length = 5) (hne : gd ≠ gm) (y0 y1 y2 z0 z1 z2 z3 z4 : Value) :
 ((((((((W.setCell ⟨gd, 0, none⟩ y0).setCell ⟨gd, 1, none⟩ y1).setCell ⟨gd, 2, none⟩ y2).setCell ⟨gm, 0, none⟩ z0).setCell ⟨gm, 1, none⟩ z1).setCell ⟨gm, 2, none⟩ z2).setCell ⟨gm, 3, none⟩ z3).setCell ⟨gm, 4, none⟩ z4).cell? ⟨gd, 0, none⟩ = some y0 ∧ ((((((((W.setCell ⟨gd, 0, none⟩ y0).setCell ⟨gd, 1, none⟩ y1).setCell ⟨gd, 2, none⟩ y2).setCell ⟨gm, 0, none⟩ z0).setCell ⟨gm, 1, none⟩ z1).setCell ⟨gm, 2, none⟩ z2).setCell ⟨gm, 3, none⟩ z3).setCell ⟨gm, 4, none⟩ z4).cell? ⟨gd, 1, none⟩ = some y1 ∧ ((((((((W.setCell ⟨gd, 0, none⟩ y0).setCell ⟨gd, 1, none⟩ y1).setCell ⟨gd, 2, none⟩ y2).setCell ⟨gm, 0, none⟩ z0).setCell ⟨gm, 1, none⟩ z1).setCell ⟨gm, 2, none⟩ z2).setCell ⟨gm, 3, none⟩ z3).setCell ⟨gm, 4, none⟩ z4).cell? ⟨gd, 2, none⟩ = some y2 ∧ ((((((((W.setCell ⟨gd, 0, none⟩ y0).setCell ⟨gd, 1, none⟩ y1).setCell ⟨gd, 2, none⟩ y2).setCell ⟨gm, 0, none⟩ z0).setCell ⟨gm, 1, none⟩ z1).setCell ⟨gm, 2, none⟩ z2).setCell ⟨gm, 3, none⟩ z3).setCell ⟨gm, 4, none⟩ z4).cell? ⟨gm, 0, none⟩ = some z0 ∧ ((((((((W.setCell ⟨gd, 0, none⟩ y0).setCell ⟨gd, 1, none⟩ y1).setCell ⟨gd, 2, none⟩ y2).setCell ⟨gm, 0, none⟩ z0).setCell ⟨gm, 1, none⟩ z1).setCell ⟨gm, 2, none⟩ z2).setCell ⟨gm, 3, none⟩ z3).setCell ⟨gm, 4, none⟩ z4).cell? ⟨gm, 1, none⟩ = some z1 ∧ ((((((((W.setCell ⟨gd, 0, none⟩ y0).setCell ⟨gd, 1, none⟩ y1).setCell ⟨gd, 2, none⟩ y2).setCell ⟨gm, 0, none⟩ z0).setCell ⟨gm, 1, none⟩ z1).setCell ⟨gm, 2, none⟩ z2).setCell ⟨gm, 3, none⟩ z3).setCell ⟨gm, 4, none⟩ z4).cell? ⟨gm, 2, none⟩ = some z2 ∧ ((((((((W.setCell ⟨gd, 0, none⟩ y0).setCell ⟨gd, 1, none⟩ y1).setCell ⟨gd, 2, none⟩ y2).setCell ⟨gm, 0, none⟩ z0).setCell ⟨gm, 1, none⟩ z1).setCell ⟨gm, 2, none⟩ z2).setCell ⟨gm, 3, none⟩ z3).setCell ⟨gm, 4, none⟩ z4).cell? ⟨gm, 3, none⟩ = some z3 ∧ ((((((((W.setCell ⟨gd, 0, none⟩ y0).setCell ⟨gd, 1, none⟩ y1).setCell ⟨gd, 2, none⟩ y2).setCell ⟨gm, 0, none⟩ z0).setCell ⟨gm, 1, none⟩ z1).setCell ⟨gm, 2, none⟩ z2).setCell ⟨gm, 3, none⟩ z3).setCell ⟨gm, 4, none⟩ z4).cell? ⟨gm, 4, none⟩ = some z4 := by
 obtain ⟨a, b, c, rfl⟩ : ∃ a b c, vs = [a, b, c] := by
  match vs, l1 with
  | [a, b, c], _ => exact ⟨a, b, c, rfl⟩
 obtain ⟨a', b', c', d', e', rfl⟩ : ∃ a b c d e, us = [a, b, c, d, e] := by
  match us, l2 with
  | [a, b, c, d, e], _ => exact ⟨a, b, c, d, e, rfl⟩
 have r1:=((((((((h1.set 0 y0).set 1 y1).set 2 y2).other (a := ⟨gm, 0, none⟩) hne z0).other (a := ⟨gm, 1, none⟩) hne z1).other (a := ⟨gm, 2, none⟩) hne z2).other (a := ⟨gm, 3, none⟩) hne z3).other (a := ⟨gm, 4, none⟩) hne z4)
 have r2:=((((((((h2.other (a := ⟨gd, 0, none⟩) (Ne.symm hne) y0).other (a := ⟨gd, 1, none⟩) (Ne.symm hne) y1).other (a := ⟨gd, 2, none⟩) (Ne.symm hne) y2).set 0 z0).set 1 z1).set 2 z2).set 3 z3).set 4 z4)
 exact ⟨r1.cell (i := 0) (by simp), r1.cell (i := 1) (by simp), r1.cell (i := 2) (by simp), r2.cell (i := 0) (by simp), r2.cell (i := 1) (by simp), r2.cell (i := 2) (by simp), r2.cell (i := 3) (by simp), r2.cell (i := 4) (by simp)⟩
theorem box3 {W : World} {g : Nat} {t : TypeId} {a b c : Value} (h : Row W g t [a, b, c]) : W.cell? ⟨g, 0, none⟩ = some a ∧ W.cell? ⟨g, 1, none⟩ = some b ∧ W.cell? ⟨g, 2, none⟩ = some c ∧ ∀ o, W.frozen? ⟨g, o, none⟩ = false :=
 ⟨h.cell (i := 0) (by simp), h.cell (i := 1) (by simp), h.cell (i := 2) (by simp), h.free⟩
theorem box5 {W : World} {g : Nat} {t : TypeId} {a b c d e : Value} (h : Row W g t [a, b, c, d, e]) : W.cell? ⟨g, 0, none⟩ = some a ∧ W.cell? ⟨g, 1, none⟩ = some b ∧ W.cell? ⟨g, 2, none⟩ = some c ∧ W.cell? ⟨g, 3, none⟩ = some d ∧ W.cell? ⟨g, 4, none⟩ = some e ∧ ∀ o, W.frozen? ⟨g, o, none⟩ = false :=
 ⟨h.cell (i := 0) (by simp), h.cell (i := 1) (by simp), h.cell (i := 2) (by simp), h.cell (i := 3) (by simp), h.cell (i := 4) (by simp), h.free⟩
theorem own_grown {w w' : World} {base : Nat} {e : TypeId} {g g' n c : Nat} {xs : List Value} (h : w.ownsRow base e 1 (.slice (some ⟨g, 0, none⟩) n c) n xs) (hg : w.grownBy w' (some g')) (hne : g ≠ g') : w'.ownsRow base e 1 (.slice (some ⟨g, 0, none⟩) n c) n xs := by
 refine ⟨h.1, ?_⟩
 rcases h.2 with hz | ⟨k, cap, cur, r1, r2, r3, r4⟩
 ·exact .inl hz
 ·injection r1 with e1 e2 e3
  injection e1 with e1
  injection e1 with e1
  subst e1
  subst e3
  exact .inr ⟨g, c, cur, rfl, r2, (hg.block g (lt_of_heap r3) (by intro h; injection h; omega)).trans r3, r4⟩
theorem own_ints {w : World} {base : Nat} {e : TypeId} {g n c : Nat} {zs : List Int} (h : w.ownsRow base e 1 (.slice (some ⟨g, 0, none⟩) n c) n (zs.map (.int .i64))) : IntsAt w (some ⟨g, 0, none⟩) n zs := by
 have hl:=h.1
 refine ⟨by simpa using hl, fun _ => ⟨g, 0, rfl, fun j u hu => ?_⟩⟩
 rw [Nat.zero_add]
 have hj : j < n:=by
  have:=(List.getElem?_eq_some_iff.mp hu).1
  simp at this hl
  omega
 rw [World.ownsRow.cellAt h j (by simpa using hj)]
 exact hu
theorem OwnN.ints {w : World} {base g n c : Nat} {l : List Nat} (h : OwnN w base g n c l) : IntsAt w (some ⟨g, 0, none⟩) n (nats l) := by
 refine own_ints (base := base) (e := 3) (c := c) ?_
 unfold OwnN at h
 unfold nats
 rw [List.map_map]
 exact h
theorem Row.drew' {w W : World} {g : Nat} {t : TypeId} {vs : List Value} (e : W = w.drew) (h : Row w g t vs) : Row W g t vs := e ▸ h
theorem own_drew {w W : World} {base : Nat} {t : TypeId} {v : Value} {n : Nat} {xs : List Value} (e : W = w.drew) (h : w.ownsRow base t 1 v n xs) : W.ownsRow base t 1 v n xs := by subst e; exact h
theorem OwnN.drew' {w W : World} {base g n c : Nat} {l : List Nat} (e : W = w.drew) (h : OwnN w base g n c l) : OwnN W base g n c l := by subst e; exact h
def kI0 (n : Nat) (sg : Int) (ov : Bool) : Nat := if ov then (if sg = -1 then 4 * n + 1 else 4 * n + 3) else 4 * n
def kO0 (n : Nat) (sg : Int) (ov : Bool) : Nat := if ov then (if sg = -1 then 4 * n + 3 else 4 * n + 1) else 4 * n + 2
def kI1 (n : Nat) (sg : Int) (ov : Bool) : Nat := if ov then 4 * n else (if sg = -1 then 4 * n + 1 else 4 * n + 3)
def kO1 (n : Nat) (sg : Int) (ov : Bool) : Nat := if ov then 4 * n + 2 else (if sg = -1 then 4 * n + 3 else 4 * n + 1)
def crl (d : Pl.Dg) (x sg : Int) (ov : Bool) : Pl.Dg where
 sg := d.sg ++ [sg]
 mt := if x < 0 then jn (jn (d.mt ++ List.replicate 4 0) (kO0 d.n sg ov) (kI1 d.n sg ov)) (kO1 d.n sg ov) (kI0 d.n sg ov) else jn (jn (jn (d.mt ++ List.replicate 4 0) (kO0 d.n sg ov) (kI1 d.n sg ov)) (kO1 d.n sg ov) (d.m x.toNat)) x.toNat (kI0 d.n sg ov)
 lp := if x < 0 then d.lp - 1 else d.lp
theorem crl_n (d : Pl.Dg) (x sg : Int) (ov : Bool) : (crl d x sg ov).n = d.n + 1 := by unfold Pl.Dg.n crl; simp
def CurlPost (d : Pl.Dg) (x sg : Int) (ov : Bool) (w : World) (e : Ending) (w' : World) : Prop := (curlableC d x ≠ 0 → ResErr (curlableC d x) e) ∧ (curlableC d x = 0 → ResOk (crl d x sg ov) ⟨2, d.n, 0, 0, false⟩ e w') ∧ Below w.heap.size w w'
theorem Row.cast {W W3 : World} {g : Nat} {t : TypeId} {vs : List Value} (h : W3 = W) (r : Row W g t vs) : Row W3 g t vs := h ▸ r
set_option maxRecDepth 100000 in
set_option maxHeartbeats 4000000 in
theorem curl_any (d : Pl.Dg) (hd : Pl.Wf d) (A B : Option Addr) (cp cq : Nat) (k x y sg : Int) (ov : Bool) (w : World) (hg : DgAt w A B d) (hx : -1 ≤ x ∧ x < 4 * d.n) (hsg : sg = 1 ∨ sg = -1) :
 Calls Try.prog 47 #[.agg #[.slice A d.n cp, .slice B (4 * d.n) cq, .int .i64 d.lp], .agg #[.int .i64 k, .int .i64 x, .int .i64 y, .int .i64 sg, .bool ov]] w (CurlPost d x sg ov w) := by
 have hn:=hd.few
 have hlp:=hd.lp
 obtain ⟨m, hm⟩ : ∃ m, m = 4 * d.n := ⟨_, rfl⟩
 have HG:=hide hg
 clear hg
 rw [← hm]
 have HM:=hide hm
 clear hm
 have b0 : Below w.heap.size w ((((w.alloc (.cells #[.slice A d.n cp, .slice B m cq, .int .i64 d.lp] 24)).alloc (.cells #[.int .i64 k, .int .i64 x, .int .i64 y, .int .i64 sg, .bool ov] 28)).alloc (.cells #[.slice none 0 0, .slice none 0 0, .int .i64 0] 24)).alloc (.cells #[.int .i64 0, .int .i64 0, .int .i64 0, .int .i64 0, .bool false] 28)):=((((Below.refl _ _).alloc (Nat.le_refl _) _).alloc (by simp) _).alloc (by simp; omega) _).alloc (by simp; omega) _
 have x2 : Row ((((w.alloc (.cells #[.slice A d.n cp, .slice B m cq, .int .i64 d.lp] 24)).alloc (.cells #[.int .i64 k, .int .i64 x, .int .i64 y, .int .i64 sg, .bool ov] 28)).alloc (.cells #[.slice none 0 0, .slice none 0 0, .int .i64 0] 24)).alloc (.cells #[.int .i64 0, .int .i64 0, .int .i64 0, .int .i64 0, .bool false] 28)) (w.heap.size + 1 + 1) 24 [.slice none 0 0, .slice none 0 0, .int .i64 0]:=by
  have:=(Row.new ((w.alloc (.cells #[.slice A d.n cp, .slice B m cq, .int .i64 d.lp] 24)).alloc (.cells #[.int .i64 k, .int .i64 x, .int .i64 y, .int .i64 sg, .bool ov] 28)) 24 [.slice none 0 0, .slice none 0 0, .int .i64 0]).alloc (.cells #[.int .i64 0, .int .i64 0, .int .i64 0, .int .i64 0, .bool false] 28)
  simpa using this
 have x3 : Row ((((w.alloc (.cells #[.slice A d.n cp, .slice B m cq, .int .i64 d.lp] 24)).alloc (.cells #[.int .i64 k, .int .i64 x, .int .i64 y, .int .i64 sg, .bool ov] 28)).alloc (.cells #[.slice none 0 0, .slice none 0 0, .int .i64 0] 24)).alloc (.cells #[.int .i64 0, .int .i64 0, .int .i64 0, .int .i64 0, .bool false] 28)) (w.heap.size + 1 + 1 + 1) 28 [.int .i64 0, .int .i64 0, .int .i64 0, .int .i64 0, .bool false]:=by
  have:=Row.new (((w.alloc (.cells #[.slice A d.n cp, .slice B m cq, .int .i64 d.lp] 24)).alloc (.cells #[.int .i64 k, .int .i64 x, .int .i64 y, .int .i64 sg, .bool ov] 28)).alloc (.cells #[.slice none 0 0, .slice none 0 0, .int .i64 0] 24)) 28 [.int .i64 0, .int .i64 0, .int .i64 0, .int .i64 0, .bool false]
  simpa using this
 have X0:=hide (show Row ((((w.alloc (.cells #[.slice A d.n cp, .slice B m cq, .int .i64 d.lp] 24)).alloc (.cells #[.int .i64 k, .int .i64 x, .int .i64 y, .int .i64 sg, .bool ov] 28)).alloc (.cells #[.slice none 0 0, .slice none 0 0, .int .i64 0] 24)).alloc (.cells #[.int .i64 0, .int .i64 0, .int .i64 0, .int .i64 0, .bool false] 28)) w.heap.size 24 [.slice A d.n cp, .slice B m cq, .int .i64 d.lp] from (((Row.new w _ [.slice A d.n cp, .slice B m cq, .int .i64 d.lp]).alloc _).alloc _).alloc _)
 have X1:=hide (show Row ((((w.alloc (.cells #[.slice A d.n cp, .slice B m cq, .int .i64 d.lp] 24)).alloc (.cells #[.int .i64 k, .int .i64 x, .int .i64 y, .int .i64 sg, .bool ov] 28)).alloc (.cells #[.slice none 0 0, .slice none 0 0, .int .i64 0] 24)).alloc (.cells #[.int .i64 0, .int .i64 0, .int .i64 0, .int .i64 0, .bool false] 28)) (w.heap.size + 1) 28 [.int .i64 k, .int .i64 x, .int .i64 y, .int .i64 sg, .bool ov] by
  have:=((Row.new (w.alloc (.cells #[.slice A d.n cp, .slice B m cq, .int .i64 d.lp] 24)) 28 [.int .i64 k, .int .i64 x, .int .i64 y, .int .i64 sg, .bool ov]).alloc (.cells #[.slice none 0 0, .slice none 0 0, .int .i64 0] 24)).alloc (.cells #[.int .i64 0, .int .i64 0, .int .i64 0, .int .i64 0, .bool false] 28)
  simpa using this)
 have X2:=hide x2
 have X3:=hide x3
 clear x2 x3
 go_enter Try.func47, Try.ntmps47
 go_wp2_with fail
 refine (curlable_m d A B cp cq m k x y sg ov _ HM.out (HG.out.keep b0) hn hlp hx).mono ?_
 rintro e w1 ⟨rfl, hb1⟩
 have b1:=b0.trans (hb1.mono b0.size)
 have Y0:=hide (X0.out.below hb1)
 have Y1:=hide (X1.out.below hb1)
 have Y2:=hide (X2.out.below hb1)
 have Y3:=hide (X3.out.below hb1)
 obtain ⟨hc, hf⟩ := bcell hb1
 have hsz : w.heap.size + 3 < w1.heap.size:=by have := hb1.size; simp at this; omega
 have l1 : w.heap.size < w1.heap.size:=by omega
 have l2 : w.heap.size + 1 < w1.heap.size:=by omega
 have l3 : w.heap.size + 1 + 1 < w1.heap.size:=by omega
 have l4 : w.heap.size + 1 + 1 + 1 < w1.heap.size:=by omega
 by_cases hC : curlableC d x = 0
 ·have t1 : (curlableC d x != 0) = false:=by rw [bne_eq_false_iff_eq]; exact hC
  have HC:=hide hC
  clear hC
  have b2 : Below w.heap.size w (w1.alloc (.cells #[.int .i64 sg] 3)):=b1.alloc (by omega) _
  have HSS:=hide (show IntsAt (w1.alloc (.cells #[.int .i64 sg] 3)) (some ⟨w1.heap.size, 0, none⟩) 1 [sg] by
   refine ⟨rfl, fun _ => ⟨_, 0, rfl, fun j u hu => ?_⟩⟩
   match j, hu with
   | 0, hu => simp at hu; subst hu; exact (Lib.cell_of_heap (heap_alloc_new w1 _) 0).trans rfl)
  rcases hsg with rfl | rfl <;> cases ov
  all_goals
   go_wp2_with fail
   refine (grown_any d A B cp cq 1 1 w1.heap.size m 4 [_] _ HM.out (by omega) (HG.out.keep b2) HSS.out (by omega) (by omega) (by omega)).mono ?_
   rintro e w2 ⟨g1, c1, g2, c2, rfl, own1, own2, hne, hb2⟩
   have b3:=b2.trans (hb2.mono b2.size)
   have hsz2 : w1.heap.size + 1 ≤ w2.heap.size:=by have := hb2.size; simp at this; omega
   have k1 : w.heap.size + 1 + 1 + 1 < w2.heap.size:=by omega
   obtain ⟨W3, hW3⟩ : ∃ W3 : World, W3 = w2.alloc (.cells #[.slice (some ⟨g1, 0, none⟩) (d.n + 1) c1, .slice (some ⟨g2, 0, none⟩) (m + 4) c2, .int .i64 d.lp] 24) := ⟨_, rfl⟩
   have Z0:=hide (show Row W3 w.heap.size 24 [.slice A d.n cp, .slice B m cq, .int .i64 d.lp] by rw [hW3]; exact ((Y0.out.alloc _).below hb2).alloc _)
   have Z1:=hide (Row.cast hW3 (((Y1.out.alloc _).below hb2).alloc _))
   have T2:=hide (show Row W3 (w.heap.size + 1 + 1) 24 [.slice none 0 0, .slice none 0 0, .int .i64 0] by rw [hW3]; exact ((Y2.out.alloc _).below hb2).alloc _)
   have T3:=hide (show Row W3 (w.heap.size + 1 + 1 + 1) 28 [.int .i64 0, .int .i64 0, .int .i64 0, .int .i64 0, .bool false] by rw [hW3]; exact ((Y3.out.alloc _).below hb2).alloc _)
   have Z9:=hide (show Row W3 w2.heap.size 24 [.slice (some ⟨g1, 0, none⟩) (d.n + 1) c1, .slice (some ⟨g2, 0, none⟩) (m + 4) c2, .int .i64 d.lp] by rw [hW3]; exact Row.new w2 _ _)
   have ZN:=hide (show OwnN W3 w1.heap.size g2 (m + 4) c2 (d.mt ++ List.replicate 4 0) by rw [hW3]; exact own_keep own2 ((Below.refl _ _).alloc (Nat.le_refl _) _) (by simp))
   obtain ⟨e0, e1, e2, e3, e4, e5⟩ := box5 (((Y1.out.alloc (.cells #[.int .i64 _] 3)).below hb2).alloc (.cells #[.slice (some ⟨g1, 0, none⟩) (d.n + 1) c1, .slice (some ⟨g2, 0, none⟩) (m + 4) c2, .int .i64 d.lp] 24))
   have T1:=hide (own_keep own1 ((Below.refl _ _).alloc (Nat.le_refl _) (.cells #[.slice (some ⟨g1, 0, none⟩) (d.n + 1) c1, .slice (some ⟨g2, 0, none⟩) (m + 4) c2, .int .i64 d.lp] 24)) (Nat.le_refl _))
   rw [← hW3] at T1
   obtain ⟨g2', eg2, lg2, ug2⟩ := owns_pos (by omega) own2
   injection eg2 with eg2
   injection eg2 with eg2 eg3
   subst eg2
   simp at lg2
   obtain ⟨g1', eg1, lg1, ug1⟩ := owns_pos (by omega) own1
   injection eg1 with eg1
   injection eg1 with eg1 eg4
   subst eg1
   simp at lg1
   clear own1 own2 t1 eg3 eg4
   go_wp2_with fail
   rw [← hW3]
   clear e0 e1 e2 e3 e4 e5
   refine (join_int w1.heap.size g2 (m + 4) c2 _ _ (d.mt ++ List.replicate 4 0) W3 ZN.out (by have := HM.out; omega) (by have := HM.out; omega) (by have := HM.out; omega)).mono ?_
   rintro e w4 ⟨rfl, own4, gr4⟩
   have V0:=hide (Z0.out.grown gr4 (by intro h; injection h; omega))
   have V1:=hide (Z1.out.grown gr4 (by intro h; injection h; omega))
   have V9:=hide (Z9.out.grown gr4 (by intro h; injection h; omega))
   have hs4 : w2.heap.size + 1 ≤ w4.heap.size:=by have := gr4.size; rw [hW3] at this; simpa using this
   have b33 : Below w.heap.size w W3:=by rw [hW3]; exact b3.alloc (by omega) _
   have b4 : Below w.heap.size w w4:=b33.grown gr4 b33.size (fun k hk => by injection hk with hk; omega)
   clear b33
   have HG4:=hide (HG.out.keep b4)
   have v1 : w4.cell? ⟨w.heap.size + 1, 1, none⟩ = some (.int .i64 x):=V1.out.cell (i := 1) (by show 1 < 5; omega)
   have OWN4:=hide own4
   have v9 : w4.cell? ⟨w2.heap.size, 1, none⟩ = some (.slice (some ⟨g2, 0, none⟩) (m + 4) c2):=V9.out.cell (i := 1) (by show 1 < 3; omega)
   have v0 : w4.cell? ⟨w.heap.size, 1, none⟩ = some (.slice B m cq):=V0.out.cell (i := 1) (by show 1 < 3; omega)
   clear own4
   by_cases hx0 : x < 0
   ·have t2 : decide (x < 0) = true:=by simpa using hx0
    go_wp2_with fail
    refine (join_int w1.heap.size g2 (m + 4) c2 _ _ _ w4 OWN4.out (by have := HM.out; omega) (by have := HM.out; omega) (by have := HM.out; omega)).mono ?_
    rintro e w5 ⟨rfl, own5, gr5⟩
    have U9:=hide (V9.out.grown gr5 (by intro h; injection h; omega))
    have hs5:=gr5.size
    have b5 : Below w.heap.size w w5:=b4.grown gr5 b4.size (fun k hk => by injection hk with hk; omega)
    have R2:=hide (show Row w5 (w.heap.size + 1 + 1) 24 [.slice none 0 0, .slice none 0 0, .int .i64 0] from (T2.out.grown gr4 (by intro h; injection h; omega)).grown gr5 (by intro h; injection h; omega))
    have R3:=hide (show Row w5 (w.heap.size + 1 + 1 + 1) 28 [.int .i64 0, .int .i64 0, .int .i64 0, .int .i64 0, .bool false] from (T3.out.grown gr4 (by intro h; injection h; omega)).grown gr5 (by intro h; injection h; omega))
    obtain ⟨q0, q1, q2, q3⟩ := box3 R2.out
    obtain ⟨p0, p1, p2, p3, p4, p5⟩ := box5 R3.out
    have u9 : w5.cell? ⟨w2.heap.size, 2, none⟩ = some (.int .i64 d.lp):=U9.out.cell (i := 2) (by show 2 < 3; omega)
    have u90 : w5.cell? ⟨w2.heap.size, 0, none⟩ = some (.slice (some ⟨g1, 0, none⟩) (d.n + 1) c1):=U9.out.cell (i := 0) (by show 0 < 3; omega)
    have u91 : w5.cell? ⟨w2.heap.size, 1, none⟩ = some (.slice (some ⟨g2, 0, none⟩) (m + 4) c2):=U9.out.cell (i := 1) (by show 1 < 3; omega)
    have uf : w5.frozen? ⟨w2.heap.size, 2, none⟩ = false:=U9.out.free 2
    have OWN5:=hide own5
    have S5:=hide (own_grown (own_grown T1.out gr4 hne) gr5 hne)
    clear own5 gr4 gr5 v9 v0 v1
    go_wp2_with fail
    clear q0 q1 q2 q3 p0 p1 p2 p3 p4 p5
    refine bodyPost_ret (v := .tuple #[.agg #[.slice (some ⟨g1, 0, none⟩) (d.n + 1) c1, .slice (some ⟨g2, 0, none⟩) (m + 4) c2, .int .i64 ((d.lp : Int) - 1)], .agg #[.int .i64 2, .int .i64 d.n, .int .i64 0, .int .i64 0, .bool false], .int .i64 0]) ?_ rfl ?_
    ·obtain ⟨e0, e1, e2, e3, e4, e5, e6, e7⟩ := fin8 (R2.out.other (a := ⟨w2.heap.size, 2, none⟩) (by show _ ≠ w2.heap.size; omega) (.int .i64 ((d.lp : Int) - 1))) (R3.out.other (a := ⟨w2.heap.size, 2, none⟩) (by show _ ≠ w2.heap.size; omega) (.int .i64 ((d.lp : Int) - 1))) rfl rfl (by omega) (.slice (some ⟨g1, 0, none⟩) (d.n + 1) c1) (.slice (some ⟨g2, 0, none⟩) (m + 4) c2) (.int .i64 ((d.lp : Int) - 1)) (.int .i64 2) (.int .i64 d.n) (.int .i64 0) (.int .i64 0) (.bool false)
     simp [results, Try.results47, go_sem, e0, e1, e2, e3, e4, e5, e6, e7]
    ·have hl1 : 1 ≤ d.lp := by
      have:=HC.out
      unfold curlableC at this
      rw [if_pos hx0] at this
      by_cases h0 : d.lp = 0
      ·rw [if_pos h0] at this; omega
      ·omega
     have en:=crl_n d x
     have em : m + 4 = 4 * (d.n + 1):=by have := HM.out; omega
     have el : ((d.lp : Int) - 1) = ((d.lp - 1 : Nat) : Int):=by omega
     have O5:=OWN5.out
     simp only [show (4 * (d.n : Int)).toNat = 4 * d.n by omega, show (4 * (d.n : Int) + 1).toNat = 4 * d.n + 1 by omega, show (4 * (d.n : Int) + 2).toNat = 4 * d.n + 2 by omega, show (4 * (d.n : Int) + 3).toNat = 4 * d.n + 3 by omega] at O5
     refine ⟨fun h => absurd HC.out h, fun _ => ⟨some ⟨g1, 0, none⟩, some ⟨g2, 0, none⟩, c1, c2, ?_, ?_, ?_⟩, ?_⟩
     ·rw [en, el, em]
      unfold crl Mv.v
      simp only [if_pos hx0]
     ·rw [en]
      refine own_intsT (base := w1.heap.size + 1) (e := 3) (c := c1) ?_
      (iterate 9 refine own_set ?_ (by omega))
      have:=S5.out
      simp at this
      simpa [crl] using this
     ·rw [en, ← em]
      refine OwnN.intsT (base := w1.heap.size) (c := c2) ?_
      unfold OwnN
      (iterate 9 refine own_set ?_ (by omega))
      unfold OwnN at O5
      unfold crl kI0 kI1 kO0 kO1
      simp only [if_pos hx0]
      first
       | exact O5
       | (simp; exact O5)
       | (simp at O5 ⊢; exact O5)
     ·exact (((((((((b5.setCell (by simp; omega) _).setCell (by simp; omega) _).setCell (by simp; omega) _).setCell (by simp; omega) _).setCell (by simp; omega) _).setCell (by simp; omega) _).setCell (by simp; omega) _).setCell (by simp; omega) _).setCell (by simp; omega) _)
   ·obtain ⟨q, rfl⟩ := Int.eq_ofNat_of_zero_le (show 0 ≤ x by omega)
    have t2 : decide ((q : Int) < 0) = false:=by simp
    have hq : q < 4 * d.n:=by omega
    obtain ⟨b, o, rfl, cm⟩ := mate_at HG4.out.m hq
    have hmn : d.m q < 4 * d.n:=hd.lt q hq
    have hqm : q < m:=by have := HM.out; omega
    have hqm2 : (q : Int) < (m : Int):=by omega
    have hqm3 : (0 : Int) ≤ (q : Int):=by omega
    go_upto_region 17 with fail
    go_still_tail 9, (by kernel_rfl)
    change wpList _ _ _ _ _ w4.drew
    obtain ⟨W6, hW6⟩ : ∃ W6 : World, W6 = w4.drew := ⟨_, rfl⟩
    rw [← hW6]
    have OWN6:=hide (OwnN.drew' hW6 OWN4.out)
    have S6:=hide (own_drew hW6 (own_grown T1.out gr4 hne))
    have R26:=hide (Row.drew' hW6 (T2.out.grown gr4 (by intro h; injection h; omega)))
    have R36:=hide (Row.drew' hW6 (T3.out.grown gr4 (by intro h; injection h; omega)))
    have V16:=hide (Row.drew' hW6 V1.out)
    have V96:=hide (Row.drew' hW6 V9.out)
    have b6 : Below w.heap.size w W6:=by rw [hW6]; exact b4.drew
    have hs6 : w2.heap.size + 1 ≤ W6.heap.size:=by rw [hW6]; exact hs4
    clear hW6
    clear gr4 v9 v0 v1 cm
    go_wp2_with fail
    refine (join_int w1.heap.size g2 (m + 4) c2 _ _ _ W6 OWN6.out (by have := HM.out; omega) (by have := HM.out; omega) (by have := HM.out; omega)).mono ?_
    rintro e w5 ⟨rfl, own5, gr5⟩
    have V15:=hide (V16.out.grown gr5 (by intro h; injection h; omega))
    have V95:=hide (V96.out.grown gr5 (by intro h; injection h; omega))
    have S5:=hide (own_grown S6.out gr5 hne)
    have R25:=hide (R26.out.grown gr5 (by intro h; injection h; omega))
    have R35:=hide (R36.out.grown gr5 (by intro h; injection h; omega))
    have b5 : Below w.heap.size w w5:=b6.grown gr5 b6.size (fun k hk => by injection hk with hk; omega)
    have hs5:=gr5.size
    have OWN5:=hide own5
    have v9 : w5.cell? ⟨w2.heap.size, 1, none⟩ = some (.slice (some ⟨g2, 0, none⟩) (m + 4) c2):=V95.out.cell (i := 1) (by show 1 < 3; omega)
    have v1 : w5.cell? ⟨w.heap.size + 1, 1, none⟩ = some (.int .i64 (q : Int)):=V15.out.cell (i := 1) (by show 1 < 5; omega)
    clear own5 gr5
    go_wp2_with fail
    refine (join_int w1.heap.size g2 (m + 4) c2 _ _ _ w5 OWN5.out (by have := HM.out; omega) (by have := HM.out; omega) (by have := HM.out; omega)).mono ?_
    rintro e w7 ⟨rfl, own7, gr7⟩
    have S7:=hide (own_grown S5.out gr7 hne)
    have R2:=hide (show Row w7 (w.heap.size + 1 + 1) 24 [.slice none 0 0, .slice none 0 0, .int .i64 0] from R25.out.grown gr7 (by intro h; injection h; omega))
    have R3:=hide (show Row w7 (w.heap.size + 1 + 1 + 1) 28 [.int .i64 0, .int .i64 0, .int .i64 0, .int .i64 0, .bool false] from R35.out.grown gr7 (by intro h; injection h; omega))
    have b7 : Below w.heap.size w w7:=b5.grown gr7 b5.size (fun k hk => by injection hk with hk; omega)
    obtain ⟨q0, q1, q2, q3⟩ := box3 R2.out
    obtain ⟨p0, p1, p2, p3, p4, p5⟩ := box5 R3.out
    obtain ⟨u0, u1, u2, u3⟩ := box3 (V95.out.grown gr7 (by intro h; injection h; omega))
    have OWN7:=hide own7
    clear own7 gr7 v9 v1
    go_wp2_with fail
    clear q0 q1 q2 q3 p0 p1 p2 p3 p4 p5 u0 u1 u2 u3
    refine bodyPost_ret (v := .tuple #[.agg #[.slice (some ⟨g1, 0, none⟩) (d.n + 1) c1, .slice (some ⟨g2, 0, none⟩) (m + 4) c2, .int .i64 (d.lp : Int)], .agg #[.int .i64 2, .int .i64 d.n, .int .i64 0, .int .i64 0, .bool false], .int .i64 0]) ?_ rfl ?_
    ·obtain ⟨e0, e1, e2, e3, e4, e5, e6, e7⟩ := fin8 R2.out R3.out rfl rfl (by omega) (.slice (some ⟨g1, 0, none⟩) (d.n + 1) c1) (.slice (some ⟨g2, 0, none⟩) (m + 4) c2) (.int .i64 (d.lp : Int)) (.int .i64 2) (.int .i64 d.n) (.int .i64 0) (.int .i64 0) (.bool false)
     simp [results, Try.results47, go_sem, e0, e1, e2, e3, e4, e5, e6, e7]
    ·have en:=crl_n d (q : Int)
     have em : m + 4 = 4 * (d.n + 1):=by have := HM.out; omega
     have O5:=OWN7.out
     simp only [Int.toNat_natCast, show (4 * (d.n : Int)).toNat = 4 * d.n by omega, show (4 * (d.n : Int) + 1).toNat = 4 * d.n + 1 by omega, show (4 * (d.n : Int) + 2).toNat = 4 * d.n + 2 by omega, show (4 * (d.n : Int) + 3).toNat = 4 * d.n + 3 by omega] at O5
     refine ⟨fun h => absurd HC.out h, fun _ => ⟨some ⟨g1, 0, none⟩, some ⟨g2, 0, none⟩, c1, c2, ?_, ?_, ?_⟩, ?_⟩
     ·rw [en, em]
      unfold crl Mv.v
      simp only [if_neg (show ¬ ((q : Int) < 0) by omega)]
     ·rw [en]
      refine own_intsT (base := w1.heap.size + 1) (e := 3) (c := c1) ?_
      (iterate 8 refine own_set ?_ (by omega))
      have:=S7.out
      simp at this
      simpa [crl] using this
     ·rw [en, ← em]
      refine OwnN.intsT (base := w1.heap.size) (c := c2) ?_
      unfold OwnN
      (iterate 8 refine own_set ?_ (by omega))
      unfold OwnN at O5
      unfold crl kI0 kI1 kO0 kO1
      simp only [if_neg (show ¬ ((q : Int) < 0) by omega), Int.toNat_natCast]
      first
       | exact O5
       | (simp; exact O5)
       | (simp at O5 ⊢; exact O5)
     ·exact ((((((((b7.setCell (by simp; omega) _).setCell (by simp; omega) _).setCell (by simp; omega) _).setCell (by simp; omega) _).setCell (by simp; omega) _).setCell (by simp; omega) _).setCell (by simp; omega) _).setCell (by simp; omega) _)
 ·have t1 : (curlableC d x != 0) = true:=by rw [bne_iff_ne]; exact hC
  go_wp2
  refine bodyPost_ret (v := .tuple #[nilD, nilM, .int .i64 (curlableC d x)]) ?_ rfl ?_
  rotate_left 1
  ·refine ⟨fun _ => (show ResErr _ _ from rfl), fun h => absurd h hC, ?_⟩
   exact (((((((b1.setCell (by simp; omega) _).setCell (by simp; omega) _).setCell (by simp; omega) _).setCell (by simp; omega) _).setCell (by simp; omega) _).setCell (by simp; omega) _).setCell (by simp; omega) _).setCell (by simp; omega) _
  ·obtain ⟨e0, e1, e2, e3, e4, e5, e6, e7⟩ := fin8 Y2.out Y3.out rfl rfl (by omega) (.slice none 0 0) (.slice none 0 0) (.int .i64 0) (.int .i64 0) (.int .i64 0) (.int .i64 0) (.int .i64 0) (.bool false)
   unfold nilD nilM
   simp [results, Try.results47, go_sem, e0, e1, e2, e3, e4, e5, e6, e7]
end Go.Proofs.Ytobbepmlmbbamaa
end
section
namespace Go.Proofs.Ytobbepmlmbbamaa
open Go.RowKit
def ClosedPost (l : List Nat) (base g n cap a b : Nat) (w : World) (e : Ending) (w' : World) : Prop :=
 e = .returned (.int .i64 (if l.getD a 0 = b then 1 else 0)) ∧ OwnN w' base g n cap (if l.getD a 0 = b then l else jn l (l.getD a 0) (l.getD b 0)) ∧ w.grownBy w' (some g)
theorem grown_refl (w : World) (r : Option Nat) : w.grownBy w r := ⟨rfl, rfl, rfl, Nat.le_refl _, fun _ _ _ => rfl⟩
theorem grown_drew {w W w' : World} {r : Option Nat} (e : W = w.drew) (h : W.grownBy w' r) : w.grownBy w' r := by subst e; exact ⟨h.os, h.tape, h.output, h.size, h.block⟩
set_option maxRecDepth 100000 in
set_option maxHeartbeats 1000000 in
theorem closed_any (base g n cap a b : Nat) (l : List Nat) (w : World) (h : OwnN w base g n cap l) (ha : a < n) (hb : b < n) (hn : n ≤ 100000) (hl : ∀ k, k < n → l.getD k 0 < n) :
 Calls Try.prog 81 #[.slice (some ⟨g, 0, none⟩) n cap, .int .i64 (a : Int), .int .i64 (b : Int)] w (ClosedPost l base g n cap a b w) := by
 have c1:=h.cell ha
 have c2:=h.cell hb
 have la:=hl a ha
 have lb:=hl b hb
 obtain ⟨x, hx⟩ : ∃ x, x = l.getD a 0 := ⟨_, rfl⟩
 obtain ⟨y, hy⟩ : ∃ y, y = l.getD b 0 := ⟨_, rfl⟩
 rw [← hx] at c1 la
 rw [← hy] at c2 lb
 have HH:=hide h
 have HX:=hide hx
 have HY:=hide hy
 clear h hx hy
 go_enter Try.func81, Try.ntmps81
 by_cases hxb : x = b
 ·subst hxb
  go_wp2
  go_ret
  refine ⟨ret_int ?_, ?_, grown_refl _ _⟩
  ·rw [if_pos HX.out.symm]
  ·rw [if_pos HX.out.symm]; exact HH.out
 ·have t1 : ((x : Int) == (b : Int)) = false:=by rw [beq_eq_false_iff_ne]; omega
  have i1 : (a : Int) < (n : Int):=by omega
  have i2 : (b : Int) < (n : Int):=by omega
  have i3 : (0 : Int) ≤ (a : Int):=by omega
  have i4 : (0 : Int) ≤ (b : Int):=by omega
  go_wp2_with fail
  go_still_tail 9, (by kernel_rfl)
  change wpList _ _ _ _ _ w.drew
  obtain ⟨W6, hW6⟩ : ∃ W6 : World, W6 = w.drew := ⟨_, rfl⟩
  rw [← hW6]
  have O6:=hide (OwnN.drew' hW6 HH.out)
  have HW:=hide hW6
  clear hW6 c1 c2
  go_wp2_with fail
  refine (join_any base g n cap x y l W6 O6.out la lb hn).mono ?_
  rintro e w5 ⟨rfl, own5, gr5⟩
  have OWN5:=hide own5
  have GR5:=hide gr5
  clear own5 gr5
  go_wp2_with fail
  go_ret
  have hne : ¬ l.getD a 0 = b:=by rw [← HX.out]; exact hxb
  refine ⟨ret_int ?_, ?_, grown_drew HW.out GR5.out⟩
  ·rw [if_neg hne]
  ·rw [if_neg hne, ← HX.out, ← HY.out]; exact OWN5.out
end Go.Proofs.Ytobbepmlmbbamaa
end
