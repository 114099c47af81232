/-
  The texts Kval, Xp, Xr, Xk, Xg, Xx, Xy, Yd, Yf, Byp, Rst, Unk, Za, Tb, Ua, Vc, Vd, Ve, Vk, Bf, Bp, Open, Xn, Mvp, Na in one.
-/
import Derived.Test.YtlffopdoeobgaaaGreatDoorT06
import Derived.Test.YtlffopdoeobgaaaGreatDoorT00
import Derived.Test.YtlffopdoeobgaaaGreatDoorT05
import Derived.Deep.AppendLies
import Derived.Test.YtlffopdoeobgaaaGreatDoorT04
import Derived.Deep.DeepCutAuto
import Derived.Laws.Slices
import Derived.Test.YtlffopdoeobgaaaGreatDoorT02
import Derived.Test.YtlffopdoeobgaaaGreatDoorShelf
import Derived.Test.YtlffopdoeobgaaaGreatDoorT03
import Derived.RegionTactic
import Derived.Deep.CutRange
import Derived.Lib.SmallJoins
import Derived.Lib.AtoiAllCases
import Derived.Test.YtlffopdoeobgaaaGreatDoorRows
import Derived.ProofKit
import Derived.OpenShut
import Derived.Deep.Slices
import Derived.Deep.Fields
import Derived.ChangeSame
import Derived.ChangeSlices
import Derived.Deep.Strs
set_option linter.unusedVariables false
set_option linter.unusedSimpArgs false

section
namespace Go.Proofs.YtlffopdoeobgaaaGreatDoor.Pl
theorem out_old {d d' : Dg} {h : Nat} (e : d'.s (h / 4) = d.s (h / 4)) : out d' h = out d h := by unfold out; rw [e]
theorem Kq.cover {n i0 o0 i1 o1 z : Nat} (k : Kq n i0 o0 i1 o1) (h : 4 * n ≤ z ∧ z < 4 * (n + 1)) : z = i0 ∨ z = o0 ∨ z = i1 ∨ z = o1 := by unfold Kq at k; omega
structure Kd (d d' : Dg) (i0 o0 i1 o1 : Nat) : Prop where
  few : d.n + 1 ≤ 64
  n : d'.n = d.n + 1
  len : d'.mt.length = 4 * (d.n + 1)
  lp : d'.lp ≤ 64
  old : ∀ c, c < d.n → d'.s c = d.s c
  new : d'.s d.n = 1 ∨ d'.s d.n = -1
  k : Kq d.n i0 o0 i1 o1
  wi0 : out d' i0 = false
  wi1 : out d' i1 = false
  wo0 : out d' o0 = true
  wo1 : out d' o1 = true
  m1 : d'.m o0 = i1
  m2 : d'.m i1 = o0
theorem Kd.out {d d' : Dg} {i0 o0 i1 o1 : Nat} (K : Kd d d' i0 o0 i1 o1) {h : Nat} (hh : h < 4 * d.n) : out d' h = out d h := out_old (K.old _ (by omega))
theorem Kd.sign {d d' : Dg} (hd : Wf d) {i0 o0 i1 o1 : Nat} (K : Kd d d' i0 o0 i1 o1) : ∀ c, c < d'.n → d'.s c = 1 ∨ d'.s c = -1 := fun c hc => by
  rw [K.n] at hc
  rcases Nat.lt_or_ge c d.n with h | h
  · rw [K.old c h]; exact hd.sign c h
  · rw [show c = d.n by omega]; exact K.new
theorem wf_by {d' : Dg} (few : d'.n ≤ 64) (len : d'.mt.length = 4 * d'.n) (lp : d'.lp ≤ 64) (sign : ∀ c, c < d'.n → d'.s c = 1 ∨ d'.s c = -1)
    (h : ∀ z, z < 4 * d'.n → d'.m z < 4 * d'.n ∧ d'.m (d'.m z) = z ∧ Pl.out d' z ≠ Pl.out d' (d'.m z)) : Wf d' :=
  ⟨few, len, lp, sign, fun z hz => (h z hz).1, fun z hz e => (h z hz).2.2 (by rw [e]), fun z hz => (h z hz).2.1, fun z hz => (h z hz).2.2⟩
theorem Kd.loop {d d' : Dg} (hd : Valid d) {i0 o0 i1 o1 : Nat} (K : Kd d d' i0 o0 i1 o1) (mo : ∀ h, h < 4 * d.n → d'.m h = d.m h) (m3 : d'.m o1 = i0) (m4 : d'.m i0 = o1) : Valid d' := by
  have hv := Valid.iff.1 hd
  obtain ⟨a1, a2, a3, a4, n1, n2, n3, n4, n5, n6⟩ := K.k.bd
  refine Valid.iff.2 ⟨wf_by (by rw [K.n]; exact K.few) (by rw [K.n]; exact K.len) K.lp (K.sign hv.1) (fun z hz => ?_), ?_⟩
  · rw [K.n] at hz ⊢
    rcases Nat.lt_or_ge z (4 * d.n) with h | h
    · have := hv.1.lt z h
      rw [mo z h, mo _ this, K.out h, K.out this]
      exact ⟨by omega, hv.1.inv z h, hv.1.way z h⟩
    · rcases K.k.cover ⟨h, hz⟩ with rfl | rfl | rfl | rfl
      · rw [m4, m3, K.wi0, K.wo1]; exact ⟨a4.2, rfl, by decide⟩
      · rw [K.m1, K.m2, K.wi1, K.wo0]; exact ⟨a3.2, rfl, by decide⟩
      · rw [K.m2, K.m1, K.wi1, K.wo0]; exact ⟨a2.2, rfl, by decide⟩
      · rw [m3, m4, K.wi0, K.wo1]; exact ⟨a1.2, rfl, by decide⟩
  · have hf := kink_loop hv.1.hm hv.2 K.k
    have hx := ext_hm (Nat.le_succ d.n) hv.1.hm
    have h1 := hx.tr (x := o0) (y := i1) a2.2 a3.2 (ex_new a2.1) (ex_new a3.1)
    have f1 : tr (ex d.n d.m) o0 i1 o1 = o1 := by rw [tr_ne (Ne.symm n5) (Ne.symm n6), ex_new a4.1]
    have f2 : tr (ex d.n d.m) o0 i1 i0 = i0 := by rw [tr_ne n1 n2, ex_new a1.1]
    have h2 := h1.tr (x := o1) (y := i0) a4.2 a1.2 f1 f2
    have e : dart d' = (fun h => h < 4 * (d.n + 1)) := by funext x; unfold dart; rw [K.n]
    rw [e]
    refine Gen.congr h2 (fun _ _ => rfl) (fun z hz => ?_) hf
    rcases Nat.lt_or_ge z (4 * d.n) with h | h
    · rw [mo z h, tr_ne (by omega) (by omega), tr_ne (by omega) (by omega), ex_old h]
    · rcases K.k.cover ⟨h, hz⟩ with rfl | rfl | rfl | rfl
      · rw [m4, tr_b, f1]
      · rw [K.m1, tr_ne n5 (Ne.symm n1), tr_a, ex_new a3.1]
      · rw [K.m2, tr_ne n6 (Ne.symm n2), tr_b, ex_new a2.1]
      · rw [m3, tr_a, f2]
end Go.Proofs.YtlffopdoeobgaaaGreatDoor.Pl
end

section
namespace Go.Proofs.YtlffopdoeobgaaaGreatDoor
open Go Go.RowKit
attribute [local go_sem ↓] Go.wp_at_zero Go.wp_at_succ
theorem moveInfo : (Tryz.prog.info? 36).map (fun i => (i.zero, i.size, i.bytes)) = some (some (.agg #[.int .i64 0, .int .i64 0, .int .i64 0, .int .i64 0, .bool false]), 5, 40) := by kernel_rfl
def Mv.cells (m : Mv) : List Value := [.int .i64 m.kind, .int .i64 m.x, .int .i64 m.y, .int .i64 m.sign, .bool m.over]
def mvs (ms : List Mv) : List Value := ms.flatMap Mv.cells
theorem mvs_app (ms : List Mv) (m : Mv) : mvs (ms ++ [m]) = mvs ms ++ m.cells := by unfold mvs; simp
section
variable {w W W' W2 : World} {gd gl : Nat} {dv : List Value} {v v' : Value} {ms : List Mv} {m : Mv}
theorem own_below {base : Nat} {e : TypeId} {size n : Nat} {xs : List Value} (h : W.ownsRow base e size v n xs) (hb : Below W.heap.size W W') : W'.ownsRow base e size v n xs := by
  refine ⟨h.1, ?_⟩
  rcases h.2 with hz | ⟨g, cap, cur, r1, r2, r3, r4⟩
  · exact .inl hz
  · exact .inr ⟨g, cap, cur, r1, r2, (hb.block g (lt_of_heap r3)).trans r3, r4⟩
end
theorem five_news (W : World) (g : Nat) (hg : W.heap.size = g) (m : Mv) : ∀ j u, m.cells[j]? = some u → (W.alloc (.cells m.cells.toArray 36)).cell? ((⟨g, 0, none⟩ : Addr).add j) = some u := by
  subst hg
  intro j u hu
  rw [Addr.add_lit, Nat.zero_add]
  have hj : j < m.cells.length := by
    rcases Nat.lt_or_ge j m.cells.length with h | h
    · exact h
    · rw [List.getElem?_eq_none h] at hu; cases hu
  have := (Row.new W 36 m.cells).cell hj
  rw [this, ← hu, List.getElem?_eq_getElem hj]
def MovesAt (w : World) (v : Value) (ms : List Mv) : Prop := ∃ base, w.ownsRow base 36 5 v ms.length (mvs ms)
end Go.Proofs.YtlffopdoeobgaaaGreatDoor
end

section
namespace Go.Proofs.YtlffopdoeobgaaaGreatDoor
open Go Go.RowKit
attribute [local go_sem ↓] Go.wp_at_zero Go.wp_at_succ
section
variable {w W W' W2 : World} {T : TypeId} {gd gl : Nat} {dv : List Value} {v v' : Value} {ms : List Mv} {m : Mv}
end
def one (c : Int) (m : Mv) : List Mv := if c = 0 then [m] else []
end Go.Proofs.YtlffopdoeobgaaaGreatDoor
end

section
namespace Go.Proofs.YtlffopdoeobgaaaGreatDoor
open Go Go.RowKit
attribute [local go_sem ↓] Go.wp_at_zero Go.wp_at_succ
noncomputable def apC (d : Pl.Dg) (m : Mv) : Int :=
  if m.kind < 1 ∨ 5 < m.kind then 11 else if Pl.vb (inR d.n m) = false then 2 else if m.kind = 1 then curlableC d m.x else if m.kind = 2 then uncC d m.x.toNat else if m.kind = 3 then pkQ d m.x m.y m.sign else if m.kind = 4 then unpC d m.x.toNat m.y.toNat else sldC d m.x.toNat
def apD (d : Pl.Dg) (m : Mv) : Pl.Dg :=
  if m.kind = 1 then crl d m.x m.sign m.over else if m.kind = 2 then unD d m.x.toNat else if m.kind = 3 then pkD d m.x m.y m.sign m.over else if m.kind = 4 then unpD d m.x.toNat m.y.toNat else sldD d m.x.toNat
def apI (d : Pl.Dg) (m : Mv) : Mv :=
  if m.kind = 1 then ⟨2, d.n, 0, 0, false⟩ else if m.kind = 2 then unI d m.x.toNat else if m.kind = 3 then ⟨4, d.n, d.n + 1, 0, false⟩ else if m.kind = 4 then unpI d m.x.toNat m.y.toNat else sldI d m.x.toNat
end Go.Proofs.YtlffopdoeobgaaaGreatDoor
end

section
namespace Go.Proofs.YtlffopdoeobgaaaGreatDoor
open Go Go.RowKit
theorem getD_set2 (l : List Nat) (a b k z : Nat) (ha : a < l.length) : (l.set a b).getD k z = if k = a then b else l.getD k z := by
  rw [List.getD_eq_getElem?_getD, List.getElem?_set, List.getD_eq_getElem?_getD]
  by_cases h : a = k
  · subst h; simp [ha]
  · rw [if_neg h, if_neg (Ne.symm h)]
theorem jn_m (l : List Nat) (a b k z : Nat) (ha : a < l.length) (hb : b < l.length) : (jn l a b).getD k z = if k = b then a else if k = a then b else l.getD k z := by
  unfold jn
  rw [getD_set2 _ _ _ _ _ (by simpa using hb), getD_set2 _ _ _ _ _ ha]
theorem app_m {l : List Nat} {r : List Nat} {k z : Nat} (h : k < l.length) : (l ++ r).getD k z = l.getD k z := by
  rw [List.getD_eq_getElem?_getD, List.getD_eq_getElem?_getD, List.getElem?_append_left h]
theorem kq (n : Nat) (sg : Int) (ov : Bool) (hs : sg = 1 ∨ sg = -1) : Pl.Kq n (kI0 n sg ov) (kO0 n sg ov) (kI1 n sg ov) (kO1 n sg ov) := by
  unfold Pl.Kq kI0 kO0 kI1 kO1
  rcases hs with rfl | rfl <;> cases ov <;> simp
theorem crl_s {d : Pl.Dg} {x sg : Int} {ov : Bool} {c : Nat} (h : c < d.n) : (crl d x sg ov).s c = d.s c := by
  unfold Pl.Dg.s crl
  simp only
  rw [List.getD_eq_getElem?_getD, List.getElem?_append_left h, ← List.getD_eq_getElem?_getD]
theorem crl_s' (d : Pl.Dg) (x sg : Int) (ov : Bool) : (crl d x sg ov).s d.n = sg := by
  unfold Pl.Dg.s crl Pl.Dg.n
  simp
theorem crl_kd {d : Pl.Dg} (hd : Pl.Wf d) {x sg : Int} {ov : Bool} (hs : sg = 1 ∨ sg = -1) (hn : d.n + 1 ≤ 64) (m1 : (crl d x sg ov).m (kO0 d.n sg ov) = kI1 d.n sg ov) (m2 : (crl d x sg ov).m (kI1 d.n sg ov) = kO0 d.n sg ov) :
    Pl.Kd d (crl d x sg ov) (kI0 d.n sg ov) (kO0 d.n sg ov) (kI1 d.n sg ov) (kO1 d.n sg ov) := by
  have s' := crl_s' d x sg ov
  have w1 : ∀ e, e < 4 → (4 * d.n + e) / 4 = d.n := fun e h => by omega
  have w2 : ∀ e, e < 4 → (4 * d.n + e) % 4 = e := fun e h => by omega
  have o : ∀ e, e < 4 → Pl.out (crl d x sg ov) (4 * d.n + e) = (e == 2 || (e == 1 && sg == 1) || (e == 3 && sg == -1)) := fun e h => by
    unfold Pl.out; rw [w1 e h, w2 e h, s']
  have o0 := o 0 (by omega)
  have o1 := o 1 (by omega)
  have o2 := o 2 (by omega)
  have o3 := o 3 (by omega)
  rw [Nat.add_zero] at o0
  refine ⟨hn, crl_n _ _ _ _, ?_, ?_, fun c hc => crl_s hc, by rw [s']; exact hs, kq d.n sg ov hs, ?_, ?_, ?_, ?_, m1, m2⟩
  · unfold crl
    have := hd.len
    simp only
    split <;> (simp [jn_len, this]; omega)
  · have := hd.lp
    unfold crl; simp only; split <;> omega
  · rcases hs with rfl | rfl <;> cases ov <;> simp [kI0, o0, o1, o2, o3]
  · rcases hs with rfl | rfl <;> cases ov <;> simp [kI1, o0, o1, o2, o3]
  · rcases hs with rfl | rfl <;> cases ov <;> simp [kO0, o0, o1, o2, o3]
  · rcases hs with rfl | rfl <;> cases ov <;> simp [kO1, o0, o1, o2, o3]
theorem crl_mloop {d : Pl.Dg} (hd : Pl.Wf d) {x sg : Int} {ov : Bool} (hs : sg = 1 ∨ sg = -1) (hx : x < 0) (k : Nat) : (crl d x sg ov).m k =
    if k = kI0 d.n sg ov then kO1 d.n sg ov else if k = kO1 d.n sg ov then kI0 d.n sg ov else if k = kI1 d.n sg ov then kO0 d.n sg ov else if k = kO0 d.n sg ov then kI1 d.n sg ov else (d.mt ++ List.replicate 4 0).getD k k := by
  obtain ⟨a1, a2, a3, a4, _⟩ := (kq d.n sg ov hs).bd
  have hl := hd.len
  have e : (crl d x sg ov).mt = jn (jn (d.mt ++ List.replicate 4 0) (kO0 d.n sg ov) (kI1 d.n sg ov)) (kO1 d.n sg ov) (kI0 d.n sg ov) := by unfold crl; simp only [if_pos hx]
  unfold Pl.Dg.m
  rw [e, jn_m _ _ _ _ _ (by rw [jn_len]; simp; omega) (by rw [jn_len]; simp; omega), jn_m _ _ _ _ _ (by simp; omega) (by simp; omega)]
theorem crl_loop {d : Pl.Dg} (hd : Pl.Valid d) {x sg : Int} {ov : Bool} (hs : sg = 1 ∨ sg = -1) (hn : d.n + 1 ≤ 64) (hx : x < 0) : Pl.Valid (crl d x sg ov) := by
  obtain ⟨a1, a2, a3, a4, n1, n2, n3, n4, n5, n6⟩ := (kq d.n sg ov hs).bd
  have hm := crl_mloop hd.wf (x := x) (ov := ov) hs hx
  have hl := hd.wf.len
  refine Pl.Kd.loop hd (crl_kd hd.wf hs hn ?_ ?_) (fun h hh => ?_) ?_ ?_
  · rw [hm, if_neg (Ne.symm n1), if_neg n5, if_neg n4, if_pos rfl]
  · rw [hm, if_neg (Ne.symm n2), if_neg n6, if_pos rfl]
  · rw [hm, if_neg (by omega), if_neg (by omega), if_neg (by omega), if_neg (by omega), app_m (by omega)]; rfl
  · rw [hm, if_neg (Ne.symm n3), if_pos rfl]
  · rw [hm, if_pos rfl]
theorem valid_empty {l : Nat} (h : l ≤ 64) : Pl.Valid ⟨[], [], l⟩ :=
  ⟨⟨Nat.zero_le 64, rfl, h, fun c hc => absurd hc (Nat.not_lt_zero _), fun c hc => absurd hc (by show ¬ c < 4 * 0; omega), fun c hc => absurd hc (by show ¬ c < 4 * 0; omega), fun c hc => absurd hc (by show ¬ c < 4 * 0; omega), fun c hc => absurd hc (by show ¬ c < 4 * 0; omega)⟩, fun c hc => absurd hc (Nat.not_lt_zero _)⟩
end Go.Proofs.YtlffopdoeobgaaaGreatDoor
end

section
namespace Go.Proofs.YtlffopdoeobgaaaGreatDoor
open Go Go.RowKit
attribute [local go_sem ↓] Go.wp_at_zero Go.wp_at_succ
theorem mv_get : ∀ (ms : List Mv) (j : Nat) (z : Mv), ms[j]? = some z → ∀ (i : Nat) (u : Value), z.cells[i]? = some u → (mvs ms)[j * 5 + i]? = some u
  | [], j, z, h, _, _, _ => by cases h
  | m :: ms, 0, z, h, i, u, hu => by
    obtain rfl : m = z := by simpa using h
    have hi : i < m.cells.length := (List.getElem?_eq_some_iff.1 hu).1
    show (m.cells ++ mvs ms)[0 * 5 + i]? = some u
    rw [Nat.zero_mul, Nat.zero_add, List.getElem?_append_left hi, hu]
  | m :: ms, j + 1, z, h, i, u, hu => by
    have ih := mv_get ms j z (by simpa using h) i u hu
    show (m.cells ++ mvs ms)[(j + 1) * 5 + i]? = some u
    have e : m.cells.length = 5 := rfl
    rw [List.getElem?_append_right (by rw [e]; omega), e, ← ih]
    congr 1
    omega
theorem mv_val {w : World} {v : Value} {ms : List Mv} (h : MovesAt w v ms) : ∃ (A : Option Addr) (c : Nat), v = .slice A ms.length c ∧ (0 < ms.length → ∃ g, A = some ⟨g, 0, none⟩ ∧ g < w.heap.size ∧ ∀ (j : Nat) (z : Mv), ms[j]? = some z → ∀ (i : Nat) (u : Value), z.cells[i]? = some u → w.cell? ⟨g, j * 5 + i, none⟩ = some u) := by
  obtain ⟨base, h⟩ := h
  obtain ⟨A, c, rfl⟩ := owns_slice h
  refine ⟨A, c, rfl, fun hp => ?_⟩
  obtain ⟨g, cap, e, _, hg⟩ := World.ownsRow.form h hp
  injection e with e1 _ _
  subst e1
  refine ⟨g, rfl, hg, fun j z hz i u hu => ?_⟩
  have hj : j < ms.length := (List.getElem?_eq_some_iff.1 hz).1
  have hi : i < 5 := (List.getElem?_eq_some_iff.1 hu).1
  rw [World.ownsRow.cellAt h (j * 5 + i) (by omega)]
  exact mv_get ms j z hz i u hu
def MovesV (w : World) (A : Option Addr) (n : Nat) (ms : List Mv) : Prop := n = ms.length ∧ (0 < n → ∃ g, A = some ⟨g, 0, none⟩ ∧ g < w.heap.size ∧ ∀ (j : Nat) (z : Mv), ms[j]? = some z → ∀ (i : Nat) (u : Value), z.cells[i]? = some u → w.cell? ⟨g, j * 5 + i, none⟩ = some u)
theorem MovesAt.mv {w : World} {v : Value} {ms : List Mv} (h : MovesAt w v ms) : ∃ (A : Option Addr) (c : Nat), v = .slice A ms.length c ∧ MovesV w A ms.length ms := by
  obtain ⟨A, c, e, h2⟩ := mv_val h
  exact ⟨A, c, e, rfl, h2⟩
end Go.Proofs.YtlffopdoeobgaaaGreatDoor
end

section
namespace Go.Proofs.YtlffopdoeobgaaaGreatDoor
open Go Go.RowKit
attribute [local go_sem ↓] Go.wp_at_zero Go.wp_at_succ
section
variable {w W W' W2 : World} {vR vS : Value} {rs ss : List Mv} {m : Mv} {g n c : Nat}
theorem apart {v u : Value} (ne : ∀ g, v.ownBlock = some g → u.ownBlock = some g → False) : u.ownBlock = none ∨ u.ownBlock ≠ v.ownBlock := by
  cases hu : u.ownBlock with
  | none => exact .inl rfl
  | some g => exact .inr (fun e => ne g e.symm hu)
end
end Go.Proofs.YtlffopdoeobgaaaGreatDoor
end

section
namespace Go.Proofs.YtlffopdoeobgaaaGreatDoor
open Go Go.RowKit
attribute [local go_sem ↓] Go.wp_at_zero Go.wp_at_succ
theorem cl0 (A : Option Addr) (c : Nat) (w : World) : Calls Tryz.prog 59 #[.slice A 0 c] w fun e w' => ∃ (A' : Option Addr) (c' : Nat), e = .returned (.slice A' 0 c') ∧ Below w.heap.size w w' := by
  cases A with
  | none =>
    refine (Tryz.slices_Clone_int_nil 0 c w).mono ?_
    rintro e w' ⟨rfl, rfl⟩
    exact ⟨none, 0, rfl, Below.refl _ _⟩
  | some a =>
    refine (Tryz.slices_Clone_int_zero a c w).mono ?_
    rintro e w' ⟨v, rfl, own, _, hb⟩
    obtain ⟨A', c', rfl⟩ := owns_slice own
    exact ⟨A', c', rfl, hb⟩
set_option maxRecDepth 100000 in
set_option maxHeartbeats 2000000 in
theorem clone_zero (A B : Option Addr) (cp cq : Nat) (lp : Int) (w : World) :
    Calls Tryz.prog 31 #[.agg #[.slice A 0 cp, .slice B 0 cq, .int .i64 lp]] w fun e w' => ∃ (A9 B9 : Option Addr) (c8 c9 : Nat), e = .returned (.agg #[.slice A9 0 c8, .slice B9 0 c9, .int .i64 lp]) ∧ Below w.heap.size w w' := by
  have HGS := hide (GS.start w (.slice A 0 cp) (.slice B 0 cq) (.int .i64 lp) (.slice none 0 0) (.slice none 0 0) (.int .i64 0))
  go_enter Tryz.func31, Tryz.ntmps31
  go_wp2_with fail
  obtain ⟨V0, hV0⟩ : ∃ V : World, V = (w.alloc (.cells #[.slice A 0 cp, .slice B 0 cq, .int .i64 lp] 24)).alloc (.cells #[.slice none 0 0, .slice none 0 0, .int .i64 0] 24) := ⟨_, rfl⟩
  rw [← hV0] at HGS ⊢
  have hv0 : w.heap.size + 2 ≤ V0.heap.size := by rw [hV0]; simp
  clear hV0
  obtain ⟨c0, c1, c2, c3, c4, c5, c6, _⟩ := HGS.out.all
  go_region_held3 (fun w' => w'.cell? ⟨w.heap.size, 0, none⟩ = some (.slice A 0 cp) ∧ w'.cell? ⟨w.heap.size, 1, none⟩ = some (.slice B 0 cq) ∧ w'.cell? ⟨w.heap.size, 2, none⟩ = some (.int .i64 lp) ∧ w'.cell? ⟨w.heap.size + 1, 0, none⟩ = some (cv w' ⟨w.heap.size + 1, 0, none⟩) ∧ w'.cell? ⟨w.heap.size + 1, 1, none⟩ = some (cv w' ⟨w.heap.size + 1, 1, none⟩) ∧ w'.cell? ⟨w.heap.size + 1, 2, none⟩ = some (cv w' ⟨w.heap.size + 1, 2, none⟩) ∧ (∀ o, w'.frozen? ⟨w.heap.size + 1, o, none⟩ = false) ∧ GS w w.heap.size (.slice A 0 cp) (.slice B 0 cq) (.int .i64 lp) w')
    ((go_split_ands; refine GS.all ?_; (repeat (first | (with_reducible assumption) | (with_reducible exact HGS.out) | (with_reducible refine GS.set ?_ _ _) | (with_reducible refine GS.drew ?_) | (with_reducible refine GS.below ?_ hbb) | (with_reducible refine GS.below ?_ hba)))))
    (first
      | (have hxa := hba
         clear hxa
         go_at_call 59
         refine Calls.mono (cl0 B cq _) ?_
         rintro e wb ⟨Ab, kb, rfl, hbb⟩)
      | (go_at_call 59
         refine Calls.mono (cl0 A cp _) ?_
         rintro e wa ⟨Aa, ka, rfl, hba⟩))
  clear c0 c1 c2 c3 c4 c5 c6
  have G5 := hide ((HGS.out.drew.below hba).below hbb)
  go_wp2
  refine bodyPost_ret (v := .agg #[.slice Aa 0 ka, .slice Ab 0 kb, .int .i64 lp]) ?_ rfl ⟨Aa, Ab, ka, kb, rfl, ?_⟩
  · obtain ⟨e0, e1, e2⟩ := G5.out.fin (.slice Aa 0 ka) (.slice Ab 0 kb) (.int .i64 lp)
    simp [results, Tryz.results31, go_sem, e0, e1, e2]
  · exact ((G5.out.bel.setCell (by show _ ≤ w.heap.size + 1; omega) _).setCell (by show _ ≤ w.heap.size + 1; omega) _).setCell (by show _ ≤ w.heap.size + 1; omega) _
theorem clone_all (d : Pl.Dg) (A B : Option Addr) (cp cq m : Nat) (w : World) (hm : m = 4 * d.n) (hg : DgAt w A B d) (hn : d.n ≤ 64) :
    Calls Tryz.prog 31 #[.agg #[.slice A d.n cp, .slice B m cq, .int .i64 d.lp]] w fun e w' => ∃ (A9 B9 : Option Addr) (c8 c9 : Nat), e = .returned (.agg #[.slice A9 d.n c8, .slice B9 m c9, .int .i64 d.lp]) ∧ DgT w' A9 B9 d ∧ Below w.heap.size w w' := by
  rcases Nat.eq_zero_or_pos d.n with h0 | h0
  · have hs := hg.s.len
    have hmm := hg.m.len
    subst hm
    rw [h0] at hs hmm
    have := clone_zero A B cp cq d.lp w
    rw [h0]
    refine this.mono ?_
    rintro e w' ⟨A9, B9, c8, c9, rfl, hb⟩
    exact ⟨A9, B9, c8, c9, rfl, ⟨⟨by rw [h0]; simpa using hs, fun h => by omega⟩, ⟨by rw [h0]; simpa using hmm, fun h => by omega⟩⟩, hb⟩
  · refine (clone_any d A B cp cq m w hm hg ⟨h0, hn⟩).mono ?_
    rintro e w' ⟨g1, c1, g2, c2, rfl, o1, o2, _, hb⟩
    exact ⟨_, _, c1, c2, rfl, ⟨own_intsT o1, by rw [← hm]; exact o2.intsT⟩, hb⟩
end Go.Proofs.YtlffopdoeobgaaaGreatDoor
end

section
namespace Go.Proofs.YtlffopdoeobgaaaGreatDoor
open Go Go.RowKit
attribute [local go_sem ↓] Go.wp_at_zero Go.wp_at_succ
theorem row3 {W : World} {g : Nat} {t : TypeId} {vs : List Value} (h : Row W g t vs) (l : vs.length = 3) (y0 y1 y2 : Value) :
    Row (((W.setCell ⟨g, 0, none⟩ y0).setCell ⟨g, 1, none⟩ y1).setCell ⟨g, 2, none⟩ y2) g t [y0, y1, y2] := by
  obtain ⟨a, b, c, rfl⟩ : ∃ a b c, vs = [a, b, c] := by
    match vs, l with
    | [a, b, c], _ => exact ⟨a, b, c, rfl⟩
  exact ((h.set 0 y0).set 1 y1).set 2 y2
theorem DgT.set3 {W : World} {A B : Option Addr} {d : Pl.Dg} {g : Nat} {vs : List Value} (h : DgT W A B d) (hr : Row W g 24 vs) (y0 y1 y2 : Value) : DgT (((W.setCell ⟨g, 0, none⟩ y0).setCell ⟨g, 1, none⟩ y1).setCell ⟨g, 2, none⟩ y2) A B d :=
  ((h.store hr (by decide) y0).store (hr.set 0 y0) (by decide) y1).store ((hr.set 0 y0).set 1 y1) (by decide) y2
theorem below3 {w W : World} {g : Nat} (h : Below w.heap.size w W) (hg : w.heap.size ≤ g) (y0 y1 y2 : Value) : Below w.heap.size w (((W.setCell ⟨g, 0, none⟩ y0).setCell ⟨g, 1, none⟩ y1).setCell ⟨g, 2, none⟩ y2) :=
  ((h.setCell (by show _ ≤ g; exact hg) y0).setCell (by show _ ≤ g; exact hg) y1).setCell (by show _ ≤ g; exact hg) y2
end Go.Proofs.YtlffopdoeobgaaaGreatDoor
end

section
namespace Go.Proofs.YtlffopdoeobgaaaGreatDoor.Pl
variable {N : Nat} {S : Nat → Prop} {r a : Nat → Nat}
def cut2 (a : Nat → Nat) (u v : Nat) : Nat → Nat := tr (tr a u (a u)) v (a v)
def byp (a : Nat → Nat) (u v : Nat) : Nat → Nat := tr (cut2 a u v) (a u) (a v)
end Go.Proofs.YtlffopdoeobgaaaGreatDoor.Pl
end

section
namespace Go.Proofs.YtlffopdoeobgaaaGreatDoor.Pl
section
variable {N M : Nat} {S T : Nat → Prop} {r a r' a' t : Nat → Nat}
end
variable {gs : List Nat}
def gone (d : Dg) (gs : List Nat) (h : Nat) : Prop := h < 4 * d.n ∧ h / 4 ∈ gs
variable {d : Dg} {mt : List Nat} {lp : Nat} {b : Nat → Nat}
end Go.Proofs.YtlffopdoeobgaaaGreatDoor.Pl
end

section
namespace Go.Proofs.YtlffopdoeobgaaaGreatDoor.Pl
variable {d : Dg}
def cls (b : Nat → Nat) (u v : Nat) : Nat → Nat := if b u = v then b else byp b u v
section
variable {h u : Nat}
end
end Go.Proofs.YtlffopdoeobgaaaGreatDoor.Pl
end

section
namespace Go.Proofs.YtlffopdoeobgaaaGreatDoor
open Go Go.RowKit
theorem apC_zero {d : Pl.Dg} {m : Mv} (h : apC d m = 0) : (1 ≤ m.kind ∧ m.kind ≤ 5) ∧ inR d.n m ∧
    (if m.kind = 1 then curlableC d m.x else if m.kind = 2 then uncC d m.x.toNat else if m.kind = 3 then pkQ d m.x m.y m.sign else if m.kind = 4 then unpC d m.x.toNat m.y.toNat else sldC d m.x.toNat) = 0 := by
  unfold apC at h
  by_cases hk : m.kind < 1 ∨ 5 < m.kind
  · rw [if_pos hk] at h; exact absurd h (by decide)
  · rw [if_neg hk] at h
    by_cases hv : Pl.vb (inR d.n m) = false
    · rw [if_pos hv] at h; exact absurd h (by decide)
    · rw [if_neg hv] at h
      exact ⟨by omega, Pl.vb_iff.1 (by simpa using hv), h⟩
end Go.Proofs.YtlffopdoeobgaaaGreatDoor
end

section
namespace Go.Proofs.YtlffopdoeobgaaaGreatDoor
open Go Go.RowKit
attribute [local go_sem ↓] Go.wp_at_zero Go.wp_at_succ
section
variable {w W W' : World} {ga k : Nat} {most : Int} {d r : Pl.Dg} {cs : List Int} {l : List Mv} {v : Value} {A9 B9 : Option Addr} {n c8 m c9 lp : Nat}
end
theorem own_row_neM {W : World} {base b n : Nat} {t : TypeId} {v : Value} {xs vs : List Value} (h : W.ownsRow base 36 5 v n xs) (hr : Row W b t vs) (ht : 36 ≠ t) : some b ≠ v.ownBlock := by
  intro e
  obtain ⟨cs, fr, h3⟩ := ownsRow_block h b e.symm
  rw [hr] at h3
  injection h3 with h3
  injection h3 with _ h4
  exact ht h4.symm
end Go.Proofs.YtlffopdoeobgaaaGreatDoor
end

section
namespace Go.Proofs.YtlffopdoeobgaaaGreatDoor
open Go Go.RowKit
attribute [local go_sem ↓] Go.wp_at_zero Go.wp_at_succ
theorem elemI : Tryz.prog.underlying 22 = some (.slice (Tryz.prog.elem 22)) := by kernel_rfl
theorem sizeI (W : World) : (sizeOf (Tryz.prog.elem 22)).run Tryz.prog W = .ok 1 W := by kernel_rfl
theorem cut_hi {w : World} {A : Option Addr} {n c : Nat} {xs : List Int} (h : IntsAt w A n xs) {k : Nat} (hk : k ≤ n) (hc : n ≤ c) :
    ∃ A1 : Option Addr, IntsAt w A1 (n - k) (xs.drop k) ∧ ∀ W : World, (Instr.slice 22 (.slice A n c) (some (.int .i64 (k : Int))) none none).run Tryz.prog W = .ok (.slice A1 (n - k) (c - k)) W := by
  have hl := h.len
  refine ⟨if c = k then A else A.map (·.add (k * 1)), ⟨by simp; omega, fun hp => ?_⟩, fun W => ?_⟩
  · obtain ⟨b, o, rfl, hx⟩ := h.2 (by omega)
    rw [if_neg (by omega)]
    refine ⟨b, o + k, by simp [Addr.add_lit], fun j u hu => ?_⟩
    rw [List.map_drop, List.getElem?_drop] at hu
    rw [Nat.add_assoc]
    exact hx _ u hu
  · rw [run_slice_l W 22 A n c elemI .i64 (k : Int) (by omega) (by omega), sizeI]
    rfl
section
variable {P : Program} (w : World)
end
theorem movesV_own {w : World} {base n : Nat} {A : Option Addr} {c : Nat} {ms : List Mv} (h : w.ownsRow base 36 5 (.slice A n c) n (mvs ms)) (hn : n = ms.length) : MovesV w A n ms := by
  subst hn
  obtain ⟨A', c', e, h2⟩ := MovesAt.mv ⟨base, h⟩
  injection e with e1
  subst e1
  exact h2
end Go.Proofs.YtlffopdoeobgaaaGreatDoor
end

section
namespace Go.Proofs.YtlffopdoeobgaaaGreatDoor
open Go Go.RowKit
attribute [local go_sem ↓] Go.wp_at_zero Go.wp_at_succ
theorem own_cap {W : World} {base n c : Nat} {e : TypeId} {A : Option Addr} {xs : List Value} (h : W.ownsRow base e 1 (.slice A n c) n xs) : n ≤ c := by
  rcases h.2 with ⟨h1, h2⟩ | ⟨g, cap, cur, h1, _, _, h4, _⟩
  · omega
  · injection h1 with _ _ h1
    omega
end Go.Proofs.YtlffopdoeobgaaaGreatDoor
end

section
namespace Go.Proofs.YtlffopdoeobgaaaGreatDoor
open Go Go.RowKit
def IntT (W : World) (v : Value) (xs : List Int) : Prop := ∃ A c, v = .slice A xs.length c ∧ xs.length ≤ c ∧ RowT W 3 A xs.length (xs.map (.int .i64))
structure PcV (W : World) (vC vO : Value) (x : Int) (p : Pl.Pc) : Prop where
  c : IntT W vC p.code
  o : IntT W vO (nats p.order)
  r : x = p.roots
section
variable {W W' : World} {vC vO : Value} {x : Int} {p : Pl.Pc}
end
end Go.Proofs.YtlffopdoeobgaaaGreatDoor
end

section
namespace Go.Proofs.YtlffopdoeobgaaaGreatDoor
open Go Go.RowKit
attribute [local go_sem ↓] Go.wp_at_zero Go.wp_at_succ
theorem own_setNe {W : World} {base b n s : Nat} {e : TypeId} {v : Value} {xs : List Value} (h : W.ownsRow base e s v n xs) (hne : v.ownBlock ≠ some b) (o : Nat) (u : Value) : (W.setCell ⟨b, o, none⟩ u).ownsRow base e s v n xs := by
  refine ⟨h.1, ?_⟩
  rcases h.2 with hz | ⟨g, cap, cur, r1, r2, r3, r4⟩
  · exact .inl hz
  · refine .inr ⟨g, cap, cur, r1, r2, ?_, r4⟩
    have hgb : g ≠ b := fun e => hne (by rw [r1, e]; rfl)
    exact (Below.heap_setCell W ⟨b, o, none⟩ u g hgb).trans r3
def PcsV (W : World) : List Value → List Pl.Pc → Prop
  | [], [] => True
  | vC :: vO :: .int .i64 x :: r, p :: ps => PcV W vC vO x p ∧ PcsV W r ps
  | _, _ => False
section
variable {w W W' : World} {d : Pl.Dg} {ls : List Int} {P : Nat} {A : Option Addr} {vs dv : List Value} {j : Nat} {vL : Value} {cs : List Value} {ps : List Pl.Pc}
end
end Go.Proofs.YtlffopdoeobgaaaGreatDoor
end

section
namespace Go.Proofs.YtlffopdoeobgaaaGreatDoor
open Go Go.RowKit
attribute [local go_sem ↓] Go.wp_at_zero Go.wp_at_succ
structure SI (base : Nat) (w : World) (A : Option Addr) (n c : Nat) (cs : List Value) (ps : List Pl.Pc) (W : World) : Prop where
  own : W.ownsRow base 99 3 (.slice A n c) n cs
  pv : PcsV W cs ps
  len : ps.length = n
  bel : Below base w W
  big : base ≤ W.heap.size
end Go.Proofs.YtlffopdoeobgaaaGreatDoor
end

section
namespace Go.Proofs.YtlffopdoeobgaaaGreatDoor
open Go Go.RowKit
attribute [local go_sem ↓] Go.wp_at_zero Go.wp_at_succ
theorem below_itoa (w : World) (k : Nat) (os : Array Obj) : Below w.heap.size w («Sort».grow (w.drewN k) os) := by
  refine ⟨rfl, rfl, rfl, ?_, fun j hj => ?_⟩
  · show w.heap.size ≤ (w.heap ++ os).size
    rw [Array.size_append]; omega
  · show (w.heap ++ os)[j]? = w.heap[j]?
    rw [Array.getElem?_append_left hj]
structure GV (W : World) : Prop where
  m : ∃ m, W.cell? ⟨0, 0, none⟩ = some (.int .i64 m)
  tab : Lib.TabIs Tryz.prog W "internal/strconv.uint64pow10" .u64 Lib.pow10Tab
  e1 : ∃ ev, W.cell? ⟨1, 0, none⟩ = some ev ∧ (ev = .nilIface ∨ ∃ te pe, ev = .iface te pe)
  e2 : ∃ ev, W.cell? ⟨2, 0, none⟩ = some ev ∧ (ev = .nilIface ∨ ∃ te pe, ev = .iface te pe)
theorem GV.below {W W' : World} (h : GV W) (hb : Below W.heap.size W W') : GV W' := by
  obtain ⟨m, hm⟩ := h.m
  obtain ⟨v1, h1, h1'⟩ := h.e1
  obtain ⟨v2, h2, h2'⟩ := h.e2
  exact ⟨⟨m, cell_below hm hb⟩, Joins.tab_stays (g := 3) (by kernel_rfl) h.tab hb (Nat.le_refl _), ⟨v1, cell_below h1 hb, h1'⟩, ⟨v2, cell_below h2 hb, h2'⟩⟩
def numV (l : List UInt8) : Int := match Lib.atoiAll l with
  | .ok v => v
  | .syntax => 0
  | .range => Lib.atoiSat l
end Go.Proofs.YtlffopdoeobgaaaGreatDoor
end

section
namespace Go.Proofs.YtlffopdoeobgaaaGreatDoor
open Go Go.RowKit
attribute [local go_sem ↓] Go.wp_at_zero Go.wp_at_succ
theorem own_shrink {W : World} {base g n c : Nat} {e : TypeId} {xs : List Value} (h : W.ownsRow base e 1 (.slice (some ⟨g, 0, none⟩) (n + 1) c) (n + 1) xs) : W.ownsRow base e 1 (.slice (some ⟨g, 0, none⟩) n c) n xs.dropLast := by
  have hl : xs.length = n + 1 := by simpa using h.1
  refine ⟨by rw [List.length_dropLast]; omega, ?_⟩
  rcases h.2 with ⟨h1, _⟩ | ⟨g', cap, cur, h1, h2, h3, h4, h5, h6, h7⟩
  · cases h1
  · injection h1 with e1 e2 e3
    injection e1 with e1
    injection e1 with e1
    subst e1 e3
    refine .inr ⟨g, c, cur, rfl, h2, h3, by omega, h5, h6, ?_⟩
    rw [← h7, Nat.mul_one, Nat.mul_one, List.dropLast_eq_take, List.take_take, List.length_take]
    congr 1
    have : cur.toList.length = c * 1 := by simpa using h6
    omega
theorem cut_own (g n c : Nat) (hn : n ≤ c) (hc : c ≤ maxLen) (W : World) : (Instr.slice 22 (.slice (some ⟨g, 0, none⟩) (n + 1) c) none (some (.int .i64 (n : Int))) none).run Tryz.prog W = .ok (.slice (some ⟨g, 0, none⟩) n c) W := by
  unfold maxLen at hc
  rw [run_slice_h W 22 (some ⟨g, 0, none⟩) (n + 1) c elemI .i64 (n : Int) (by omega) (by omega), sizeI]
  by_cases h0 : c = 0
  · simp [sliced, h0]
  · simp [sliced, h0, Addr.add]
theorem own_capI {W : World} {base n c : Nat} {e : TypeId} {A : Option Addr} {xs : List Value} (h : W.ownsRow base e 1 (.slice A n c) n xs) (hn : 0 < n) : n ≤ c ∧ c ≤ maxLen := by
  rcases h.2 with ⟨h1, h2⟩ | ⟨g', cap, cur, h1, h2, h3, h4, h5, h6, h7⟩
  · omega
  · injection h1 with e1 e2 e3
    subst e3
    exact ⟨h4, h5⟩
end Go.Proofs.YtlffopdoeobgaaaGreatDoor
end

section
namespace Go.Proofs.YtlffopdoeobgaaaGreatDoor
open Go.ChangeShapes Go.WideShapes Go.ChangeAt Go.RowKit Go.Deep
section
variable {H : Type} {enc : TypeId × Value → H} {P : Program} {w : World} {base : Nat} {spare : Nat → Bool} {held : Bool}
theorem post_of_below {f : Func} {s : ChangeSpec} {apart fresh handsOn again : Bool} {W W' : World} {args : Array Value} {v : Value} {ds gs : List (DataW H)} {before pa pv : List MemPlace}
    (hW : DataW.Whole enc P f.params.toList s.vars apart W args.toList ds gs before)
    (hres : ∀ (b : Nat) (sp : Nat → Bool) (hd : Bool), DataW.TrodAll enc P W' b sp hd f.resultTypes.toList (v.resultList f.resultTypes.size) (s.fn H (ds ++ gs)).results [])
    (hargs : ∀ sp : Nat → Bool, (∀ p ∈ before, sp p.block = true) → DataW.TrodAll enc P W' 0 sp true f.params.toList args.toList (s.fn H (ds ++ gs)).args pa)
    (hvars : ∀ sp : Nat → Bool, (∀ p ∈ before, sp p.block = true) → DataW.TrodVars enc P W' sp s.vars (s.fn H (ds ++ gs)).vars pv)
    (hps : before = pa ++ pv) (hb : Below W.heap.size W W')
    (hok : ∀ (j : Nat) (t : TypeId) (r : Value), f.resultTypes[j]? = some t → (v.resultList f.resultTypes.size)[j]? = some r → Value.okWide P W' .any 0 t r) :
    s.post enc P f apart fresh handsOn again W args v W' := by
  have hlt : ∀ p ∈ before, p.block < W.heap.size := fun p hp => hW.lt p hp
  have hold : ∀ p ∈ before, (fun b => decide (b < W.heap.size)) p.block = true := fun p hp => by simpa using hlt p hp
  refine ⟨ds, gs, before, [], pa, pv, hW, hres _ _ _, hargs _ hold, hvars _ hold, World.keptBut_mono (fun p hp => ⟨hp, ?_⟩) (hb.frame (· ∈ before)), fun _ => ?_⟩
  · rw [hps, List.mem_append] at hp
    exact Or.inr hp
  · obtain ⟨_, _, _, _, _, hz, hn⟩ := hW
    refine ⟨hok, _, _, ([] ++ pa) ++ pv, ⟨[] ++ pa, pv, trodAll_append (hargs _ (fun _ _ => rfl)) (hres _ _ _), hvars _ (fun _ _ => rfl), rfl, ?_, ?_⟩, ?_⟩
    · intro b off hp
      have hin : MemPlace.cell b off ∈ before := by rw [hps]; simpa using hp
      rw [hb.frozen (hlt _ hin)]
      exact hz b off hin
    · intro ha
      have := hn ha
      rw [hps] at this
      simpa using this
    · intro p hp _
      rw [hps]
      simpa using hp
end
end Go.Proofs.YtlffopdoeobgaaaGreatDoor
end

section
namespace Go.Proofs.YtlffopdoeobgaaaGreatDoor
open Go Go.ChangeShapes Go.WideShapes Go.ChangeAt Go.RowKit Go.Deep
theorem spot_noneM {w : World} {a : Addr} {v : Value} (h : w.cell? a = some v) : a = ⟨a.block, a.off, none⟩ := by
  obtain ⟨b, o, sp⟩ := a
  cases sp with
  | none => rfl
  | some s =>
    unfold World.cell? at h
    simp only at h
    split at h
    · simp at h
    · cases h
theorem addr_formM {w : World} {a : Addr} {v : Value} (h : w.cell? (a.add 0) = some v) : ∃ b o, a = ⟨b, o, none⟩ := ⟨_, _, spot_noneM h⟩
section
variable {H : Type} {enc : TypeId × Value → H} {w : World} {base : Nat} {spare : Nat → Bool} {held : Bool} {fuel : Nat}
theorem int_of_trod {v : Value} {y : DataW H × List MemPlace} (h : DataW.trod enc Tryz.prog w base spare held fuel 3 [v] = some y) : ∃ n : Int, v = .int .i64 n ∧ -9223372036854775808 ≤ n ∧ n ≤ 9223372036854775807 := by
  obtain ⟨n, h1, _, hw⟩ := DataW.trod_int Tryz.underlying3 h
  obtain rfl : v = .int .i64 n := by simpa using h1
  refine ⟨n, rfl, ?_⟩
  simp only [Lit.wf, Bool.and_eq_true, decide_eq_true_eq] at hw
  have h1 : (IntKind.i64.min : Int) = -9223372036854775808 := by rfl
  have h2 : (IntKind.i64.max : Int) = 9223372036854775807 := by rfl
  rw [h1, h2] at hw
  exact hw
theorem bool_of_trod {v : Value} {y : DataW H × List MemPlace} (h : DataW.trod enc Tryz.prog w base spare held fuel 4 [v] = some y) : ∃ b : Bool, v = .bool b := by
  obtain ⟨b, h1, _⟩ := DataW.trod_bool Tryz.underlying4 h
  exact ⟨b, by simpa using h1⟩
end
end Go.Proofs.YtlffopdoeobgaaaGreatDoor
end

section
namespace Go.Proofs.YtlffopdoeobgaaaGreatDoor.Pl
def ln1 (l : List UInt8) : List UInt8 := l.takeWhile (fun c => c != 10)
def rs1 (l : List UInt8) : List UInt8 := (l.dropWhile (fun c => c != 10)).drop 1
def fd1 (l : List UInt8) : Bool := l.any (fun c => c == 10)
theorem ln1_found {l : List UInt8} (h : fd1 l = true) : l = ln1 l ++ 10 :: rs1 l := by
  induction l with
  | nil => simp [fd1] at h
  | cons c l ih =>
    by_cases hc : c = 10
    · subst hc
      simp [ln1, rs1]
    · have h' : fd1 l = true := by
        unfold fd1 at h ⊢
        rw [List.any_cons] at h
        simpa [hc] using h
      have e1 : ln1 (c :: l) = c :: ln1 l := by unfold ln1; rw [List.takeWhile_cons_of_pos (by simpa using hc)]
      have e2 : rs1 (c :: l) = rs1 l := by unfold rs1; rw [List.dropWhile_cons_of_pos (by simpa using hc)]
      rw [e1, e2, List.cons_append, ← ih h']
theorem ln1_whole {l : List UInt8} (h : fd1 l = false) : ln1 l = l ∧ rs1 l = [] ∧ (10 : UInt8) ∉ l := by
  induction l with
  | nil => simp [ln1, rs1]
  | cons c l ih =>
    unfold fd1 at h
    rw [List.any_cons, Bool.or_eq_false_iff] at h
    have hc : ¬ c = 10 := by simpa using h.1
    obtain ⟨h1, h2, h3⟩ := ih h.2
    have e1 : ln1 (c :: l) = c :: ln1 l := by unfold ln1; rw [List.takeWhile_cons_of_pos (by simpa using hc)]
    have e2 : rs1 (c :: l) = rs1 l := by unfold rs1; rw [List.dropWhile_cons_of_pos (by simpa using hc)]
    refine ⟨by rw [e1, h1], by rw [e2, h2], ?_⟩
    simp only [List.mem_cons, not_or]
    exact ⟨fun e => hc e.symm, h3⟩
theorem ln1_app {t r : List UInt8} (h : (10 : UInt8) ∉ t) : ln1 (t ++ 10 :: r) = t ∧ rs1 (t ++ 10 :: r) = r ∧ fd1 (t ++ 10 :: r) = true := by
  induction t with
  | nil => simp [ln1, rs1, fd1]
  | cons c t ih =>
    simp only [List.mem_cons, not_or] at h
    obtain ⟨h1, h2, h3⟩ := ih h.2
    have hc : ¬ c = 10 := fun e => h.1 e.symm
    refine ⟨?_, ?_, ?_⟩
    · show ln1 (c :: (t ++ 10 :: r)) = _
      unfold ln1 at h1 ⊢
      rw [List.takeWhile_cons_of_pos (by simpa using hc), h1]
    · show rs1 (c :: (t ++ 10 :: r)) = _
      unfold rs1 at h2 ⊢
      rw [List.dropWhile_cons_of_pos (by simpa using hc), h2]
    · show fd1 (c :: (t ++ 10 :: r)) = _
      unfold fd1 at h3 ⊢
      rw [List.any_cons, h3, Bool.or_true]
theorem rs1_lt {l : List UInt8} (h : fd1 l = true) : (rs1 l).length < l.length := by
  have := ln1_found h
  have h2 := congrArg List.length this
  rw [List.length_append, List.length_cons] at h2
  omega
section
variable {M : Type} (rd : List UInt8 → Option M) (ln : M → List UInt8)
def pmv : Nat → List UInt8 → Nat → List M → (Nat × Bool) ⊕ List M
  | 0, _, i, _ => .inl (i, false)
  | f + 1, l, i, acc => if l = [] then .inr acc else
      match rd (ln1 l) with
      | none => .inl (i, false)
      | some m => if fd1 l then pmv f (rs1 l) (i + 1) (acc ++ [m]) else .inl (i, true)
theorem pmv_fuel : ∀ (k j : Nat) (l : List UInt8) (i : Nat) (acc : List M), l.length < k → l.length < j → pmv rd k l i acc = pmv rd j l i acc
  | 0, _, _, _, _, h, _ => by omega
  | _ + 1, 0, _, _, _, _, h => by omega
  | k + 1, j + 1, l, i, acc, h1, h2 => by
    unfold pmv
    split
    · rfl
    · cases rd (ln1 l) with
      | none => rfl
      | some m =>
        dsimp only
        by_cases hf : fd1 l = true
        · have := rs1_lt hf
          rw [if_pos hf, if_pos hf]
          exact pmv_fuel k j _ _ _ (by omega) (by omega)
        · rw [if_neg hf, if_neg hf]
def pvA (l : List UInt8) (i : Nat) (acc : List M) : (Nat × Bool) ⊕ List M := pmv rd (l.length + 1) l i acc
variable {rd} {ln}
theorem pvA_nil (i : Nat) (acc : List M) : pvA rd [] i acc = .inr acc := rfl
theorem pvA_bad {l : List UInt8} {i : Nat} {acc : List M} (h : l ≠ []) (hr : rd (ln1 l) = none) : pvA rd l i acc = .inl (i, false) := by
  unfold pvA pmv
  rw [if_neg h, hr]
theorem pvA_end {l : List UInt8} {i : Nat} {acc : List M} {m : M} (h : l ≠ []) (hr : rd (ln1 l) = some m) (hf : fd1 l = false) : pvA rd l i acc = .inl (i, true) := by
  unfold pvA pmv
  rw [if_neg h, hr]
  simp [hf]
theorem pvA_step {l : List UInt8} {i : Nat} {acc : List M} {m : M} (hr : rd (ln1 l) = some m) (hf : fd1 l = true) : pvA rd l i acc = pvA rd (rs1 l) (i + 1) (acc ++ [m]) := by
  have h : l ≠ [] := by rintro rfl; simp [fd1] at hf
  have hl := rs1_lt hf
  unfold pvA
  rw [pmv, if_neg h, hr]
  dsimp only
  rw [if_pos hf]
  exact pmv_fuel rd _ _ _ _ _ (by omega) (by omega)
def fmA (ln : M → List UInt8) (ms : List M) : List UInt8 := ms.flatMap (fun m => ln m ++ [10])
theorem fmA_snoc (ms : List M) (m : M) : fmA ln (ms ++ [m]) = fmA ln ms ++ (ln m ++ [10]) := by simp [fmA]
theorem fmA_cons (ms : List M) (m : M) : fmA ln (m :: ms) = (ln m ++ [10]) ++ fmA ln ms := by simp [fmA]
theorem pvA_fmt : ∀ (ms : List M) (l : List UInt8) (i : Nat) (acc : List M), (∀ m, m ∈ ms → rd (ln m) = some m ∧ (10 : UInt8) ∉ ln m) → pvA rd (fmA ln ms ++ l) i acc = pvA rd l (i + ms.length) (acc ++ ms)
  | [], l, i, acc, _ => by simp [fmA]
  | m :: ms, l, i, acc, h => by
    obtain ⟨h1, h2⟩ := h m (by simp)
    have e : fmA ln (m :: ms) ++ l = ln m ++ 10 :: (fmA ln ms ++ l) := by rw [fmA_cons]; simp
    obtain ⟨a1, a2, a3⟩ := ln1_app (r := fmA ln ms ++ l) h2
    rw [e, pvA_step (m := m) (by rw [a1]; exact h1) a3, a2, pvA_fmt ms l (i + 1) (acc ++ [m]) (fun m' hm => h m' (by simp [hm]))]
    simp only [List.length_cons, List.append_assoc, List.singleton_append]
    congr 1
    omega
end
end Go.Proofs.YtlffopdoeobgaaaGreatDoor.Pl
end

section
namespace Go.Proofs.YtlffopdoeobgaaaGreatDoor
open Go Go.RowKit
attribute [local go_sem ↓] Go.wp_at_zero Go.wp_at_succ
structure RD (w : World) (gr gw ga gk gf gm gs : Nat) (ws : List ByteArray) (j : Nat) (ok : Bool) (mv : List Value) (W : World) : Prop where
  fr : Row W gr 36 [.int .i64 0, .int .i64 0, .int .i64 0, .int .i64 0, .bool false]
  fw : Row W gw 102 [.slice (some ⟨gs, 0, none⟩) ws.length ws.length]
  fa : Row W ga 3 [.int .i64 (j : Int)]
  fk : Row W gk 4 [.bool ok]
  ff : Row W gf 87 [.func (.func 78) #[] #[.pointer (some ⟨ga, 0, none⟩), .pointer (some ⟨gw, 0, none⟩), .pointer (some ⟨gk, 0, none⟩)]]
  fm : Row W gm 36 mv
  fs : Row W gs 9 (ws.map .string)
  nd : [gr, gw, ga, gk, gf, gm, gs].Nodup
  lo : ∀ g, g ∈ [gr, gw, ga, gk, gf, gm, gs] → w.heap.size ≤ g
  bel : Below w.heap.size w W
section
variable {w W W' : World} {gr gw ga gk gf gm gs : Nat} {ws : List ByteArray} {j : Nat} {ok : Bool} {mv : List Value}
theorem RD.below (h : RD w gr gw ga gk gf gm gs ws j ok mv W) (hb : Below W.heap.size W W') : RD w gr gw ga gk gf gm gs ws j ok mv W' :=
  ⟨h.fr.below hb, h.fw.below hb, h.fa.below hb, h.fk.below hb, h.ff.below hb, h.fm.below hb, h.fs.below hb, h.nd, h.lo, h.bel.trans (hb.mono h.bel.size)⟩
theorem RD.ne (h : RD w gr gw ga gk gf gm gs ws j ok mv W) : (gr ≠ ga ∧ gw ≠ ga ∧ gk ≠ ga ∧ gf ≠ ga ∧ gm ≠ ga ∧ gs ≠ ga) ∧ (gr ≠ gk ∧ gw ≠ gk ∧ ga ≠ gk ∧ gf ≠ gk ∧ gm ≠ gk ∧ gs ≠ gk) ∧ (gr ≠ gm ∧ gw ≠ gm ∧ ga ≠ gm ∧ gk ≠ gm ∧ gf ≠ gm ∧ gs ≠ gm) := by
  have nd := h.nd
  simp only [List.nodup_cons, List.mem_cons, not_or, List.not_mem_nil, not_false_iff, and_true, List.nodup_nil] at nd
  obtain ⟨⟨a1, a2, a3, a4, a5, a6⟩, ⟨b2, b3, b4, b5, b6⟩, ⟨c3, c4, c5, c6⟩, ⟨d4, d5, d6⟩, ⟨e5, e6⟩, f6⟩ := nd
  exact ⟨⟨a2, b2, Ne.symm c3, Ne.symm c4, Ne.symm c5, Ne.symm c6⟩, ⟨a3, b3, c3, Ne.symm d4, Ne.symm d5, Ne.symm d6⟩, ⟨a5, b5, c5, d5, e5, Ne.symm f6⟩⟩
theorem RD.setA (h : RD w gr gw ga gk gf gm gs ws j ok mv W) (i : Nat) : RD w gr gw ga gk gf gm gs ws i ok mv (W.setCell ⟨ga, 0, none⟩ (.int .i64 (i : Int))) := by
  obtain ⟨⟨a1, a2, a3, a4, a5, a6⟩, _⟩ := h.ne
  have lo := h.lo ga (by simp)
  exact ⟨h.fr.other (show _ ≠ ga from a1) _, h.fw.other (show _ ≠ ga from a2) _, h.fa.set 0 (.int .i64 (i : Int)), h.fk.other (show _ ≠ ga from a3) _, h.ff.other (show _ ≠ ga from a4) _, h.fm.other (show _ ≠ ga from a5) _, h.fs.other (show _ ≠ ga from a6) _, h.nd, h.lo, h.bel.setCell (by show _ ≤ ga; omega) _⟩
theorem RD.setK (h : RD w gr gw ga gk gf gm gs ws j ok mv W) (b : Bool) : RD w gr gw ga gk gf gm gs ws j b mv (W.setCell ⟨gk, 0, none⟩ (.bool b)) := by
  obtain ⟨_, ⟨a1, a2, a3, a4, a5, a6⟩, _⟩ := h.ne
  have lo := h.lo gk (by simp)
  exact ⟨h.fr.other (show _ ≠ gk from a1) _, h.fw.other (show _ ≠ gk from a2) _, h.fa.other (show _ ≠ gk from a3) _, h.fk.set 0 (.bool b), h.ff.other (show _ ≠ gk from a4) _, h.fm.other (show _ ≠ gk from a5) _, h.fs.other (show _ ≠ gk from a6) _, h.nd, h.lo, h.bel.setCell (by show _ ≤ gk; omega) _⟩
theorem RD.setM (h : RD w gr gw ga gk gf gm gs ws j ok mv W) (i : Nat) (v : Value) : RD w gr gw ga gk gf gm gs ws j ok (mv.set i v) (W.setCell ⟨gm, i, none⟩ v) := by
  obtain ⟨_, _, ⟨a1, a2, a3, a4, a5, a6⟩⟩ := h.ne
  have lo := h.lo gm (by simp)
  exact ⟨h.fr.other (show _ ≠ gm from a1) _, h.fw.other (show _ ≠ gm from a2) _, h.fa.other (show _ ≠ gm from a3) _, h.fk.other (show _ ≠ gm from a4) _, h.ff.other (show _ ≠ gm from a5) _, h.fm.set i v, h.fs.other (show _ ≠ gm from a6) _, h.nd, h.lo, h.bel.setCell (by show _ ≤ gm; omega) _⟩
end
def wd (ws : List ByteArray) (j : Nat) : ByteArray := ws.getD j ⟨#[]⟩
theorem row1 {W : World} {g : Nat} {t : TypeId} {a : Value} (h : Row W g t [a]) : W.cell? ⟨g, 0, none⟩ = some a ∧ ∀ o, W.frozen? ⟨g, o, none⟩ = false := ⟨h.cell (i := 0) (by simp), fun o => Row.free h o⟩
set_option maxRecDepth 100000 in
set_option maxHeartbeats 2000000 in
theorem word_any {w W : World} {gr gw ga gk gf gm gs : Nat} {ws : List ByteArray} {j : Nat} {ok : Bool} {mv : List Value} (h : RD w gr gw ga gk gf gm gs ws j ok mv W) (hj : j ≤ ws.length) (hn : ws.length ≤ 100000) :
    Calls Tryz.prog 78 #[.pointer (some ⟨ga, 0, none⟩), .pointer (some ⟨gw, 0, none⟩), .pointer (some ⟨gk, 0, none⟩)] W fun e W' => e = .returned (.string (wd ws j)) ∧ RD w gr gw ga gk gf gm gs ws (min (j + 1) ws.length) (ok && decide (j < ws.length)) mv W' := by
  have H := hide h
  obtain ⟨a0, a1⟩ := row1 h.fa
  obtain ⟨w0, w1⟩ := row1 h.fw
  obtain ⟨k0, k1⟩ := row1 h.fk
  obtain ⟨n, hnn⟩ : ∃ n, n = ws.length := ⟨_, rfl⟩
  have HN := hide hnn
  rw [← hnn] at w0 hj hn
  by_cases hk : j < n
  · have hlt : j < ws.length := by omega
    have HE : min (j + 1) ws.length = j + 1 := by omega
    have HK : (ok && decide (j < ws.length)) = ok := by rw [decide_eq_true (by omega), Bool.and_true]
    rw [HE, HK]
    clear HE HK
    have h1 := h.setA (j + 1)
    have H1 := hide h1
    obtain ⟨b0, b1⟩ := row1 h1.fa
    obtain ⟨v0, v1⟩ := row1 h1.fw
    rw [← hnn] at v0
    have s0 := h1.fs.cell (i := j) (by rw [List.length_map]; exact hlt)
    rw [List.getElem_map] at s0
    rw [show ws[j] = wd ws j by unfold wd; rw [List.getD_eq_getElem?_getD, List.getElem?_eq_getElem hlt]; simp] at s0
    obtain ⟨x, hx⟩ : ∃ x, x = wd ws j := ⟨_, rfl⟩
    rw [← hx] at s0 ⊢
    rw [show ((j + 1 : Nat) : Int) = (j : Int) + 1 by omega] at b0 b1 v0 v1 s0
    have hki : (j : Int) < (n : Int) := by omega
    have k0' : (0 : Int) ≤ (j : Int) := by omega
    have hne : ((j : Int) == (n : Int)) = false := by rw [beq_eq_false_iff_ne]; omega
    clear h h1 hnn hx hlt
    go_enter Tryz.func78, Tryz.ntmps78
    go_wp2
    go_ret
    exact ⟨rfl, H1.out⟩
  · have HE : min (j + 1) ws.length = j := by omega
    have HK : (ok && decide (j < ws.length)) = false := by rw [decide_eq_false (by omega), Bool.and_false]
    have HW : wd ws j = ⟨#[]⟩ := by unfold wd; rw [List.getD_eq_getElem?_getD, List.getElem?_eq_none (by omega)]; rfl
    rw [HE, HK, HW]
    clear HE HK HW
    have H1 := hide (h.setK false)
    obtain rfl : j = n := by omega
    clear h hnn
    go_enter Tryz.func78, Tryz.ntmps78
    go_wp2
    go_ret
    exact ⟨rfl, H1.out⟩
def numK (l : List UInt8) : Bool := match Lib.atoiAll l with
  | .ok _ => true
  | _ => false
set_option maxRecDepth 100000 in
set_option maxHeartbeats 2000000 in
theorem num_any {w W : World} {gr gw ga gk gf gm gs : Nat} {ws : List ByteArray} {j : Nat} {ok : Bool} {mv : List Value} (h : RD w gr gw ga gk gf gm gs ws j ok mv W) (hj : j ≤ ws.length) (hn : ws.length ≤ 100000) (hs : ∀ x, x ∈ ws → x.size ≤ 100000) (hg : GV w) :
    Calls Tryz.prog 79 #[.pointer (some ⟨gf, 0, none⟩), .pointer (some ⟨gk, 0, none⟩)] W fun e W' => e = .returned (.int .i64 (numV (wd ws j).data.toList)) ∧ RD w gr gw ga gk gf gm gs ws (min (j + 1) ws.length) ((ok && decide (j < ws.length)) && numK (wd ws j).data.toList) mv W' := by
  have H := hide h
  have HG := hide hg
  have hsz : (wd ws j).size ≤ 100000 := by
    unfold wd
    rw [List.getD_eq_getElem?_getD]
    by_cases hk : j < ws.length
    · rw [List.getElem?_eq_getElem hk]
      exact hs _ (List.getElem_mem _)
    · rw [List.getElem?_eq_none (by omega)]
      decide
  obtain ⟨f0, f1⟩ := row1 h.ff
  clear h hg hs
  go_enter Tryz.func79, Tryz.ntmps79
  go_wp2_with fail
  refine (word_any H.out hj hn).mono ?_
  rintro e w1 ⟨rfl, h1⟩
  have H1 := hide h1
  clear h1 f0 f1 hj
  match he : Lib.atoiAll (wd ws j).data.toList with
  | .ok v =>
    have HE := hide he
    have HN := hide (show numV (wd ws j).data.toList = v ∧ numK (wd ws j).data.toList = true by unfold numV numK; rw [he]; exact ⟨rfl, rfl⟩)
    clear he
    go_wp2_with fail
    refine (Tryz.strconv_Atoi_ok (wd ws j) (by omega) v HE.out _).mono ?_
    rintro e w2 ⟨rfl, hw⟩
    have B2 := hide (show Below w1.heap.size w1 w2 by
      rcases hw with rfl | ⟨t, rfl⟩
      · exact Below.refl _ _
      · exact Joins.below_bytesWorld _ _ _ _ (Nat.le_refl _))
    clear hw
    go_wp2
    go_ret
    exact ⟨by rw [HN.out.1]; rfl, by rw [HN.out.2, Bool.and_true]; exact H1.out.below B2.out⟩
  | .syntax =>
    have HE := hide he
    have HN := hide (show numV (wd ws j).data.toList = 0 ∧ numK (wd ws j).data.toList = false by unfold numV numK; rw [he]; exact ⟨rfl, rfl⟩)
    clear he
    obtain ⟨ev, h1, h2⟩ := (HG.out.below H1.out.bel).e1
    go_wp2_with fail
    refine (Tryz.strconv_Atoi_syntax (wd ws j) (by omega) HE.out ev _ h1 h2).mono ?_
    rintro e w2 ⟨N, rfl, hN, hc, hb⟩
    have H2 := hide (H1.out.below hb)
    obtain ⟨k0, k1⟩ := row1 H2.out.fk
    clear hN hc hb h1 h2
    go_wp2
    go_ret
    exact ⟨by rw [HN.out.1]; rfl, by rw [HN.out.2, Bool.and_false]; exact H2.out.setK false⟩
  | .range =>
    have HE := hide he
    have HN := hide (show numV (wd ws j).data.toList = Lib.atoiSat (wd ws j).data.toList ∧ numK (wd ws j).data.toList = false by unfold numV numK; rw [he]; exact ⟨rfl, rfl⟩)
    clear he
    obtain ⟨ev, h1, h2⟩ := (HG.out.below H1.out.bel).e2
    go_wp2_with fail
    refine (Tryz.strconv_Atoi_range (wd ws j) (by omega) HE.out ev _ h1 h2).mono ?_
    rintro e w2 ⟨N, rfl, hN, hc, hb⟩
    have H2 := hide (H1.out.below hb)
    obtain ⟨k0, k1⟩ := row1 H2.out.fk
    clear hN hc hb h1 h2
    go_wp2
    go_ret
    exact ⟨by rw [HN.out.1]; rfl, by rw [HN.out.2, Bool.and_false]; exact H2.out.setK false⟩
end Go.Proofs.YtlffopdoeobgaaaGreatDoor
end
