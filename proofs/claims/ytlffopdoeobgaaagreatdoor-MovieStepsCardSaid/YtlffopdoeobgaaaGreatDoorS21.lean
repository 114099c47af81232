/-
 The texts Nb in one.
-/
import Derived.Test.YtlffopdoeobgaaaGreatDoorS20
import Derived.Test.YtlffopdoeobgaaaGreatDoorS02
import Derived.Test.YtlffopdoeobgaaaGreatDoorS15
import Derived.Test.YtlffopdoeobgaaaGreatDoorS04
import Derived.Lib.Join
import Derived.Lib.ItoaLen
import Derived.Deep.RegionHeld3
import Derived.Deep.DeepCutAuto
import Derived.StillTailTactics
set_option linter.unusedVariables false
set_option linter.unusedSimpArgs false
section
namespace Go.Proofs.YtlffopdoeobgaaaGreatDoor
open Go Go.RowKit
attribute [local go_sem ↓] Go.wp_at_zero Go.wp_at_succ
def itB (v : Int) : ByteArray := ⟨(Lib.itoa v).toArray⟩
def sdB (o : Bool) : ByteArray := if o then ⟨#[111, 118, 101, 114]⟩ else ⟨#[117, 110, 100, 101, 114]⟩
def lnW (m : Mv) : List ByteArray :=
 if m.kind = 1 then [⟨#[99, 117, 114, 108]⟩, itB m.x, itB m.sign, sdB m.over]
 else if m.kind = 2 then [⟨#[117, 110, 99, 117, 114, 108]⟩, itB m.x]
 else if m.kind = 3 then [⟨#[112, 111, 107, 101]⟩, itB m.x, itB m.y, itB m.sign, sdB m.over]
 else if m.kind = 4 then [⟨#[117, 110, 112, 111, 107, 101]⟩, itB m.x, itB m.y]
 else if m.kind = 5 then [⟨#[115, 108, 105, 100, 101]⟩, itB m.x]
 else []
def lnT (m : Mv) : ByteArray := ⟨(Lib.join ((lnW m).map (·.data.toList)) [32]).toArray⟩
def lnB (m : Mv) : Bool :=
 if m.kind = 1 then decide (m.y = 0)
 else if m.kind = 2 then decide (m.y = 0) && decide (m.sign = 0) && !m.over
 else if m.kind = 3 then true
 else if m.kind = 4 then decide (m.sign = 0) && !m.over
 else if m.kind = 5 then decide (m.y = 0) && decide (m.sign = 0) && !m.over
 else false
theorem itoa_any (v : Int) (h0 : -9223372036854775808 ≤ v) (h1 : v ≤ 9223372036854775807) (w : World) (hg : GV w) :
 Calls Tryz.prog 104 #[.int .i64 v] w fun e w' => e = .returned (.string (itB v)) ∧ Below w.heap.size w w' := by
 refine (Tryz.strconv_Itoa v h0 h1 w hg.tab).mono ?_
 rintro e w' ⟨he, k, os, rfl⟩
 exact ⟨he, below_itoa w k os⟩
theorem row_owns {W : World} {base g n : Nat} {t : TypeId} {vs : List Value} (h : Row W g t vs) (hb : base ≤ g) (hn : vs.length = n) (hm : n ≤ maxLen) : W.ownsRow base t 1 (.slice (some ⟨g, 0, none⟩) n n) n vs :=
 ⟨by omega, .inr ⟨g, n, vs.toArray, rfl, hb, h, Nat.le_refl _, hm, by simp [hn], by simp only [Nat.mul_one]; rw [← hn, List.take_length]⟩⟩
theorem own_neT {W : World} {base b n sz : Nat} {e t : TypeId} {v : Value} {xs vs : List Value} (h : W.ownsRow base e sz v n xs) (hr : Row W b t vs) (ht : e ≠ t) : some b ≠ v.ownBlock := by
 intro e'
 obtain ⟨cs, fr, h3⟩ := ownsRow_block h b e'.symm
 rw [hr] at h3
 injection h3 with h3
 injection h3 with _ h4
 exact ht h4.symm
structure LNB (w : World) (gm gs g : Nat) (mv sh : List Value) (vW : Value) (ws : List Value) (W : World) : Prop where
 fm : Row W gm 36 mv
 fs : Row W gs 36 sh
 own : W.ownsRow g 9 1 vW ws.length ws
 ne : gm ≠ gs
 lo : w.heap.size ≤ gm ∧ w.heap.size ≤ gs ∧ w.heap.size ≤ g
 bel : Below w.heap.size w W
section
variable {w W W' : World} {gm gs g : Nat} {mv sh ws : List Value} {vW : Value}
theorem LNB.below (h : LNB w gm gs g mv sh vW ws W) (hb : Below W.heap.size W W') : LNB w gm gs g mv sh vW ws W' :=
 ⟨h.fm.below hb, h.fs.below hb, own_below h.own hb, h.ne, h.lo, h.bel.trans (hb.mono h.bel.size)⟩
theorem LNB.app (h : LNB w gm gs g mv sh vW ws W) {v' : Value} {ws' : List Value} (own : W'.ownsRow g 9 1 v' ws'.length ws') (gr : W.grownBy W' vW.ownBlock) : LNB w gm gs g mv sh v' ws' W' :=
 ⟨h.fm.grown gr (own_neT h.own h.fm (by decide)), h.fs.grown gr (own_neT h.own h.fs (by decide)), own, h.ne, h.lo, h.bel.grown gr h.bel.size (fun k hk => by have := (h.own.lt k hk).1; have := h.lo.2.2; omega)⟩
theorem LNB.setS (h : LNB w gm gs g mv sh vW ws W) (i : Nat) (v : Value) : LNB w gm gs g mv (sh.set i v) vW ws (W.setCell ⟨gs, i, none⟩ v) :=
 ⟨h.fm.other (show _ ≠ gs from h.ne) _, h.fs.set i v, own_setNe h.own (fun e => own_neT h.own h.fs (by decide) e.symm) _ _, h.ne, h.lo, h.bel.setCell (by show _ ≤ gs; exact h.lo.2.1) _⟩
end
theorem strInfo : (Tryz.prog.info? 9).map (fun i => (i.zero, i.size, i.bytes)) = some (some (.string ⟨#[]⟩), 1, 16) := by kernel_rfl
theorem news_at {t : TypeId} (W : World) (vs : List Value) : ∀ j u, vs[j]? = some u → (W.alloc (.cells vs.toArray t)).cell? ((⟨W.heap.size, 0, none⟩ : Addr).add j) = some u := by
 intro j u hu
 have hj : j < vs.length := (List.getElem?_eq_some_iff.1 hu).1
 have h := (row_at (W := W) (g := W.heap.size) (t := t) (vs := vs) rfl).cell (i := j) hj
 rw [show (⟨W.heap.size, 0, none⟩ : Addr).add j = ⟨W.heap.size, j, none⟩ by by_cases h : j = 0 <;> simp [Addr.add, h]]
 rw [h]
 rw [List.getElem?_eq_getElem hj] at hu
 exact hu
theorem itB_len (v : Int) (h0 : -9223372036854775808 ≤ v) (h1 : v ≤ 9223372036854775807) : (itB v).data.toList.length ≤ 30 := by
 have := Lib.itoa_length_le v h0 h1
 show (Lib.itoa v).toArray.toList.length ≤ 30
 simpa using Nat.le_trans this (by omega)
theorem join_small : ∀ (x : List UInt8) (r : List (List UInt8)) (n : Nat), x.length ≤ 30 → (∀ y, y ∈ r → y.length ≤ 30) → r.length ≤ n → (Lib.join (x :: r) [32]).length ≤ 30 + 31 * n := by
 intro x r n hx hr hn
 rw [Lib.join_cons, List.length_append]
 have key : ∀ (r : List (List UInt8)), (∀ y, y ∈ r → y.length ≤ 30) → (Lib.joinTail [32] r).length ≤ 31 * r.length := by
  intro r
  induction r with
  | nil => intro _; simp [Lib.joinTail]
  | cons y r ih =>
    intro h
    have h1 := ih (fun z hz => h z (by simp [hz]))
    have h2 := h y (by simp)
    unfold Lib.joinTail at h1 ⊢
    rw [List.map_cons, List.flatten_cons, List.length_append, List.length_append, List.length_cons, List.length_cons, List.length_nil]
    omega
 have := key r hr
 have h3 : 31 * r.length ≤ 31 * n := Nat.mul_le_mul_left _ hn
 omega
theorem own_str {W : World} {base g n c : Nat} {xs : List ByteArray} (h : W.ownsRow base 9 1 (.slice (some ⟨g, 0, none⟩) n c) n (xs.map .string)) : (∀ (j : Nat) x, xs[j]? = some x → W.cell? ⟨g, 0 + j, none⟩ = some (.string x)) ∧ g < W.heap.size := by
 refine ⟨fun j x hx => ?_, (h.lt g rfl).2⟩
 have hj : j < xs.length := (List.getElem?_eq_some_iff.1 hx).1
 have hl := h.1
 rw [List.length_map] at hl
 rw [Nat.zero_add, World.ownsRow.cellAt h _ (by omega), List.getElem?_map, hx]
 rfl
set_option maxRecDepth 100000 in
set_option maxHeartbeats 4000000 in
theorem line_1_true (x y s : Int) (w : World) (hg : GV w) (hx : -9223372036854775808 ≤ x ∧ x ≤ 9223372036854775807) (hy0 : -9223372036854775808 ≤ y ∧ y ≤ 9223372036854775807) (hs : -9223372036854775808 ≤ s ∧ s ≤ 9223372036854775807) :
 Calls Tryz.prog 53 #[.agg #[.int .i64 1, .int .i64 x, .int .i64 y, .int .i64 s, .bool true]] w fun e w' => e = .returned (.tuple #[.string (lnT ⟨1, x, y, s, true⟩), .bool (lnB ⟨1, x, y, s, true⟩)]) ∧ Below w.heap.size w w' := by
 have HG := hide hg
 clear hg
 have X0 := hide (row_at (W := w) (g := w.heap.size) (t := 36) (vs := [.int .i64 1, .int .i64 x, .int .i64 y, .int .i64 s, .bool true]) rfl)
 have B0 := hide (show Below w.heap.size w (w.alloc (.cells #[.int .i64 1, .int .i64 x, .int .i64 y, .int .i64 s, .bool true] 36)) from (Below.refl _ _).alloc (Nat.le_refl _) _)
 have HX := hide hx
 have HY := hide hy0
 have HS := hide hs
 clear hx hy0 hs
 go_enter Tryz.func53, Tryz.ntmps53
 go_wp2_with fail
 refine (itoa_any x HX.out.1 HX.out.2 _ (HG.out.below B0.out)).mono ?_
 rintro e w1 ⟨rfl, hb1⟩
 have X1 := hide (X0.out.below hb1)
 have B1 := hide (B0.out.trans (hb1.mono B0.out.size))
 clear hb1 X0 B0
 obtain ⟨d0, d1, d2, d3, d4, d5⟩ := box5 X1.out
 have hlt : w.heap.size < w1.heap.size := X1.out.lt
 go_upto_region 7 with fail
 obtain ⟨V, hV⟩ : ∃ V, V = (w1.alloc (.cells #[.string ⟨#[99, 117, 114, 108]⟩, .string (itB x)] 9)).alloc (.cells #[.int .i64 1, .int .i64 x, .int .i64 0, .int .i64 0, .bool false] 36) := ⟨_, rfl⟩
 obtain ⟨g, hg⟩ : ∃ g, g = w1.heap.size := ⟨_, rfl⟩
 obtain ⟨gs, hgs⟩ : ∃ gs, gs = w1.heap.size + 1 := ⟨_, rfl⟩
 obtain ⟨gm, hgm⟩ : ∃ gm, gm = w.heap.size := ⟨_, rfl⟩
 have L := hide (show LNB w gm gs g [.int .i64 1, .int .i64 x, .int .i64 y, .int .i64 s, .bool true] [.int .i64 1, .int .i64 x, .int .i64 0, .int .i64 0, .bool false] (.slice (some ⟨g, 0, none⟩) 2 2) [.string ⟨#[99, 117, 114, 108]⟩, .string (itB x)] V by
  rw [hV, hgs, hg, hgm]
  exact ⟨(X1.out.alloc _).alloc _, row_at (vs := [.int .i64 1, .int .i64 x, .int .i64 0, .int .i64 0, .bool false]) (by simp), row_owns ((row_at (vs := [.string ⟨#[99, 117, 114, 108]⟩, .string (itB x)]) rfl).alloc _) (Nat.le_refl _) rfl (by unfold maxLen; omega), by omega, ⟨by omega, by omega, by omega⟩, (B1.out.alloc B1.out.size _).alloc (by simp; have := B1.out.size; omega) _⟩)
 rw [← hV, ← hgs, ← hg, ← hgm]
 clear hV hgs hg hgm d0 d1 d2 d3 d4 d5 X1 B1 hlt
 obtain ⟨d0, d1, d2, d3, d4, d5⟩ := box5 L.out.fm
 obtain ⟨i0, hi0, hz0, hz1, hz2⟩ := info_parts strInfo
 go_wp2_with fail
 refine (itoa_any s HS.out.1 HS.out.2 _ (HG.out.below L.out.bel)).mono ?_
 rintro e w2 ⟨rfl, hb2⟩
 have L2 := hide (L.out.below (hb2.alloc hb2.size (.cells #[.string (itB s)] 9)))
 have hgl : g < w2.heap.size := by have := hb2.size; have := (L.out.own.lt g rfl).2; omega
 clear L d0 d1 d2 d3 d4 d5
 go_upto_region 8 with (at_builtin; refine wpList_append_lies _ (by rfl) _ _ 102 (by rfl) g 9 i0 (.string ⟨#[]⟩) 1 16 Tryz.underlying102 hi0 hz0 hz1 hz2 rfl (by omega) _ 2 _ (by rfl) L2.out.own ⟨w2.heap.size, 0, none⟩ 1 1 [.string (itB s)] (by rfl) (by rfl) (news_at _ _) (by simp [Value.oneCell']) (by omega) (by unfold maxLen; omega) (by omega) (by simp; omega) (w2.heap.size + 1) (by simp) ?_; intro g3 c3 w3 own3 grow3 at3 lt3; have L3 := hide (L2.out.app (ws' := ([⟨#[99, 117, 114, 108]⟩, itB x, itB s] : List ByteArray).map .string) own3 grow3); clear own3 grow3 at3 lt3)
 obtain ⟨d0, d1, d2, d3, d4, d5⟩ := box5 L3.out.fm
 obtain ⟨e0, e1, e2, e3, e4, e5⟩ := box5 L3.out.fs
 have hne : gm ≠ gs := L3.out.ne
 have L4 := hide ((L3.out.setS 3 (.int .i64 s)).setS 4 (.bool true))
 go_upto_region 26 with fail
 obtain ⟨V4, hV4⟩ : ∃ V, V = (w3.setCell ⟨gs, 3, none⟩ (.int .i64 s)).setCell ⟨gs, 4, none⟩ (.bool true) := ⟨_, rfl⟩
 rw [← hV4] at L4 ⊢
 clear L3
 have L4a := hide (L4.out.below ((Below.refl V4.heap.size V4).alloc (Nat.le_refl _) (.cells #[.string (sdB true)] 9)))
 have hgl4 : g < V4.heap.size := by have := (L4.out.own.lt g3 rfl).1; have := (L4.out.own.lt g3 rfl).2; omega
 clear hV4 L4 d0 d1 d2 d3 d4 d5 e0 e1 e2 e3 e4 e5
 go_upto_region 27 with (at_builtin; refine wpList_append_lies _ (by rfl) _ _ 102 (by rfl) g 9 i0 (.string ⟨#[]⟩) 1 16 Tryz.underlying102 hi0 hz0 hz1 hz2 rfl (by omega) _ 3 _ (by rfl) L4a.out.own ⟨V4.heap.size, 0, none⟩ 1 1 [.string (sdB true)] (by rfl) (by rfl) (news_at _ _) (by simp [Value.oneCell']) (by omega) (by unfold maxLen; omega) (by omega) (by simp; omega) (V4.heap.size + 1) (by simp) ?_; intro g5 c5 w5 own5 grow5 at5 lt5; have L5 := hide (L4a.out.app (ws' := ([⟨#[99, 117, 114, 108]⟩, itB x, itB s, sdB true] : List ByteArray).map .string) own5 grow5); clear own5 grow5 at5 lt5)
 obtain ⟨d0, d1, d2, d3, d4, d5⟩ := box5 L5.out.fm
 obtain ⟨e0, e1, e2, e3, e4, e5⟩ := box5 L5.out.fs
 have L6 := hide (L5.out.below (Below.refl w5.heap.size w5).drew)
 have hown := own_str (xs := [⟨#[99, 117, 114, 108]⟩, itB x, itB s, sdB true]) L6.out.own
 have HJ := hide hown.1
 have hjb := hown.2
 have hcap : 4 ≤ c5 := own_cap L5.out.own
 have HJL := hide (show (Lib.join (([⟨#[99, 117, 114, 108]⟩, itB x, itB s, sdB true] : List ByteArray).map (·.data.toList)) (⟨#[32]⟩ : ByteArray).data.toList).length ≤ 140737488355328 from Nat.le_trans (join_small _ _ 3 (by decide) (by
  intro z hz
  have h1 := itB_len x HX.out.1 HX.out.2
  have h2 := itB_len s HS.out.1 HS.out.2
  have h4 := itB_len y HY.out.1 HY.out.2
  have h3 : (sdB true).data.toList.length ≤ 30 ∧ (sdB false).data.toList.length ≤ 30 := by decide
  obtain ⟨h3, h3'⟩ := h3
  simp only [List.map_cons, List.map_nil, List.mem_cons, List.not_mem_nil, or_false] at hz
  rcases hz with rfl | rfl | rfl <;> assumption) (by simp)) (by omega))
 clear hown
 by_cases hy : y = 0
 ·subst hy
  go_region_held3 (fun w' => w'.cell? ⟨gm, 0, none⟩ = some (.int .i64 1) ∧ w'.cell? ⟨gm, 1, none⟩ = some (.int .i64 x) ∧ w'.cell? ⟨gm, 2, none⟩ = some (.int .i64 0) ∧ w'.cell? ⟨gm, 3, none⟩ = some (.int .i64 s) ∧ w'.cell? ⟨gm, 4, none⟩ = some (.bool true) ∧ w'.cell? ⟨gs, 0, none⟩ = some (.int .i64 1) ∧ w'.cell? ⟨gs, 1, none⟩ = some (.int .i64 x) ∧ w'.cell? ⟨gs, 2, none⟩ = some (.int .i64 0) ∧ w'.cell? ⟨gs, 3, none⟩ = some (.int .i64 s) ∧ w'.cell? ⟨gs, 4, none⟩ = some (.bool true))
   (first | go_keep | assumption | (exact ⟨k0, k1, k2, k3, k4, p0, p1, p2, p3, p4⟩))
   (first
   | (go_at_call 105
      refine Calls.mono (Tryz.strings_Join g5 0 c5 [⟨#[99, 117, 114, 108]⟩, itB x, itB s, sdB true] ⟨#[32]⟩ _ HJ.out hjb (by show 4 ≤ _; omega) hcap HJL.out) ?_
      rintro e w6 ⟨rfl, hb6⟩
      obtain ⟨k0, k1, k2, k3, k4, k5⟩ := box5 (L6.out.fm.below hb6)
      obtain ⟨p0, p1, p2, p3, p4, p5⟩ := box5 (L6.out.fs.below hb6)
      have HF := hide (L6.out.bel.trans (hb6.mono L6.out.bel.size))))
  all_goals (go_wp2_with fail)
  all_goals (go_ret2; exact ⟨rfl, HF.out⟩)
 ·have hy2 : ¬ (0 : Int) = y := fun e => hy e.symm
  have hy3 : ((0 : Int) == y) = false := by rw [beq_eq_false_iff_ne]; exact hy2
  have HB := hide (show lnB ⟨1, x, y, s, true⟩ = false by simp [lnB, *])
  go_region_held3 (fun w' => w'.cell? ⟨gm, 0, none⟩ = some (.int .i64 1) ∧ w'.cell? ⟨gm, 1, none⟩ = some (.int .i64 x) ∧ w'.cell? ⟨gm, 2, none⟩ = some (.int .i64 y) ∧ w'.cell? ⟨gm, 3, none⟩ = some (.int .i64 s) ∧ w'.cell? ⟨gm, 4, none⟩ = some (.bool true) ∧ w'.cell? ⟨gs, 0, none⟩ = some (.int .i64 1) ∧ w'.cell? ⟨gs, 1, none⟩ = some (.int .i64 x) ∧ w'.cell? ⟨gs, 2, none⟩ = some (.int .i64 0) ∧ w'.cell? ⟨gs, 3, none⟩ = some (.int .i64 s) ∧ w'.cell? ⟨gs, 4, none⟩ = some (.bool true))
   (first | go_keep | assumption | (exact ⟨k0, k1, k2, k3, k4, p0, p1, p2, p3, p4⟩))
   (first
   | (go_at_call 105
      refine Calls.mono (Tryz.strings_Join g5 0 c5 [⟨#[99, 117, 114, 108]⟩, itB x, itB s, sdB true] ⟨#[32]⟩ _ HJ.out hjb (by show 4 ≤ _; omega) hcap HJL.out) ?_
      rintro e w6 ⟨rfl, hb6⟩
      obtain ⟨k0, k1, k2, k3, k4, k5⟩ := box5 (L6.out.fm.below hb6)
      obtain ⟨p0, p1, p2, p3, p4, p5⟩ := box5 (L6.out.fs.below hb6)
      have HF := hide (L6.out.bel.trans (hb6.mono L6.out.bel.size))))
  all_goals (go_wp2_with fail)
  all_goals (go_ret2; exact ⟨by rw [HB.out]; rfl, HF.out⟩)
set_option maxRecDepth 100000 in
set_option maxHeartbeats 4000000 in
theorem line_1_false (x y s : Int) (w : World) (hg : GV w) (hx : -9223372036854775808 ≤ x ∧ x ≤ 9223372036854775807) (hy0 : -9223372036854775808 ≤ y ∧ y ≤ 9223372036854775807) (hs : -9223372036854775808 ≤ s ∧ s ≤ 9223372036854775807) :
 Calls Tryz.prog 53 #[.agg #[.int .i64 1, .int .i64 x, .int .i64 y, .int .i64 s, .bool false]] w fun e w' => e = .returned (.tuple #[.string (lnT ⟨1, x, y, s, false⟩), .bool (lnB ⟨1, x, y, s, false⟩)]) ∧ Below w.heap.size w w' := by
 have HG := hide hg
 clear hg
 have X0 := hide (row_at (W := w) (g := w.heap.size) (t := 36) (vs := [.int .i64 1, .int .i64 x, .int .i64 y, .int .i64 s, .bool false]) rfl)
 have B0 := hide (show Below w.heap.size w (w.alloc (.cells #[.int .i64 1, .int .i64 x, .int .i64 y, .int .i64 s, .bool false] 36)) from (Below.refl _ _).alloc (Nat.le_refl _) _)
 have HX := hide hx
 have HY := hide hy0
 have HS := hide hs
 clear hx hy0 hs
 go_enter Tryz.func53, Tryz.ntmps53
 go_wp2_with fail
 refine (itoa_any x HX.out.1 HX.out.2 _ (HG.out.below B0.out)).mono ?_
 rintro e w1 ⟨rfl, hb1⟩
 have X1 := hide (X0.out.below hb1)
 have B1 := hide (B0.out.trans (hb1.mono B0.out.size))
 clear hb1 X0 B0
 obtain ⟨d0, d1, d2, d3, d4, d5⟩ := box5 X1.out
 have hlt : w.heap.size < w1.heap.size := X1.out.lt
 go_upto_region 7 with fail
 obtain ⟨V, hV⟩ : ∃ V, V = (w1.alloc (.cells #[.string ⟨#[99, 117, 114, 108]⟩, .string (itB x)] 9)).alloc (.cells #[.int .i64 1, .int .i64 x, .int .i64 0, .int .i64 0, .bool false] 36) := ⟨_, rfl⟩
 obtain ⟨g, hg⟩ : ∃ g, g = w1.heap.size := ⟨_, rfl⟩
 obtain ⟨gs, hgs⟩ : ∃ gs, gs = w1.heap.size + 1 := ⟨_, rfl⟩
 obtain ⟨gm, hgm⟩ : ∃ gm, gm = w.heap.size := ⟨_, rfl⟩
 have L := hide (show LNB w gm gs g [.int .i64 1, .int .i64 x, .int .i64 y, .int .i64 s, .bool false] [.int .i64 1, .int .i64 x, .int .i64 0, .int .i64 0, .bool false] (.slice (some ⟨g, 0, none⟩) 2 2) [.string ⟨#[99, 117, 114, 108]⟩, .string (itB x)] V by
  rw [hV, hgs, hg, hgm]
  exact ⟨(X1.out.alloc _).alloc _, row_at (vs := [.int .i64 1, .int .i64 x, .int .i64 0, .int .i64 0, .bool false]) (by simp), row_owns ((row_at (vs := [.string ⟨#[99, 117, 114, 108]⟩, .string (itB x)]) rfl).alloc _) (Nat.le_refl _) rfl (by unfold maxLen; omega), by omega, ⟨by omega, by omega, by omega⟩, (B1.out.alloc B1.out.size _).alloc (by simp; have := B1.out.size; omega) _⟩)
 rw [← hV, ← hgs, ← hg, ← hgm]
 clear hV hgs hg hgm d0 d1 d2 d3 d4 d5 X1 B1 hlt
 obtain ⟨d0, d1, d2, d3, d4, d5⟩ := box5 L.out.fm
 obtain ⟨i0, hi0, hz0, hz1, hz2⟩ := info_parts strInfo
 go_wp2_with fail
 refine (itoa_any s HS.out.1 HS.out.2 _ (HG.out.below L.out.bel)).mono ?_
 rintro e w2 ⟨rfl, hb2⟩
 have L2 := hide (L.out.below (hb2.alloc hb2.size (.cells #[.string (itB s)] 9)))
 have hgl : g < w2.heap.size := by have := hb2.size; have := (L.out.own.lt g rfl).2; omega
 clear L d0 d1 d2 d3 d4 d5
 go_upto_region 8 with (at_builtin; refine wpList_append_lies _ (by rfl) _ _ 102 (by rfl) g 9 i0 (.string ⟨#[]⟩) 1 16 Tryz.underlying102 hi0 hz0 hz1 hz2 rfl (by omega) _ 2 _ (by rfl) L2.out.own ⟨w2.heap.size, 0, none⟩ 1 1 [.string (itB s)] (by rfl) (by rfl) (news_at _ _) (by simp [Value.oneCell']) (by omega) (by unfold maxLen; omega) (by omega) (by simp; omega) (w2.heap.size + 1) (by simp) ?_; intro g3 c3 w3 own3 grow3 at3 lt3; have L3 := hide (L2.out.app (ws' := ([⟨#[99, 117, 114, 108]⟩, itB x, itB s] : List ByteArray).map .string) own3 grow3); clear own3 grow3 at3 lt3)
 obtain ⟨d0, d1, d2, d3, d4, d5⟩ := box5 L3.out.fm
 obtain ⟨e0, e1, e2, e3, e4, e5⟩ := box5 L3.out.fs
 have hne : gm ≠ gs := L3.out.ne
 have L4 := hide ((L3.out.setS 3 (.int .i64 s)).setS 4 (.bool false))
 go_upto_region 26 with fail
 obtain ⟨V4, hV4⟩ : ∃ V, V = (w3.setCell ⟨gs, 3, none⟩ (.int .i64 s)).setCell ⟨gs, 4, none⟩ (.bool false) := ⟨_, rfl⟩
 rw [← hV4] at L4 ⊢
 clear L3
 have L4a := hide (L4.out.below ((Below.refl V4.heap.size V4).alloc (Nat.le_refl _) (.cells #[.string (sdB false)] 9)))
 have hgl4 : g < V4.heap.size := by have := (L4.out.own.lt g3 rfl).1; have := (L4.out.own.lt g3 rfl).2; omega
 clear hV4 L4 d0 d1 d2 d3 d4 d5 e0 e1 e2 e3 e4 e5
 go_upto_region 27 with (at_builtin; refine wpList_append_lies _ (by rfl) _ _ 102 (by rfl) g 9 i0 (.string ⟨#[]⟩) 1 16 Tryz.underlying102 hi0 hz0 hz1 hz2 rfl (by omega) _ 3 _ (by rfl) L4a.out.own ⟨V4.heap.size, 0, none⟩ 1 1 [.string (sdB false)] (by rfl) (by rfl) (news_at _ _) (by simp [Value.oneCell']) (by omega) (by unfold maxLen; omega) (by omega) (by simp; omega) (V4.heap.size + 1) (by simp) ?_; intro g5 c5 w5 own5 grow5 at5 lt5; have L5 := hide (L4a.out.app (ws' := ([⟨#[99, 117, 114, 108]⟩, itB x, itB s, sdB false] : List ByteArray).map .string) own5 grow5); clear own5 grow5 at5 lt5)
 obtain ⟨d0, d1, d2, d3, d4, d5⟩ := box5 L5.out.fm
 obtain ⟨e0, e1, e2, e3, e4, e5⟩ := box5 L5.out.fs
 have L6 := hide (L5.out.below (Below.refl w5.heap.size w5).drew)
 have hown := own_str (xs := [⟨#[99, 117, 114, 108]⟩, itB x, itB s, sdB false]) L6.out.own
 have HJ := hide hown.1
 have hjb := hown.2
 have hcap : 4 ≤ c5 := own_cap L5.out.own
 have HJL := hide (show (Lib.join (([⟨#[99, 117, 114, 108]⟩, itB x, itB s, sdB false] : List ByteArray).map (·.data.toList)) (⟨#[32]⟩ : ByteArray).data.toList).length ≤ 140737488355328 from Nat.le_trans (join_small _ _ 3 (by decide) (by
  intro z hz
  have h1 := itB_len x HX.out.1 HX.out.2
  have h2 := itB_len s HS.out.1 HS.out.2
  have h4 := itB_len y HY.out.1 HY.out.2
  have h3 : (sdB true).data.toList.length ≤ 30 ∧ (sdB false).data.toList.length ≤ 30 := by decide
  obtain ⟨h3, h3'⟩ := h3
  simp only [List.map_cons, List.map_nil, List.mem_cons, List.not_mem_nil, or_false] at hz
  rcases hz with rfl | rfl | rfl <;> assumption) (by simp)) (by omega))
 clear hown
 by_cases hy : y = 0
 ·subst hy
  go_region_held3 (fun w' => w'.cell? ⟨gm, 0, none⟩ = some (.int .i64 1) ∧ w'.cell? ⟨gm, 1, none⟩ = some (.int .i64 x) ∧ w'.cell? ⟨gm, 2, none⟩ = some (.int .i64 0) ∧ w'.cell? ⟨gm, 3, none⟩ = some (.int .i64 s) ∧ w'.cell? ⟨gm, 4, none⟩ = some (.bool false) ∧ w'.cell? ⟨gs, 0, none⟩ = some (.int .i64 1) ∧ w'.cell? ⟨gs, 1, none⟩ = some (.int .i64 x) ∧ w'.cell? ⟨gs, 2, none⟩ = some (.int .i64 0) ∧ w'.cell? ⟨gs, 3, none⟩ = some (.int .i64 s) ∧ w'.cell? ⟨gs, 4, none⟩ = some (.bool false))
   (first | go_keep | assumption | (exact ⟨k0, k1, k2, k3, k4, p0, p1, p2, p3, p4⟩))
   (first
   | (go_at_call 105
      refine Calls.mono (Tryz.strings_Join g5 0 c5 [⟨#[99, 117, 114, 108]⟩, itB x, itB s, sdB false] ⟨#[32]⟩ _ HJ.out hjb (by show 4 ≤ _; omega) hcap HJL.out) ?_
      rintro e w6 ⟨rfl, hb6⟩
      obtain ⟨k0, k1, k2, k3, k4, k5⟩ := box5 (L6.out.fm.below hb6)
      obtain ⟨p0, p1, p2, p3, p4, p5⟩ := box5 (L6.out.fs.below hb6)
      have HF := hide (L6.out.bel.trans (hb6.mono L6.out.bel.size))))
  all_goals (go_wp2_with fail)
  all_goals (go_ret2; exact ⟨rfl, HF.out⟩)
 ·have hy2 : ¬ (0 : Int) = y := fun e => hy e.symm
  have hy3 : ((0 : Int) == y) = false := by rw [beq_eq_false_iff_ne]; exact hy2
  have HB := hide (show lnB ⟨1, x, y, s, false⟩ = false by simp [lnB, *])
  go_region_held3 (fun w' => w'.cell? ⟨gm, 0, none⟩ = some (.int .i64 1) ∧ w'.cell? ⟨gm, 1, none⟩ = some (.int .i64 x) ∧ w'.cell? ⟨gm, 2, none⟩ = some (.int .i64 y) ∧ w'.cell? ⟨gm, 3, none⟩ = some (.int .i64 s) ∧ w'.cell? ⟨gm, 4, none⟩ = some (.bool false) ∧ w'.cell? ⟨gs, 0, none⟩ = some (.int .i64 1) ∧ w'.cell? ⟨gs, 1, none⟩ = some (.int .i64 x) ∧ w'.cell? ⟨gs, 2, none⟩ = some (.int .i64 0) ∧ w'.cell? ⟨gs, 3, none⟩ = some (.int .i64 s) ∧ w'.cell? ⟨gs, 4, none⟩ = some (.bool false))
   (first | go_keep | assumption | (exact ⟨k0, k1, k2, k3, k4, p0, p1, p2, p3, p4⟩))
   (first
   | (go_at_call 105
      refine Calls.mono (Tryz.strings_Join g5 0 c5 [⟨#[99, 117, 114, 108]⟩, itB x, itB s, sdB false] ⟨#[32]⟩ _ HJ.out hjb (by show 4 ≤ _; omega) hcap HJL.out) ?_
      rintro e w6 ⟨rfl, hb6⟩
      obtain ⟨k0, k1, k2, k3, k4, k5⟩ := box5 (L6.out.fm.below hb6)
      obtain ⟨p0, p1, p2, p3, p4, p5⟩ := box5 (L6.out.fs.below hb6)
      have HF := hide (L6.out.bel.trans (hb6.mono L6.out.bel.size))))
  all_goals (go_wp2_with fail)
  all_goals (go_ret2; exact ⟨by rw [HB.out]; rfl, HF.out⟩)
set_option maxRecDepth 100000 in
set_option maxHeartbeats 4000000 in
theorem line_2 (x y s : Int) (o : Bool) (w : World) (hg : GV w) (hx : -9223372036854775808 ≤ x ∧ x ≤ 9223372036854775807) (hy0 : -9223372036854775808 ≤ y ∧ y ≤ 9223372036854775807) (hs : -9223372036854775808 ≤ s ∧ s ≤ 9223372036854775807) :
 Calls Tryz.prog 53 #[.agg #[.int .i64 2, .int .i64 x, .int .i64 y, .int .i64 s, .bool o]] w fun e w' => e = .returned (.tuple #[.string (lnT ⟨2, x, y, s, o⟩), .bool (lnB ⟨2, x, y, s, o⟩)]) ∧ Below w.heap.size w w' := by
 have HG := hide hg
 clear hg
 have X0 := hide (row_at (W := w) (g := w.heap.size) (t := 36) (vs := [.int .i64 2, .int .i64 x, .int .i64 y, .int .i64 s, .bool o]) rfl)
 have B0 := hide (show Below w.heap.size w (w.alloc (.cells #[.int .i64 2, .int .i64 x, .int .i64 y, .int .i64 s, .bool o] 36)) from (Below.refl _ _).alloc (Nat.le_refl _) _)
 have HX := hide hx
 have HY := hide hy0
 have HS := hide hs
 clear hx hy0 hs
 go_enter Tryz.func53, Tryz.ntmps53
 go_wp2_with fail
 refine (itoa_any x HX.out.1 HX.out.2 _ (HG.out.below B0.out)).mono ?_
 rintro e w1 ⟨rfl, hb1⟩
 have X1 := hide (X0.out.below hb1)
 have B1 := hide (B0.out.trans (hb1.mono B0.out.size))
 clear hb1 X0 B0
 obtain ⟨d0, d1, d2, d3, d4, d5⟩ := box5 X1.out
 have hlt : w.heap.size < w1.heap.size := X1.out.lt
 go_upto_region 27 with fail
 obtain ⟨V, hV⟩ : ∃ V, V = (w1.alloc (.cells #[.string ⟨#[117, 110, 99, 117, 114, 108]⟩, .string (itB x)] 9)).alloc (.cells #[.int .i64 2, .int .i64 x, .int .i64 0, .int .i64 0, .bool false] 36) := ⟨_, rfl⟩
 obtain ⟨g, hg⟩ : ∃ g, g = w1.heap.size := ⟨_, rfl⟩
 obtain ⟨gs, hgs⟩ : ∃ gs, gs = w1.heap.size + 1 := ⟨_, rfl⟩
 obtain ⟨gm, hgm⟩ : ∃ gm, gm = w.heap.size := ⟨_, rfl⟩
 have L := hide (show LNB w gm gs g [.int .i64 2, .int .i64 x, .int .i64 y, .int .i64 s, .bool o] [.int .i64 2, .int .i64 x, .int .i64 0, .int .i64 0, .bool false] (.slice (some ⟨g, 0, none⟩) 2 2) [.string ⟨#[117, 110, 99, 117, 114, 108]⟩, .string (itB x)] V by
  rw [hV, hgs, hg, hgm]
  exact ⟨(X1.out.alloc _).alloc _, row_at (vs := [.int .i64 2, .int .i64 x, .int .i64 0, .int .i64 0, .bool false]) (by simp), row_owns ((row_at (vs := [.string ⟨#[117, 110, 99, 117, 114, 108]⟩, .string (itB x)]) rfl).alloc _) (Nat.le_refl _) rfl (by unfold maxLen; omega), by omega, ⟨by omega, by omega, by omega⟩, (B1.out.alloc B1.out.size _).alloc (by simp; have := B1.out.size; omega) _⟩)
 rw [← hV, ← hgs, ← hg, ← hgm]
 clear hV hgs hg hgm d0 d1 d2 d3 d4 d5 X1 B1 hlt
 obtain ⟨d0, d1, d2, d3, d4, d5⟩ := box5 L.out.fm
 obtain ⟨i0, hi0, hz0, hz1, hz2⟩ := info_parts strInfo
 obtain ⟨w5, hw5⟩ : ∃ z, z = V := ⟨_, rfl⟩
 obtain ⟨g5, hg5⟩ : ∃ z, z = g := ⟨_, rfl⟩
 obtain ⟨c5, hc5⟩ : ∃ z, z = 2 := ⟨_, rfl⟩
 have L5 := hide (show LNB w gm gs g [.int .i64 2, .int .i64 x, .int .i64 y, .int .i64 s, .bool o] [.int .i64 2, .int .i64 x, .int .i64 0, .int .i64 0, .bool false] (.slice (some ⟨g5, 0, none⟩) 2 c5) (([⟨#[117, 110, 99, 117, 114, 108]⟩, itB x] : List ByteArray).map .string) w5 by rw [hw5, hg5, hc5]; exact L.out)
 rw [← hw5]
 rw [← hg5]
 rw [show (Value.slice (some ⟨g5, 0, none⟩) 2 2) = Value.slice (some ⟨g5, 0, none⟩) 2 c5 by rw [hc5]]
 clear hw5 hg5 hc5 L d0 d1 d2 d3 d4 d5
 obtain ⟨d0, d1, d2, d3, d4, d5⟩ := box5 L5.out.fm
 obtain ⟨e0, e1, e2, e3, e4, e5⟩ := box5 L5.out.fs
 have L6 := hide (L5.out.below (Below.refl w5.heap.size w5).drew)
 have hown := own_str (xs := [⟨#[117, 110, 99, 117, 114, 108]⟩, itB x]) L6.out.own
 have HJ := hide hown.1
 have hjb := hown.2
 have hcap : 2 ≤ c5 := own_cap L5.out.own
 have HJL := hide (show (Lib.join (([⟨#[117, 110, 99, 117, 114, 108]⟩, itB x] : List ByteArray).map (·.data.toList)) (⟨#[32]⟩ : ByteArray).data.toList).length ≤ 140737488355328 from Nat.le_trans (join_small _ _ 1 (by decide) (by
  intro z hz
  have h1 := itB_len x HX.out.1 HX.out.2
  have h2 := itB_len s HS.out.1 HS.out.2
  have h4 := itB_len y HY.out.1 HY.out.2
  have h3 : (sdB true).data.toList.length ≤ 30 ∧ (sdB false).data.toList.length ≤ 30 := by decide
  obtain ⟨h3, h3'⟩ := h3
  simp only [List.map_cons, List.map_nil, List.mem_cons, List.not_mem_nil, or_false] at hz
  rcases hz with rfl <;> assumption) (by simp)) (by omega))
 clear hown
 by_cases hy : y = 0
 ·subst hy
  by_cases hs : s = 0
  ·subst hs
   cases o with
   | false =>
     go_region_held3 (fun w' => w'.cell? ⟨gm, 0, none⟩ = some (.int .i64 2) ∧ w'.cell? ⟨gm, 1, none⟩ = some (.int .i64 x) ∧ w'.cell? ⟨gm, 2, none⟩ = some (.int .i64 0) ∧ w'.cell? ⟨gm, 3, none⟩ = some (.int .i64 0) ∧ w'.cell? ⟨gm, 4, none⟩ = some (.bool false) ∧ w'.cell? ⟨gs, 0, none⟩ = some (.int .i64 2) ∧ w'.cell? ⟨gs, 1, none⟩ = some (.int .i64 x) ∧ w'.cell? ⟨gs, 2, none⟩ = some (.int .i64 0) ∧ w'.cell? ⟨gs, 3, none⟩ = some (.int .i64 0) ∧ w'.cell? ⟨gs, 4, none⟩ = some (.bool false))
      (first | go_keep | assumption | (exact ⟨k0, k1, k2, k3, k4, p0, p1, p2, p3, p4⟩))
      (first
      | (go_at_call 105
         refine Calls.mono (Tryz.strings_Join g5 0 c5 [⟨#[117, 110, 99, 117, 114, 108]⟩, itB x] ⟨#[32]⟩ _ HJ.out hjb (by show 2 ≤ _; omega) hcap HJL.out) ?_
         rintro e w6 ⟨rfl, hb6⟩
         obtain ⟨k0, k1, k2, k3, k4, k5⟩ := box5 (L6.out.fm.below hb6)
         obtain ⟨p0, p1, p2, p3, p4, p5⟩ := box5 (L6.out.fs.below hb6)
         have HF := hide (L6.out.bel.trans (hb6.mono L6.out.bel.size))))
     all_goals (go_wp2_with fail)
     all_goals (go_ret2; exact ⟨rfl, HF.out⟩)
   | true =>
     have HB := hide (show lnB ⟨2, x, 0, 0, true⟩ = false by simp [lnB, *])
     go_region_held3 (fun w' => w'.cell? ⟨gm, 0, none⟩ = some (.int .i64 2) ∧ w'.cell? ⟨gm, 1, none⟩ = some (.int .i64 x) ∧ w'.cell? ⟨gm, 2, none⟩ = some (.int .i64 0) ∧ w'.cell? ⟨gm, 3, none⟩ = some (.int .i64 0) ∧ w'.cell? ⟨gm, 4, none⟩ = some (.bool true) ∧ w'.cell? ⟨gs, 0, none⟩ = some (.int .i64 2) ∧ w'.cell? ⟨gs, 1, none⟩ = some (.int .i64 x) ∧ w'.cell? ⟨gs, 2, none⟩ = some (.int .i64 0) ∧ w'.cell? ⟨gs, 3, none⟩ = some (.int .i64 0) ∧ w'.cell? ⟨gs, 4, none⟩ = some (.bool false))
      (first | go_keep | assumption | (exact ⟨k0, k1, k2, k3, k4, p0, p1, p2, p3, p4⟩))
      (first
      | (go_at_call 105
         refine Calls.mono (Tryz.strings_Join g5 0 c5 [⟨#[117, 110, 99, 117, 114, 108]⟩, itB x] ⟨#[32]⟩ _ HJ.out hjb (by show 2 ≤ _; omega) hcap HJL.out) ?_
         rintro e w6 ⟨rfl, hb6⟩
         obtain ⟨k0, k1, k2, k3, k4, k5⟩ := box5 (L6.out.fm.below hb6)
         obtain ⟨p0, p1, p2, p3, p4, p5⟩ := box5 (L6.out.fs.below hb6)
         have HF := hide (L6.out.bel.trans (hb6.mono L6.out.bel.size))))
     all_goals (go_wp2_with fail)
     all_goals (go_ret2; exact ⟨by rw [HB.out]; rfl, HF.out⟩)
  ·have hs2 : ¬ (0 : Int) = s := fun e => hs e.symm
   have hs3 : ((0 : Int) == s) = false := by rw [beq_eq_false_iff_ne]; exact hs2
   have HB := hide (show lnB ⟨2, x, 0, s, o⟩ = false by simp [lnB, *])
   go_region_held3 (fun w' => w'.cell? ⟨gm, 0, none⟩ = some (.int .i64 2) ∧ w'.cell? ⟨gm, 1, none⟩ = some (.int .i64 x) ∧ w'.cell? ⟨gm, 2, none⟩ = some (.int .i64 0) ∧ w'.cell? ⟨gm, 3, none⟩ = some (.int .i64 s) ∧ w'.cell? ⟨gm, 4, none⟩ = some (.bool o) ∧ w'.cell? ⟨gs, 0, none⟩ = some (.int .i64 2) ∧ w'.cell? ⟨gs, 1, none⟩ = some (.int .i64 x) ∧ w'.cell? ⟨gs, 2, none⟩ = some (.int .i64 0) ∧ w'.cell? ⟨gs, 3, none⟩ = some (.int .i64 0) ∧ w'.cell? ⟨gs, 4, none⟩ = some (.bool false))
    (first | go_keep | assumption | (exact ⟨k0, k1, k2, k3, k4, p0, p1, p2, p3, p4⟩))
    (first
    | (go_at_call 105
       refine Calls.mono (Tryz.strings_Join g5 0 c5 [⟨#[117, 110, 99, 117, 114, 108]⟩, itB x] ⟨#[32]⟩ _ HJ.out hjb (by show 2 ≤ _; omega) hcap HJL.out) ?_
       rintro e w6 ⟨rfl, hb6⟩
       obtain ⟨k0, k1, k2, k3, k4, k5⟩ := box5 (L6.out.fm.below hb6)
       obtain ⟨p0, p1, p2, p3, p4, p5⟩ := box5 (L6.out.fs.below hb6)
       have HF := hide (L6.out.bel.trans (hb6.mono L6.out.bel.size))))
   all_goals (go_wp2_with fail)
   all_goals (go_ret2; exact ⟨by rw [HB.out]; rfl, HF.out⟩)
 ·have hy2 : ¬ (0 : Int) = y := fun e => hy e.symm
  have hy3 : ((0 : Int) == y) = false := by rw [beq_eq_false_iff_ne]; exact hy2
  have HB := hide (show lnB ⟨2, x, y, s, o⟩ = false by simp [lnB, *])
  go_region_held3 (fun w' => w'.cell? ⟨gm, 0, none⟩ = some (.int .i64 2) ∧ w'.cell? ⟨gm, 1, none⟩ = some (.int .i64 x) ∧ w'.cell? ⟨gm, 2, none⟩ = some (.int .i64 y) ∧ w'.cell? ⟨gm, 3, none⟩ = some (.int .i64 s) ∧ w'.cell? ⟨gm, 4, none⟩ = some (.bool o) ∧ w'.cell? ⟨gs, 0, none⟩ = some (.int .i64 2) ∧ w'.cell? ⟨gs, 1, none⟩ = some (.int .i64 x) ∧ w'.cell? ⟨gs, 2, none⟩ = some (.int .i64 0) ∧ w'.cell? ⟨gs, 3, none⟩ = some (.int .i64 0) ∧ w'.cell? ⟨gs, 4, none⟩ = some (.bool false))
   (first | go_keep | assumption | (exact ⟨k0, k1, k2, k3, k4, p0, p1, p2, p3, p4⟩))
   (first
   | (go_at_call 105
      refine Calls.mono (Tryz.strings_Join g5 0 c5 [⟨#[117, 110, 99, 117, 114, 108]⟩, itB x] ⟨#[32]⟩ _ HJ.out hjb (by show 2 ≤ _; omega) hcap HJL.out) ?_
      rintro e w6 ⟨rfl, hb6⟩
      obtain ⟨k0, k1, k2, k3, k4, k5⟩ := box5 (L6.out.fm.below hb6)
      obtain ⟨p0, p1, p2, p3, p4, p5⟩ := box5 (L6.out.fs.below hb6)
      have HF := hide (L6.out.bel.trans (hb6.mono L6.out.bel.size))))
  all_goals (go_wp2_with fail)
  all_goals (go_ret2; exact ⟨by rw [HB.out]; rfl, HF.out⟩)
set_option maxRecDepth 100000 in
set_option maxHeartbeats 4000000 in
theorem line_3_true (x y s : Int) (w : World) (hg : GV w) (hx : -9223372036854775808 ≤ x ∧ x ≤ 9223372036854775807) (hy0 : -9223372036854775808 ≤ y ∧ y ≤ 9223372036854775807) (hs : -9223372036854775808 ≤ s ∧ s ≤ 9223372036854775807) :
 Calls Tryz.prog 53 #[.agg #[.int .i64 3, .int .i64 x, .int .i64 y, .int .i64 s, .bool true]] w fun e w' => e = .returned (.tuple #[.string (lnT ⟨3, x, y, s, true⟩), .bool (lnB ⟨3, x, y, s, true⟩)]) ∧ Below w.heap.size w w' := by
 have HG := hide hg
 clear hg
 have X0 := hide (row_at (W := w) (g := w.heap.size) (t := 36) (vs := [.int .i64 3, .int .i64 x, .int .i64 y, .int .i64 s, .bool true]) rfl)
 have B0 := hide (show Below w.heap.size w (w.alloc (.cells #[.int .i64 3, .int .i64 x, .int .i64 y, .int .i64 s, .bool true] 36)) from (Below.refl _ _).alloc (Nat.le_refl _) _)
 have HX := hide hx
 have HY := hide hy0
 have HS := hide hs
 clear hx hy0 hs
 go_enter Tryz.func53, Tryz.ntmps53
 go_wp2_with fail
 refine (itoa_any x HX.out.1 HX.out.2 _ (HG.out.below B0.out)).mono ?_
 rintro e w1 ⟨rfl, hb1⟩
 have X1 := hide (X0.out.below hb1)
 have B1 := hide (B0.out.trans (hb1.mono B0.out.size))
 clear hb1 X0 B0
 obtain ⟨d0, d1, d2, d3, d4, d5⟩ := box5 X1.out
 have hlt : w.heap.size < w1.heap.size := X1.out.lt
 go_upto_region 13 with fail
 obtain ⟨V, hV⟩ : ∃ V, V = (w1.alloc (.cells #[.string ⟨#[112, 111, 107, 101]⟩, .string (itB x)] 9)).alloc (.cells #[.int .i64 3, .int .i64 x, .int .i64 0, .int .i64 0, .bool false] 36) := ⟨_, rfl⟩
 obtain ⟨g, hg⟩ : ∃ g, g = w1.heap.size := ⟨_, rfl⟩
 obtain ⟨gs, hgs⟩ : ∃ gs, gs = w1.heap.size + 1 := ⟨_, rfl⟩
 obtain ⟨gm, hgm⟩ : ∃ gm, gm = w.heap.size := ⟨_, rfl⟩
 have L := hide (show LNB w gm gs g [.int .i64 3, .int .i64 x, .int .i64 y, .int .i64 s, .bool true] [.int .i64 3, .int .i64 x, .int .i64 0, .int .i64 0, .bool false] (.slice (some ⟨g, 0, none⟩) 2 2) [.string ⟨#[112, 111, 107, 101]⟩, .string (itB x)] V by
  rw [hV, hgs, hg, hgm]
  exact ⟨(X1.out.alloc _).alloc _, row_at (vs := [.int .i64 3, .int .i64 x, .int .i64 0, .int .i64 0, .bool false]) (by simp), row_owns ((row_at (vs := [.string ⟨#[112, 111, 107, 101]⟩, .string (itB x)]) rfl).alloc _) (Nat.le_refl _) rfl (by unfold maxLen; omega), by omega, ⟨by omega, by omega, by omega⟩, (B1.out.alloc B1.out.size _).alloc (by simp; have := B1.out.size; omega) _⟩)
 rw [← hV, ← hgs, ← hg, ← hgm]
 clear hV hgs hg hgm d0 d1 d2 d3 d4 d5 X1 B1 hlt
 obtain ⟨d0, d1, d2, d3, d4, d5⟩ := box5 L.out.fm
 obtain ⟨i0, hi0, hz0, hz1, hz2⟩ := info_parts strInfo
 have HLd := hide (L.out.below (Below.refl V.heap.size V).drew)
 have hgl0 : g < V.heap.size := (L.out.own.lt g rfl).2
 have PO := hide (show ∀ u ∈ [Value.string (itB y), Value.string (itB s)], u.oneCell' = true by simp [Value.oneCell'])
 go_cut [4] (fun s4 wx => ∃ g3 c3, s4 = .slice (some ⟨g3, 0, none⟩) 4 c3 ∧ LNB w gm gs g [.int .i64 3, .int .i64 x, .int .i64 y, .int .i64 s, .bool true] [.int .i64 3, .int .i64 x, .int .i64 0, .int .i64 0, .bool false] s4 (([⟨#[112, 111, 107, 101]⟩, itB x, itB y, itB s] : List ByteArray).map .string) wx)
 case first =>
  go_region_held3 (fun w' => w'.cell? ⟨gm, 2, none⟩ = some (.int .i64 y) ∧ w'.cell? ⟨gm, 3, none⟩ = some (.int .i64 s))
   (first | go_keep | assumption | (exact ⟨k2, k3⟩))
   (first
   | (have hx := Lb
      refine step_append_lies _ ?_ (.tmp 39) (.tmp 46) 102 ?_ g 9 i0 (.string ⟨#[]⟩) 1 16 Tryz.underlying102 hi0 hz0 hz1 hz2 rfl Nat.zero_lt_one (.slice (some ⟨g, 0, none⟩) 2 2) 2 _ ?_ Lb.out.own ⟨w3.heap.size, 0, none⟩ 2 2 [.string (itB y), .string (itB s)] ?_ rfl NW.out PO.out (Nat.zero_lt_succ 1) P2 P3 P4 (w3.heap.size + 1) P5.out ?_
      ·rfl
      ·rfl
      ·rfl
      ·rfl
      intro g4 c4 w4 own4 grow4 at4 lt4
      have L4 := hide (Lb.out.app (ws' := ([⟨#[112, 111, 107, 101]⟩, itB x, itB y, itB s] : List ByteArray).map .string) own4 grow4)
      obtain ⟨k0, k1, k2, k3, k4, k5⟩ := box5 L4.out.fm)
   | (go_at_call 104
      have hx := hb2
      refine Calls.mono (itoa_any s HS.out.1 HS.out.2 _ (HG.out.below La.out.bel)) ?_
      rintro e w3 ⟨rfl, hb3⟩
      have hgl : g < w3.heap.size := by (have := hb2.size; have := hb3.size; have : V.drew.heap.size = V.heap.size := rfl; omega)
      have Lb := hide ((La.out.below hb3).below ((Below.refl w3.heap.size w3).alloc (Nat.le_refl _) (.cells #[.string (itB y), .string (itB s)] 9)))
      have P4 : g ≤ (w3.alloc (.cells #[.string (itB y), .string (itB s)] 9)).heap.size := by (simp; omega)
      have P5 := hide (show (w3.alloc (.cells #[.string (itB y), .string (itB s)] 9)).heap.size = w3.heap.size + 1 by simp)
      have NW := hide (news_at (t := 9) w3 [.string (itB y), .string (itB s)])
      have P2 : 2 + 2 ≤ maxLen := by (unfold maxLen; omega)
      have P3 : (2 + 2) * 16 ≤ 140737488355328 := by omega
      obtain ⟨k0, k1, k2, k3, k4, k5⟩ := box5 (La.out.below hb3).fm)
   | (go_at_call 104
      refine Calls.mono (itoa_any y HY.out.1 HY.out.2 _ (HG.out.below HLd.out.bel)) ?_
      rintro e w2 ⟨rfl, hb2⟩
      have La := hide (HLd.out.below hb2)
      obtain ⟨k0, k1, k2, k3, k4, k5⟩ := box5 La.out.fm))
  all_goals (go_wp2_with fail; go_meet)
  all_goals exact ⟨g4, c4, rfl, L4.out⟩
 case rest =>
 obtain ⟨g3, c3, rfl, hL3⟩ := hcut
 have L3 := hide hL3
 clear hL3 L HLd hgl0 d0 d1 d2 d3 d4 d5
 obtain ⟨w3, hw3⟩ : ∃ w3, w3 = wc := ⟨_, rfl⟩
 rw [← hw3] at L3 ⊢
 clear hw3
 obtain ⟨d0, d1, d2, d3, d4, d5⟩ := box5 L3.out.fm
 obtain ⟨e0, e1, e2, e3, e4, e5⟩ := box5 L3.out.fs
 have hne : gm ≠ gs := L3.out.ne
 have HV4 := hide (show LNB w gm gs g [.int .i64 3, .int .i64 x, .int .i64 y, .int .i64 s, .bool true] [.int .i64 3, .int .i64 x, .int .i64 y, .int .i64 s, .bool false] (.slice (some ⟨g3, 0, none⟩) 4 c3) (([⟨#[112, 111, 107, 101]⟩, itB x, itB y, itB s] : List ByteArray).map .string) ((w3.setCell ⟨gs, 2, none⟩ (.int .i64 y)).setCell ⟨gs, 3, none⟩ (.int .i64 s)) ∧ LNB w gm gs g [.int .i64 3, .int .i64 x, .int .i64 y, .int .i64 s, .bool true] [.int .i64 3, .int .i64 x, .int .i64 y, .int .i64 s, .bool false] (.slice (some ⟨g3, 0, none⟩) 4 c3) (([⟨#[112, 111, 107, 101]⟩, itB x, itB y, itB s] : List ByteArray).map .string) ((w3.setCell ⟨gs, 3, none⟩ (.int .i64 s)).setCell ⟨gs, 2, none⟩ (.int .i64 y)) from ⟨(L3.out.setS 2 (.int .i64 y)).setS 3 (.int .i64 s), (L3.out.setS 3 (.int .i64 s)).setS 2 (.int .i64 y)⟩)
 go_upto_region 14 with fail
 go_region
 ·obtain ⟨wc, hwc⟩ : ∃ V, V = ((w3.setCell ⟨gs, 2, none⟩ (.int .i64 y)).setCell ⟨gs, 3, none⟩ (.int .i64 s)).drew := ⟨_, rfl⟩
  have L4x := hide (show LNB w gm gs g [.int .i64 3, .int .i64 x, .int .i64 y, .int .i64 s, .bool true] [.int .i64 3, .int .i64 x, .int .i64 y, .int .i64 s, .bool false] (.slice (some ⟨g3, 0, none⟩) 4 c3) (([⟨#[112, 111, 107, 101]⟩, itB x, itB y, itB s] : List ByteArray).map .string) wc by rw [hwc]; exact HV4.out.1.below (Below.refl _ _).drew)
  rw [← hwc]
  clear hwc HV4 L3 d0 d1 d2 d3 d4 d5 e0 e1 e2 e3 e4 e5
  obtain ⟨d0, d1, d2, d3, d4, d5⟩ := box5 L4x.out.fm
  obtain ⟨e0, e1, e2, e3, e4, e5⟩ := box5 L4x.out.fs
  have L4 := hide (L4x.out.setS 4 (.bool true))
  go_upto_region 26 with fail
  obtain ⟨V4, hV4⟩ : ∃ V, V = wc.setCell ⟨gs, 4, none⟩ (.bool true) := ⟨_, rfl⟩
  rw [← hV4] at L4 ⊢
  clear L4x
  have L4a := hide (L4.out.below ((Below.refl V4.heap.size V4).alloc (Nat.le_refl _) (.cells #[.string (sdB true)] 9)))
  have hgl4 : g < V4.heap.size := by have := (L4.out.own.lt g3 rfl).1; have := (L4.out.own.lt g3 rfl).2; omega
  clear hV4 L4 d0 d1 d2 d3 d4 d5 e0 e1 e2 e3 e4 e5
  go_upto_region 27 with (at_builtin; refine wpList_append_lies _ (by rfl) _ _ 102 (by rfl) g 9 i0 (.string ⟨#[]⟩) 1 16 Tryz.underlying102 hi0 hz0 hz1 hz2 rfl (by omega) _ 4 _ (by rfl) L4a.out.own ⟨V4.heap.size, 0, none⟩ 1 1 [.string (sdB true)] (by rfl) (by rfl) (news_at _ _) (by simp [Value.oneCell']) (by omega) (by unfold maxLen; omega) (by omega) (by simp; omega) (V4.heap.size + 1) (by simp) ?_; intro g5 c5 w5 own5 grow5 at5 lt5; have L5 := hide (L4a.out.app (ws' := ([⟨#[112, 111, 107, 101]⟩, itB x, itB y, itB s, sdB true] : List ByteArray).map .string) own5 grow5); clear own5 grow5 at5 lt5)
  obtain ⟨d0, d1, d2, d3, d4, d5⟩ := box5 L5.out.fm
  obtain ⟨e0, e1, e2, e3, e4, e5⟩ := box5 L5.out.fs
  have L6 := hide (L5.out.below (Below.refl w5.heap.size w5).drew)
  have hown := own_str (xs := [⟨#[112, 111, 107, 101]⟩, itB x, itB y, itB s, sdB true]) L6.out.own
  have HJ := hide hown.1
  have hjb := hown.2
  have hcap : 5 ≤ c5 := own_cap L5.out.own
  have HJL := hide (show (Lib.join (([⟨#[112, 111, 107, 101]⟩, itB x, itB y, itB s, sdB true] : List ByteArray).map (·.data.toList)) (⟨#[32]⟩ : ByteArray).data.toList).length ≤ 140737488355328 from Nat.le_trans (join_small _ _ 4 (by decide) (by
   intro z hz
   have h1 := itB_len x HX.out.1 HX.out.2
   have h2 := itB_len s HS.out.1 HS.out.2
   have h4 := itB_len y HY.out.1 HY.out.2
   have h3 : (sdB true).data.toList.length ≤ 30 ∧ (sdB false).data.toList.length ≤ 30 := by decide
   obtain ⟨h3, h3'⟩ := h3
   simp only [List.map_cons, List.map_nil, List.mem_cons, List.not_mem_nil, or_false] at hz
   rcases hz with rfl | rfl | rfl | rfl <;> assumption) (by simp)) (by omega))
  clear hown
  go_region_held3 (fun w' => w'.cell? ⟨gm, 0, none⟩ = some (.int .i64 3) ∧ w'.cell? ⟨gm, 1, none⟩ = some (.int .i64 x) ∧ w'.cell? ⟨gm, 2, none⟩ = some (.int .i64 y) ∧ w'.cell? ⟨gm, 3, none⟩ = some (.int .i64 s) ∧ w'.cell? ⟨gm, 4, none⟩ = some (.bool true) ∧ w'.cell? ⟨gs, 0, none⟩ = some (.int .i64 3) ∧ w'.cell? ⟨gs, 1, none⟩ = some (.int .i64 x) ∧ w'.cell? ⟨gs, 2, none⟩ = some (.int .i64 y) ∧ w'.cell? ⟨gs, 3, none⟩ = some (.int .i64 s) ∧ w'.cell? ⟨gs, 4, none⟩ = some (.bool true))
   (first | go_keep | assumption | (exact ⟨k0, k1, k2, k3, k4, p0, p1, p2, p3, p4⟩))
   (first
   | (go_at_call 105
      refine Calls.mono (Tryz.strings_Join g5 0 c5 [⟨#[112, 111, 107, 101]⟩, itB x, itB y, itB s, sdB true] ⟨#[32]⟩ _ HJ.out hjb (by show 5 ≤ _; omega) hcap HJL.out) ?_
      rintro e w6 ⟨rfl, hb6⟩
      obtain ⟨k0, k1, k2, k3, k4, k5⟩ := box5 (L6.out.fm.below hb6)
      obtain ⟨p0, p1, p2, p3, p4, p5⟩ := box5 (L6.out.fs.below hb6)
      have HF := hide (L6.out.bel.trans (hb6.mono L6.out.bel.size))))
  all_goals (go_wp2_with fail)
  all_goals (go_ret2; exact ⟨rfl, HF.out⟩)
set_option maxRecDepth 100000 in
set_option maxHeartbeats 4000000 in
theorem line_3_false (x y s : Int) (w : World) (hg : GV w) (hx : -9223372036854775808 ≤ x ∧ x ≤ 9223372036854775807) (hy0 : -9223372036854775808 ≤ y ∧ y ≤ 9223372036854775807) (hs : -9223372036854775808 ≤ s ∧ s ≤ 9223372036854775807) :
 Calls Tryz.prog 53 #[.agg #[.int .i64 3, .int .i64 x, .int .i64 y, .int .i64 s, .bool false]] w fun e w' => e = .returned (.tuple #[.string (lnT ⟨3, x, y, s, false⟩), .bool (lnB ⟨3, x, y, s, false⟩)]) ∧ Below w.heap.size w w' := by
 have HG := hide hg
 clear hg
 have X0 := hide (row_at (W := w) (g := w.heap.size) (t := 36) (vs := [.int .i64 3, .int .i64 x, .int .i64 y, .int .i64 s, .bool false]) rfl)
 have B0 := hide (show Below w.heap.size w (w.alloc (.cells #[.int .i64 3, .int .i64 x, .int .i64 y, .int .i64 s, .bool false] 36)) from (Below.refl _ _).alloc (Nat.le_refl _) _)
 have HX := hide hx
 have HY := hide hy0
 have HS := hide hs
 clear hx hy0 hs
 go_enter Tryz.func53, Tryz.ntmps53
 go_wp2_with fail
 refine (itoa_any x HX.out.1 HX.out.2 _ (HG.out.below B0.out)).mono ?_
 rintro e w1 ⟨rfl, hb1⟩
 have X1 := hide (X0.out.below hb1)
 have B1 := hide (B0.out.trans (hb1.mono B0.out.size))
 clear hb1 X0 B0
 obtain ⟨d0, d1, d2, d3, d4, d5⟩ := box5 X1.out
 have hlt : w.heap.size < w1.heap.size := X1.out.lt
 go_upto_region 13 with fail
 obtain ⟨V, hV⟩ : ∃ V, V = (w1.alloc (.cells #[.string ⟨#[112, 111, 107, 101]⟩, .string (itB x)] 9)).alloc (.cells #[.int .i64 3, .int .i64 x, .int .i64 0, .int .i64 0, .bool false] 36) := ⟨_, rfl⟩
 obtain ⟨g, hg⟩ : ∃ g, g = w1.heap.size := ⟨_, rfl⟩
 obtain ⟨gs, hgs⟩ : ∃ gs, gs = w1.heap.size + 1 := ⟨_, rfl⟩
 obtain ⟨gm, hgm⟩ : ∃ gm, gm = w.heap.size := ⟨_, rfl⟩
 have L := hide (show LNB w gm gs g [.int .i64 3, .int .i64 x, .int .i64 y, .int .i64 s, .bool false] [.int .i64 3, .int .i64 x, .int .i64 0, .int .i64 0, .bool false] (.slice (some ⟨g, 0, none⟩) 2 2) [.string ⟨#[112, 111, 107, 101]⟩, .string (itB x)] V by
  rw [hV, hgs, hg, hgm]
  exact ⟨(X1.out.alloc _).alloc _, row_at (vs := [.int .i64 3, .int .i64 x, .int .i64 0, .int .i64 0, .bool false]) (by simp), row_owns ((row_at (vs := [.string ⟨#[112, 111, 107, 101]⟩, .string (itB x)]) rfl).alloc _) (Nat.le_refl _) rfl (by unfold maxLen; omega), by omega, ⟨by omega, by omega, by omega⟩, (B1.out.alloc B1.out.size _).alloc (by simp; have := B1.out.size; omega) _⟩)
 rw [← hV, ← hgs, ← hg, ← hgm]
 clear hV hgs hg hgm d0 d1 d2 d3 d4 d5 X1 B1 hlt
 obtain ⟨d0, d1, d2, d3, d4, d5⟩ := box5 L.out.fm
 obtain ⟨i0, hi0, hz0, hz1, hz2⟩ := info_parts strInfo
 have HLd := hide (L.out.below (Below.refl V.heap.size V).drew)
 have hgl0 : g < V.heap.size := (L.out.own.lt g rfl).2
 have PO := hide (show ∀ u ∈ [Value.string (itB y), Value.string (itB s)], u.oneCell' = true by simp [Value.oneCell'])
 go_cut [4] (fun s4 wx => ∃ g3 c3, s4 = .slice (some ⟨g3, 0, none⟩) 4 c3 ∧ LNB w gm gs g [.int .i64 3, .int .i64 x, .int .i64 y, .int .i64 s, .bool false] [.int .i64 3, .int .i64 x, .int .i64 0, .int .i64 0, .bool false] s4 (([⟨#[112, 111, 107, 101]⟩, itB x, itB y, itB s] : List ByteArray).map .string) wx)
 case first =>
  go_region_held3 (fun w' => w'.cell? ⟨gm, 2, none⟩ = some (.int .i64 y) ∧ w'.cell? ⟨gm, 3, none⟩ = some (.int .i64 s))
   (first | go_keep | assumption | (exact ⟨k2, k3⟩))
   (first
   | (have hx := Lb
      refine step_append_lies _ ?_ (.tmp 39) (.tmp 46) 102 ?_ g 9 i0 (.string ⟨#[]⟩) 1 16 Tryz.underlying102 hi0 hz0 hz1 hz2 rfl Nat.zero_lt_one (.slice (some ⟨g, 0, none⟩) 2 2) 2 _ ?_ Lb.out.own ⟨w3.heap.size, 0, none⟩ 2 2 [.string (itB y), .string (itB s)] ?_ rfl NW.out PO.out (Nat.zero_lt_succ 1) P2 P3 P4 (w3.heap.size + 1) P5.out ?_
      ·rfl
      ·rfl
      ·rfl
      ·rfl
      intro g4 c4 w4 own4 grow4 at4 lt4
      have L4 := hide (Lb.out.app (ws' := ([⟨#[112, 111, 107, 101]⟩, itB x, itB y, itB s] : List ByteArray).map .string) own4 grow4)
      obtain ⟨k0, k1, k2, k3, k4, k5⟩ := box5 L4.out.fm)
   | (go_at_call 104
      have hx := hb2
      refine Calls.mono (itoa_any s HS.out.1 HS.out.2 _ (HG.out.below La.out.bel)) ?_
      rintro e w3 ⟨rfl, hb3⟩
      have hgl : g < w3.heap.size := by (have := hb2.size; have := hb3.size; have : V.drew.heap.size = V.heap.size := rfl; omega)
      have Lb := hide ((La.out.below hb3).below ((Below.refl w3.heap.size w3).alloc (Nat.le_refl _) (.cells #[.string (itB y), .string (itB s)] 9)))
      have P4 : g ≤ (w3.alloc (.cells #[.string (itB y), .string (itB s)] 9)).heap.size := by (simp; omega)
      have P5 := hide (show (w3.alloc (.cells #[.string (itB y), .string (itB s)] 9)).heap.size = w3.heap.size + 1 by simp)
      have NW := hide (news_at (t := 9) w3 [.string (itB y), .string (itB s)])
      have P2 : 2 + 2 ≤ maxLen := by (unfold maxLen; omega)
      have P3 : (2 + 2) * 16 ≤ 140737488355328 := by omega
      obtain ⟨k0, k1, k2, k3, k4, k5⟩ := box5 (La.out.below hb3).fm)
   | (go_at_call 104
      refine Calls.mono (itoa_any y HY.out.1 HY.out.2 _ (HG.out.below HLd.out.bel)) ?_
      rintro e w2 ⟨rfl, hb2⟩
      have La := hide (HLd.out.below hb2)
      obtain ⟨k0, k1, k2, k3, k4, k5⟩ := box5 La.out.fm))
  all_goals (go_wp2_with fail; go_meet)
  all_goals exact ⟨g4, c4, rfl, L4.out⟩
 case rest =>
 obtain ⟨g3, c3, rfl, hL3⟩ := hcut
 have L3 := hide hL3
 clear hL3 L HLd hgl0 d0 d1 d2 d3 d4 d5
 obtain ⟨w3, hw3⟩ : ∃ w3, w3 = wc := ⟨_, rfl⟩
 rw [← hw3] at L3 ⊢
 clear hw3
 obtain ⟨d0, d1, d2, d3, d4, d5⟩ := box5 L3.out.fm
 obtain ⟨e0, e1, e2, e3, e4, e5⟩ := box5 L3.out.fs
 have hne : gm ≠ gs := L3.out.ne
 have HV4 := hide (show LNB w gm gs g [.int .i64 3, .int .i64 x, .int .i64 y, .int .i64 s, .bool false] [.int .i64 3, .int .i64 x, .int .i64 y, .int .i64 s, .bool false] (.slice (some ⟨g3, 0, none⟩) 4 c3) (([⟨#[112, 111, 107, 101]⟩, itB x, itB y, itB s] : List ByteArray).map .string) ((w3.setCell ⟨gs, 2, none⟩ (.int .i64 y)).setCell ⟨gs, 3, none⟩ (.int .i64 s)) ∧ LNB w gm gs g [.int .i64 3, .int .i64 x, .int .i64 y, .int .i64 s, .bool false] [.int .i64 3, .int .i64 x, .int .i64 y, .int .i64 s, .bool false] (.slice (some ⟨g3, 0, none⟩) 4 c3) (([⟨#[112, 111, 107, 101]⟩, itB x, itB y, itB s] : List ByteArray).map .string) ((w3.setCell ⟨gs, 3, none⟩ (.int .i64 s)).setCell ⟨gs, 2, none⟩ (.int .i64 y)) from ⟨(L3.out.setS 2 (.int .i64 y)).setS 3 (.int .i64 s), (L3.out.setS 3 (.int .i64 s)).setS 2 (.int .i64 y)⟩)
 go_upto_region 14 with fail
 go_region
 ·obtain ⟨wc, hwc⟩ : ∃ V, V = ((w3.setCell ⟨gs, 2, none⟩ (.int .i64 y)).setCell ⟨gs, 3, none⟩ (.int .i64 s)).drew := ⟨_, rfl⟩
  have L4x := hide (show LNB w gm gs g [.int .i64 3, .int .i64 x, .int .i64 y, .int .i64 s, .bool false] [.int .i64 3, .int .i64 x, .int .i64 y, .int .i64 s, .bool false] (.slice (some ⟨g3, 0, none⟩) 4 c3) (([⟨#[112, 111, 107, 101]⟩, itB x, itB y, itB s] : List ByteArray).map .string) wc by rw [hwc]; exact HV4.out.1.below (Below.refl _ _).drew)
  rw [← hwc]
  clear hwc HV4 L3 d0 d1 d2 d3 d4 d5 e0 e1 e2 e3 e4 e5
  obtain ⟨d0, d1, d2, d3, d4, d5⟩ := box5 L4x.out.fm
  obtain ⟨e0, e1, e2, e3, e4, e5⟩ := box5 L4x.out.fs
  have L4 := hide (L4x.out.setS 4 (.bool false))
  go_upto_region 26 with fail
  obtain ⟨V4, hV4⟩ : ∃ V, V = wc.setCell ⟨gs, 4, none⟩ (.bool false) := ⟨_, rfl⟩
  rw [← hV4] at L4 ⊢
  clear L4x
  have L4a := hide (L4.out.below ((Below.refl V4.heap.size V4).alloc (Nat.le_refl _) (.cells #[.string (sdB false)] 9)))
  have hgl4 : g < V4.heap.size := by have := (L4.out.own.lt g3 rfl).1; have := (L4.out.own.lt g3 rfl).2; omega
  clear hV4 L4 d0 d1 d2 d3 d4 d5 e0 e1 e2 e3 e4 e5
  go_upto_region 27 with (at_builtin; refine wpList_append_lies _ (by rfl) _ _ 102 (by rfl) g 9 i0 (.string ⟨#[]⟩) 1 16 Tryz.underlying102 hi0 hz0 hz1 hz2 rfl (by omega) _ 4 _ (by rfl) L4a.out.own ⟨V4.heap.size, 0, none⟩ 1 1 [.string (sdB false)] (by rfl) (by rfl) (news_at _ _) (by simp [Value.oneCell']) (by omega) (by unfold maxLen; omega) (by omega) (by simp; omega) (V4.heap.size + 1) (by simp) ?_; intro g5 c5 w5 own5 grow5 at5 lt5; have L5 := hide (L4a.out.app (ws' := ([⟨#[112, 111, 107, 101]⟩, itB x, itB y, itB s, sdB false] : List ByteArray).map .string) own5 grow5); clear own5 grow5 at5 lt5)
  obtain ⟨d0, d1, d2, d3, d4, d5⟩ := box5 L5.out.fm
  obtain ⟨e0, e1, e2, e3, e4, e5⟩ := box5 L5.out.fs
  have L6 := hide (L5.out.below (Below.refl w5.heap.size w5).drew)
  have hown := own_str (xs := [⟨#[112, 111, 107, 101]⟩, itB x, itB y, itB s, sdB false]) L6.out.own
  have HJ := hide hown.1
  have hjb := hown.2
  have hcap : 5 ≤ c5 := own_cap L5.out.own
  have HJL := hide (show (Lib.join (([⟨#[112, 111, 107, 101]⟩, itB x, itB y, itB s, sdB false] : List ByteArray).map (·.data.toList)) (⟨#[32]⟩ : ByteArray).data.toList).length ≤ 140737488355328 from Nat.le_trans (join_small _ _ 4 (by decide) (by
   intro z hz
   have h1 := itB_len x HX.out.1 HX.out.2
   have h2 := itB_len s HS.out.1 HS.out.2
   have h4 := itB_len y HY.out.1 HY.out.2
   have h3 : (sdB true).data.toList.length ≤ 30 ∧ (sdB false).data.toList.length ≤ 30 := by decide
   obtain ⟨h3, h3'⟩ := h3
   simp only [List.map_cons, List.map_nil, List.mem_cons, List.not_mem_nil, or_false] at hz
   rcases hz with rfl | rfl | rfl | rfl <;> assumption) (by simp)) (by omega))
  clear hown
  go_region_held3 (fun w' => w'.cell? ⟨gm, 0, none⟩ = some (.int .i64 3) ∧ w'.cell? ⟨gm, 1, none⟩ = some (.int .i64 x) ∧ w'.cell? ⟨gm, 2, none⟩ = some (.int .i64 y) ∧ w'.cell? ⟨gm, 3, none⟩ = some (.int .i64 s) ∧ w'.cell? ⟨gm, 4, none⟩ = some (.bool false) ∧ w'.cell? ⟨gs, 0, none⟩ = some (.int .i64 3) ∧ w'.cell? ⟨gs, 1, none⟩ = some (.int .i64 x) ∧ w'.cell? ⟨gs, 2, none⟩ = some (.int .i64 y) ∧ w'.cell? ⟨gs, 3, none⟩ = some (.int .i64 s) ∧ w'.cell? ⟨gs, 4, none⟩ = some (.bool false))
   (first | go_keep | assumption | (exact ⟨k0, k1, k2, k3, k4, p0, p1, p2, p3, p4⟩))
   (first
   | (go_at_call 105
      refine Calls.mono (Tryz.strings_Join g5 0 c5 [⟨#[112, 111, 107, 101]⟩, itB x, itB y, itB s, sdB false] ⟨#[32]⟩ _ HJ.out hjb (by show 5 ≤ _; omega) hcap HJL.out) ?_
      rintro e w6 ⟨rfl, hb6⟩
      obtain ⟨k0, k1, k2, k3, k4, k5⟩ := box5 (L6.out.fm.below hb6)
      obtain ⟨p0, p1, p2, p3, p4, p5⟩ := box5 (L6.out.fs.below hb6)
      have HF := hide (L6.out.bel.trans (hb6.mono L6.out.bel.size))))
  all_goals (go_wp2_with fail)
  all_goals (go_ret2; exact ⟨rfl, HF.out⟩)
set_option maxRecDepth 100000 in
set_option maxHeartbeats 4000000 in
theorem line_4 (x y s : Int) (o : Bool) (w : World) (hg : GV w) (hx : -9223372036854775808 ≤ x ∧ x ≤ 9223372036854775807) (hy0 : -9223372036854775808 ≤ y ∧ y ≤ 9223372036854775807) (hs : -9223372036854775808 ≤ s ∧ s ≤ 9223372036854775807) :
 Calls Tryz.prog 53 #[.agg #[.int .i64 4, .int .i64 x, .int .i64 y, .int .i64 s, .bool o]] w fun e w' => e = .returned (.tuple #[.string (lnT ⟨4, x, y, s, o⟩), .bool (lnB ⟨4, x, y, s, o⟩)]) ∧ Below w.heap.size w w' := by
 have HG := hide hg
 clear hg
 have X0 := hide (row_at (W := w) (g := w.heap.size) (t := 36) (vs := [.int .i64 4, .int .i64 x, .int .i64 y, .int .i64 s, .bool o]) rfl)
 have B0 := hide (show Below w.heap.size w (w.alloc (.cells #[.int .i64 4, .int .i64 x, .int .i64 y, .int .i64 s, .bool o] 36)) from (Below.refl _ _).alloc (Nat.le_refl _) _)
 have HX := hide hx
 have HY := hide hy0
 have HS := hide hs
 clear hx hy0 hs
 go_enter Tryz.func53, Tryz.ntmps53
 go_wp2_with fail
 refine (itoa_any x HX.out.1 HX.out.2 _ (HG.out.below B0.out)).mono ?_
 rintro e w1 ⟨rfl, hb1⟩
 have X1 := hide (X0.out.below hb1)
 have B1 := hide (B0.out.trans (hb1.mono B0.out.size))
 clear hb1 X0 B0
 obtain ⟨d0, d1, d2, d3, d4, d5⟩ := box5 X1.out
 have hlt : w.heap.size < w1.heap.size := X1.out.lt
 go_upto_region 17 with fail
 obtain ⟨V, hV⟩ : ∃ V, V = (w1.alloc (.cells #[.string ⟨#[117, 110, 112, 111, 107, 101]⟩, .string (itB x)] 9)).alloc (.cells #[.int .i64 4, .int .i64 x, .int .i64 0, .int .i64 0, .bool false] 36) := ⟨_, rfl⟩
 obtain ⟨g, hg⟩ : ∃ g, g = w1.heap.size := ⟨_, rfl⟩
 obtain ⟨gs, hgs⟩ : ∃ gs, gs = w1.heap.size + 1 := ⟨_, rfl⟩
 obtain ⟨gm, hgm⟩ : ∃ gm, gm = w.heap.size := ⟨_, rfl⟩
 have L := hide (show LNB w gm gs g [.int .i64 4, .int .i64 x, .int .i64 y, .int .i64 s, .bool o] [.int .i64 4, .int .i64 x, .int .i64 0, .int .i64 0, .bool false] (.slice (some ⟨g, 0, none⟩) 2 2) [.string ⟨#[117, 110, 112, 111, 107, 101]⟩, .string (itB x)] V by
  rw [hV, hgs, hg, hgm]
  exact ⟨(X1.out.alloc _).alloc _, row_at (vs := [.int .i64 4, .int .i64 x, .int .i64 0, .int .i64 0, .bool false]) (by simp), row_owns ((row_at (vs := [.string ⟨#[117, 110, 112, 111, 107, 101]⟩, .string (itB x)]) rfl).alloc _) (Nat.le_refl _) rfl (by unfold maxLen; omega), by omega, ⟨by omega, by omega, by omega⟩, (B1.out.alloc B1.out.size _).alloc (by simp; have := B1.out.size; omega) _⟩)
 rw [← hV, ← hgs, ← hg, ← hgm]
 clear hV hgs hg hgm d0 d1 d2 d3 d4 d5 X1 B1 hlt
 obtain ⟨d0, d1, d2, d3, d4, d5⟩ := box5 L.out.fm
 obtain ⟨i0, hi0, hz0, hz1, hz2⟩ := info_parts strInfo
 go_wp2_with fail
 refine (itoa_any y HY.out.1 HY.out.2 _ (HG.out.below L.out.bel)).mono ?_
 rintro e w2 ⟨rfl, hb2⟩
 have L2 := hide (L.out.below (hb2.alloc hb2.size (.cells #[.string (itB y)] 9)))
 have hgl : g < w2.heap.size := by have := hb2.size; have := (L.out.own.lt g rfl).2; omega
 clear L d0 d1 d2 d3 d4 d5
 go_upto_region 18 with (at_builtin; refine wpList_append_lies _ (by rfl) _ _ 102 (by rfl) g 9 i0 (.string ⟨#[]⟩) 1 16 Tryz.underlying102 hi0 hz0 hz1 hz2 rfl (by omega) _ 2 _ (by rfl) L2.out.own ⟨w2.heap.size, 0, none⟩ 1 1 [.string (itB y)] (by rfl) (by rfl) (news_at _ _) (by simp [Value.oneCell']) (by omega) (by unfold maxLen; omega) (by omega) (by simp; omega) (w2.heap.size + 1) (by simp) ?_; intro g3 c3 w3 own3 grow3 at3 lt3; have L3 := hide (L2.out.app (ws' := ([⟨#[117, 110, 112, 111, 107, 101]⟩, itB x, itB y] : List ByteArray).map .string) own3 grow3); clear own3 grow3 at3 lt3)
 obtain ⟨d0, d1, d2, d3, d4, d5⟩ := box5 L3.out.fm
 obtain ⟨e0, e1, e2, e3, e4, e5⟩ := box5 L3.out.fs
 have hne : gm ≠ gs := L3.out.ne
 have L5 := hide (L3.out.setS 2 (.int .i64 y))
 go_upto_region 27 with fail
 obtain ⟨w5, hw5⟩ : ∃ V, V = w3.setCell ⟨gs, 2, none⟩ (.int .i64 y) := ⟨_, rfl⟩
 rw [← hw5] at L5 ⊢
 clear hw5 L3 d0 d1 d2 d3 d4 d5 e0 e1 e2 e3 e4 e5
 obtain ⟨g5, hg5⟩ : ∃ z, z = g3 := ⟨_, rfl⟩
 obtain ⟨c5, hc5⟩ : ∃ z, z = c3 := ⟨_, rfl⟩
 rw [← hg5, ← hc5] at L5 ⊢
 clear hg5 hc5
 obtain ⟨d0, d1, d2, d3, d4, d5⟩ := box5 L5.out.fm
 obtain ⟨e0, e1, e2, e3, e4, e5⟩ := box5 L5.out.fs
 have L6 := hide (L5.out.below (Below.refl w5.heap.size w5).drew)
 have hown := own_str (xs := [⟨#[117, 110, 112, 111, 107, 101]⟩, itB x, itB y]) L6.out.own
 have HJ := hide hown.1
 have hjb := hown.2
 have hcap : 3 ≤ c5 := own_cap L5.out.own
 have HJL := hide (show (Lib.join (([⟨#[117, 110, 112, 111, 107, 101]⟩, itB x, itB y] : List ByteArray).map (·.data.toList)) (⟨#[32]⟩ : ByteArray).data.toList).length ≤ 140737488355328 from Nat.le_trans (join_small _ _ 2 (by decide) (by
  intro z hz
  have h1 := itB_len x HX.out.1 HX.out.2
  have h2 := itB_len s HS.out.1 HS.out.2
  have h4 := itB_len y HY.out.1 HY.out.2
  have h3 : (sdB true).data.toList.length ≤ 30 ∧ (sdB false).data.toList.length ≤ 30 := by decide
  obtain ⟨h3, h3'⟩ := h3
  simp only [List.map_cons, List.map_nil, List.mem_cons, List.not_mem_nil, or_false] at hz
  rcases hz with rfl | rfl <;> assumption) (by simp)) (by omega))
 clear hown
 by_cases hs : s = 0
 ·subst hs
  cases o with
  | false =>
    go_region_held3 (fun w' => w'.cell? ⟨gm, 0, none⟩ = some (.int .i64 4) ∧ w'.cell? ⟨gm, 1, none⟩ = some (.int .i64 x) ∧ w'.cell? ⟨gm, 2, none⟩ = some (.int .i64 y) ∧ w'.cell? ⟨gm, 3, none⟩ = some (.int .i64 0) ∧ w'.cell? ⟨gm, 4, none⟩ = some (.bool false) ∧ w'.cell? ⟨gs, 0, none⟩ = some (.int .i64 4) ∧ w'.cell? ⟨gs, 1, none⟩ = some (.int .i64 x) ∧ w'.cell? ⟨gs, 2, none⟩ = some (.int .i64 y) ∧ w'.cell? ⟨gs, 3, none⟩ = some (.int .i64 0) ∧ w'.cell? ⟨gs, 4, none⟩ = some (.bool false))
     (first | go_keep | assumption | (exact ⟨k0, k1, k2, k3, k4, p0, p1, p2, p3, p4⟩))
     (first
     | (go_at_call 105
        refine Calls.mono (Tryz.strings_Join g5 0 c5 [⟨#[117, 110, 112, 111, 107, 101]⟩, itB x, itB y] ⟨#[32]⟩ _ HJ.out hjb (by show 3 ≤ _; omega) hcap HJL.out) ?_
        rintro e w6 ⟨rfl, hb6⟩
        obtain ⟨k0, k1, k2, k3, k4, k5⟩ := box5 (L6.out.fm.below hb6)
        obtain ⟨p0, p1, p2, p3, p4, p5⟩ := box5 (L6.out.fs.below hb6)
        have HF := hide (L6.out.bel.trans (hb6.mono L6.out.bel.size))))
    all_goals (go_wp2_with fail)
    all_goals (go_ret2; exact ⟨rfl, HF.out⟩)
  | true =>
    have HB := hide (show lnB ⟨4, x, y, 0, true⟩ = false by simp [lnB, *])
    go_region_held3 (fun w' => w'.cell? ⟨gm, 0, none⟩ = some (.int .i64 4) ∧ w'.cell? ⟨gm, 1, none⟩ = some (.int .i64 x) ∧ w'.cell? ⟨gm, 2, none⟩ = some (.int .i64 y) ∧ w'.cell? ⟨gm, 3, none⟩ = some (.int .i64 0) ∧ w'.cell? ⟨gm, 4, none⟩ = some (.bool true) ∧ w'.cell? ⟨gs, 0, none⟩ = some (.int .i64 4) ∧ w'.cell? ⟨gs, 1, none⟩ = some (.int .i64 x) ∧ w'.cell? ⟨gs, 2, none⟩ = some (.int .i64 y) ∧ w'.cell? ⟨gs, 3, none⟩ = some (.int .i64 0) ∧ w'.cell? ⟨gs, 4, none⟩ = some (.bool false))
     (first | go_keep | assumption | (exact ⟨k0, k1, k2, k3, k4, p0, p1, p2, p3, p4⟩))
     (first
     | (go_at_call 105
        refine Calls.mono (Tryz.strings_Join g5 0 c5 [⟨#[117, 110, 112, 111, 107, 101]⟩, itB x, itB y] ⟨#[32]⟩ _ HJ.out hjb (by show 3 ≤ _; omega) hcap HJL.out) ?_
        rintro e w6 ⟨rfl, hb6⟩
        obtain ⟨k0, k1, k2, k3, k4, k5⟩ := box5 (L6.out.fm.below hb6)
        obtain ⟨p0, p1, p2, p3, p4, p5⟩ := box5 (L6.out.fs.below hb6)
        have HF := hide (L6.out.bel.trans (hb6.mono L6.out.bel.size))))
    all_goals (go_wp2_with fail)
    all_goals (go_ret2; exact ⟨by rw [HB.out]; rfl, HF.out⟩)
 ·have hs2 : ¬ (0 : Int) = s := fun e => hs e.symm
  have hs3 : ((0 : Int) == s) = false := by rw [beq_eq_false_iff_ne]; exact hs2
  have HB := hide (show lnB ⟨4, x, y, s, o⟩ = false by simp [lnB, *])
  go_region_held3 (fun w' => w'.cell? ⟨gm, 0, none⟩ = some (.int .i64 4) ∧ w'.cell? ⟨gm, 1, none⟩ = some (.int .i64 x) ∧ w'.cell? ⟨gm, 2, none⟩ = some (.int .i64 y) ∧ w'.cell? ⟨gm, 3, none⟩ = some (.int .i64 s) ∧ w'.cell? ⟨gm, 4, none⟩ = some (.bool o) ∧ w'.cell? ⟨gs, 0, none⟩ = some (.int .i64 4) ∧ w'.cell? ⟨gs, 1, none⟩ = some (.int .i64 x) ∧ w'.cell? ⟨gs, 2, none⟩ = some (.int .i64 y) ∧ w'.cell? ⟨gs, 3, none⟩ = some (.int .i64 0) ∧ w'.cell? ⟨gs, 4, none⟩ = some (.bool false))
   (first | go_keep | assumption | (exact ⟨k0, k1, k2, k3, k4, p0, p1, p2, p3, p4⟩))
   (first
   | (go_at_call 105
      refine Calls.mono (Tryz.strings_Join g5 0 c5 [⟨#[117, 110, 112, 111, 107, 101]⟩, itB x, itB y] ⟨#[32]⟩ _ HJ.out hjb (by show 3 ≤ _; omega) hcap HJL.out) ?_
      rintro e w6 ⟨rfl, hb6⟩
      obtain ⟨k0, k1, k2, k3, k4, k5⟩ := box5 (L6.out.fm.below hb6)
      obtain ⟨p0, p1, p2, p3, p4, p5⟩ := box5 (L6.out.fs.below hb6)
      have HF := hide (L6.out.bel.trans (hb6.mono L6.out.bel.size))))
  all_goals (go_wp2_with fail)
  all_goals (go_ret2; exact ⟨by rw [HB.out]; rfl, HF.out⟩)
set_option maxRecDepth 100000 in
set_option maxHeartbeats 4000000 in
theorem line_5 (x y s : Int) (o : Bool) (w : World) (hg : GV w) (hx : -9223372036854775808 ≤ x ∧ x ≤ 9223372036854775807) (hy0 : -9223372036854775808 ≤ y ∧ y ≤ 9223372036854775807) (hs : -9223372036854775808 ≤ s ∧ s ≤ 9223372036854775807) :
 Calls Tryz.prog 53 #[.agg #[.int .i64 5, .int .i64 x, .int .i64 y, .int .i64 s, .bool o]] w fun e w' => e = .returned (.tuple #[.string (lnT ⟨5, x, y, s, o⟩), .bool (lnB ⟨5, x, y, s, o⟩)]) ∧ Below w.heap.size w w' := by
 have HG := hide hg
 clear hg
 have X0 := hide (row_at (W := w) (g := w.heap.size) (t := 36) (vs := [.int .i64 5, .int .i64 x, .int .i64 y, .int .i64 s, .bool o]) rfl)
 have B0 := hide (show Below w.heap.size w (w.alloc (.cells #[.int .i64 5, .int .i64 x, .int .i64 y, .int .i64 s, .bool o] 36)) from (Below.refl _ _).alloc (Nat.le_refl _) _)
 have HX := hide hx
 have HY := hide hy0
 have HS := hide hs
 clear hx hy0 hs
 go_enter Tryz.func53, Tryz.ntmps53
 go_wp2_with fail
 refine (itoa_any x HX.out.1 HX.out.2 _ (HG.out.below B0.out)).mono ?_
 rintro e w1 ⟨rfl, hb1⟩
 have X1 := hide (X0.out.below hb1)
 have B1 := hide (B0.out.trans (hb1.mono B0.out.size))
 clear hb1 X0 B0
 obtain ⟨d0, d1, d2, d3, d4, d5⟩ := box5 X1.out
 have hlt : w.heap.size < w1.heap.size := X1.out.lt
 go_upto_region 27 with fail
 obtain ⟨V, hV⟩ : ∃ V, V = (w1.alloc (.cells #[.string ⟨#[115, 108, 105, 100, 101]⟩, .string (itB x)] 9)).alloc (.cells #[.int .i64 5, .int .i64 x, .int .i64 0, .int .i64 0, .bool false] 36) := ⟨_, rfl⟩
 obtain ⟨g, hg⟩ : ∃ g, g = w1.heap.size := ⟨_, rfl⟩
 obtain ⟨gs, hgs⟩ : ∃ gs, gs = w1.heap.size + 1 := ⟨_, rfl⟩
 obtain ⟨gm, hgm⟩ : ∃ gm, gm = w.heap.size := ⟨_, rfl⟩
 have L := hide (show LNB w gm gs g [.int .i64 5, .int .i64 x, .int .i64 y, .int .i64 s, .bool o] [.int .i64 5, .int .i64 x, .int .i64 0, .int .i64 0, .bool false] (.slice (some ⟨g, 0, none⟩) 2 2) [.string ⟨#[115, 108, 105, 100, 101]⟩, .string (itB x)] V by
  rw [hV, hgs, hg, hgm]
  exact ⟨(X1.out.alloc _).alloc _, row_at (vs := [.int .i64 5, .int .i64 x, .int .i64 0, .int .i64 0, .bool false]) (by simp), row_owns ((row_at (vs := [.string ⟨#[115, 108, 105, 100, 101]⟩, .string (itB x)]) rfl).alloc _) (Nat.le_refl _) rfl (by unfold maxLen; omega), by omega, ⟨by omega, by omega, by omega⟩, (B1.out.alloc B1.out.size _).alloc (by simp; have := B1.out.size; omega) _⟩)
 rw [← hV, ← hgs, ← hg, ← hgm]
 clear hV hgs hg hgm d0 d1 d2 d3 d4 d5 X1 B1 hlt
 obtain ⟨d0, d1, d2, d3, d4, d5⟩ := box5 L.out.fm
 obtain ⟨i0, hi0, hz0, hz1, hz2⟩ := info_parts strInfo
 obtain ⟨w5, hw5⟩ : ∃ z, z = V := ⟨_, rfl⟩
 obtain ⟨g5, hg5⟩ : ∃ z, z = g := ⟨_, rfl⟩
 obtain ⟨c5, hc5⟩ : ∃ z, z = 2 := ⟨_, rfl⟩
 have L5 := hide (show LNB w gm gs g [.int .i64 5, .int .i64 x, .int .i64 y, .int .i64 s, .bool o] [.int .i64 5, .int .i64 x, .int .i64 0, .int .i64 0, .bool false] (.slice (some ⟨g5, 0, none⟩) 2 c5) (([⟨#[115, 108, 105, 100, 101]⟩, itB x] : List ByteArray).map .string) w5 by rw [hw5, hg5, hc5]; exact L.out)
 rw [← hw5]
 rw [← hg5]
 rw [show (Value.slice (some ⟨g5, 0, none⟩) 2 2) = Value.slice (some ⟨g5, 0, none⟩) 2 c5 by rw [hc5]]
 clear hw5 hg5 hc5 L d0 d1 d2 d3 d4 d5
 obtain ⟨d0, d1, d2, d3, d4, d5⟩ := box5 L5.out.fm
 obtain ⟨e0, e1, e2, e3, e4, e5⟩ := box5 L5.out.fs
 have L6 := hide (L5.out.below (Below.refl w5.heap.size w5).drew)
 have hown := own_str (xs := [⟨#[115, 108, 105, 100, 101]⟩, itB x]) L6.out.own
 have HJ := hide hown.1
 have hjb := hown.2
 have hcap : 2 ≤ c5 := own_cap L5.out.own
 have HJL := hide (show (Lib.join (([⟨#[115, 108, 105, 100, 101]⟩, itB x] : List ByteArray).map (·.data.toList)) (⟨#[32]⟩ : ByteArray).data.toList).length ≤ 140737488355328 from Nat.le_trans (join_small _ _ 1 (by decide) (by
  intro z hz
  have h1 := itB_len x HX.out.1 HX.out.2
  have h2 := itB_len s HS.out.1 HS.out.2
  have h4 := itB_len y HY.out.1 HY.out.2
  have h3 : (sdB true).data.toList.length ≤ 30 ∧ (sdB false).data.toList.length ≤ 30 := by decide
  obtain ⟨h3, h3'⟩ := h3
  simp only [List.map_cons, List.map_nil, List.mem_cons, List.not_mem_nil, or_false] at hz
  rcases hz with rfl <;> assumption) (by simp)) (by omega))
 clear hown
 by_cases hy : y = 0
 ·subst hy
  by_cases hs : s = 0
  ·subst hs
   cases o with
   | false =>
     go_region_held3 (fun w' => w'.cell? ⟨gm, 0, none⟩ = some (.int .i64 5) ∧ w'.cell? ⟨gm, 1, none⟩ = some (.int .i64 x) ∧ w'.cell? ⟨gm, 2, none⟩ = some (.int .i64 0) ∧ w'.cell? ⟨gm, 3, none⟩ = some (.int .i64 0) ∧ w'.cell? ⟨gm, 4, none⟩ = some (.bool false) ∧ w'.cell? ⟨gs, 0, none⟩ = some (.int .i64 5) ∧ w'.cell? ⟨gs, 1, none⟩ = some (.int .i64 x) ∧ w'.cell? ⟨gs, 2, none⟩ = some (.int .i64 0) ∧ w'.cell? ⟨gs, 3, none⟩ = some (.int .i64 0) ∧ w'.cell? ⟨gs, 4, none⟩ = some (.bool false))
      (first | go_keep | assumption | (exact ⟨k0, k1, k2, k3, k4, p0, p1, p2, p3, p4⟩))
      (first
      | (go_at_call 105
         refine Calls.mono (Tryz.strings_Join g5 0 c5 [⟨#[115, 108, 105, 100, 101]⟩, itB x] ⟨#[32]⟩ _ HJ.out hjb (by show 2 ≤ _; omega) hcap HJL.out) ?_
         rintro e w6 ⟨rfl, hb6⟩
         obtain ⟨k0, k1, k2, k3, k4, k5⟩ := box5 (L6.out.fm.below hb6)
         obtain ⟨p0, p1, p2, p3, p4, p5⟩ := box5 (L6.out.fs.below hb6)
         have HF := hide (L6.out.bel.trans (hb6.mono L6.out.bel.size))))
     all_goals (go_wp2_with fail)
     all_goals (go_ret2; exact ⟨rfl, HF.out⟩)
   | true =>
     have HB := hide (show lnB ⟨5, x, 0, 0, true⟩ = false by simp [lnB, *])
     go_region_held3 (fun w' => w'.cell? ⟨gm, 0, none⟩ = some (.int .i64 5) ∧ w'.cell? ⟨gm, 1, none⟩ = some (.int .i64 x) ∧ w'.cell? ⟨gm, 2, none⟩ = some (.int .i64 0) ∧ w'.cell? ⟨gm, 3, none⟩ = some (.int .i64 0) ∧ w'.cell? ⟨gm, 4, none⟩ = some (.bool true) ∧ w'.cell? ⟨gs, 0, none⟩ = some (.int .i64 5) ∧ w'.cell? ⟨gs, 1, none⟩ = some (.int .i64 x) ∧ w'.cell? ⟨gs, 2, none⟩ = some (.int .i64 0) ∧ w'.cell? ⟨gs, 3, none⟩ = some (.int .i64 0) ∧ w'.cell? ⟨gs, 4, none⟩ = some (.bool false))
      (first | go_keep | assumption | (exact ⟨k0, k1, k2, k3, k4, p0, p1, p2, p3, p4⟩))
      (first
      | (go_at_call 105
         refine Calls.mono (Tryz.strings_Join g5 0 c5 [⟨#[115, 108, 105, 100, 101]⟩, itB x] ⟨#[32]⟩ _ HJ.out hjb (by show 2 ≤ _; omega) hcap HJL.out) ?_
         rintro e w6 ⟨rfl, hb6⟩
         obtain ⟨k0, k1, k2, k3, k4, k5⟩ := box5 (L6.out.fm.below hb6)
         obtain ⟨p0, p1, p2, p3, p4, p5⟩ := box5 (L6.out.fs.below hb6)
         have HF := hide (L6.out.bel.trans (hb6.mono L6.out.bel.size))))
     all_goals (go_wp2_with fail)
     all_goals (go_ret2; exact ⟨by rw [HB.out]; rfl, HF.out⟩)
  ·have hs2 : ¬ (0 : Int) = s := fun e => hs e.symm
   have hs3 : ((0 : Int) == s) = false := by rw [beq_eq_false_iff_ne]; exact hs2
   have HB := hide (show lnB ⟨5, x, 0, s, o⟩ = false by simp [lnB, *])
   go_region_held3 (fun w' => w'.cell? ⟨gm, 0, none⟩ = some (.int .i64 5) ∧ w'.cell? ⟨gm, 1, none⟩ = some (.int .i64 x) ∧ w'.cell? ⟨gm, 2, none⟩ = some (.int .i64 0) ∧ w'.cell? ⟨gm, 3, none⟩ = some (.int .i64 s) ∧ w'.cell? ⟨gm, 4, none⟩ = some (.bool o) ∧ w'.cell? ⟨gs, 0, none⟩ = some (.int .i64 5) ∧ w'.cell? ⟨gs, 1, none⟩ = some (.int .i64 x) ∧ w'.cell? ⟨gs, 2, none⟩ = some (.int .i64 0) ∧ w'.cell? ⟨gs, 3, none⟩ = some (.int .i64 0) ∧ w'.cell? ⟨gs, 4, none⟩ = some (.bool false))
    (first | go_keep | assumption | (exact ⟨k0, k1, k2, k3, k4, p0, p1, p2, p3, p4⟩))
    (first
    | (go_at_call 105
       refine Calls.mono (Tryz.strings_Join g5 0 c5 [⟨#[115, 108, 105, 100, 101]⟩, itB x] ⟨#[32]⟩ _ HJ.out hjb (by show 2 ≤ _; omega) hcap HJL.out) ?_
       rintro e w6 ⟨rfl, hb6⟩
       obtain ⟨k0, k1, k2, k3, k4, k5⟩ := box5 (L6.out.fm.below hb6)
       obtain ⟨p0, p1, p2, p3, p4, p5⟩ := box5 (L6.out.fs.below hb6)
       have HF := hide (L6.out.bel.trans (hb6.mono L6.out.bel.size))))
   all_goals (go_wp2_with fail)
   all_goals (go_ret2; exact ⟨by rw [HB.out]; rfl, HF.out⟩)
 ·have hy2 : ¬ (0 : Int) = y := fun e => hy e.symm
  have hy3 : ((0 : Int) == y) = false := by rw [beq_eq_false_iff_ne]; exact hy2
  have HB := hide (show lnB ⟨5, x, y, s, o⟩ = false by simp [lnB, *])
  go_region_held3 (fun w' => w'.cell? ⟨gm, 0, none⟩ = some (.int .i64 5) ∧ w'.cell? ⟨gm, 1, none⟩ = some (.int .i64 x) ∧ w'.cell? ⟨gm, 2, none⟩ = some (.int .i64 y) ∧ w'.cell? ⟨gm, 3, none⟩ = some (.int .i64 s) ∧ w'.cell? ⟨gm, 4, none⟩ = some (.bool o) ∧ w'.cell? ⟨gs, 0, none⟩ = some (.int .i64 5) ∧ w'.cell? ⟨gs, 1, none⟩ = some (.int .i64 x) ∧ w'.cell? ⟨gs, 2, none⟩ = some (.int .i64 0) ∧ w'.cell? ⟨gs, 3, none⟩ = some (.int .i64 0) ∧ w'.cell? ⟨gs, 4, none⟩ = some (.bool false))
   (first | go_keep | assumption | (exact ⟨k0, k1, k2, k3, k4, p0, p1, p2, p3, p4⟩))
   (first
   | (go_at_call 105
      refine Calls.mono (Tryz.strings_Join g5 0 c5 [⟨#[115, 108, 105, 100, 101]⟩, itB x] ⟨#[32]⟩ _ HJ.out hjb (by show 2 ≤ _; omega) hcap HJL.out) ?_
      rintro e w6 ⟨rfl, hb6⟩
      obtain ⟨k0, k1, k2, k3, k4, k5⟩ := box5 (L6.out.fm.below hb6)
      obtain ⟨p0, p1, p2, p3, p4, p5⟩ := box5 (L6.out.fs.below hb6)
      have HF := hide (L6.out.bel.trans (hb6.mono L6.out.bel.size))))
  all_goals (go_wp2_with fail)
  all_goals (go_ret2; exact ⟨by rw [HB.out]; rfl, HF.out⟩)
set_option maxRecDepth 100000 in
set_option maxHeartbeats 4000000 in
theorem line_no (k x y s : Int) (o : Bool) (w : World) (hg : GV w) (hx : -9223372036854775808 ≤ x ∧ x ≤ 9223372036854775807) (hk : k < 1 ∨ 5 < k) :
 Calls Tryz.prog 53 #[.agg #[.int .i64 k, .int .i64 x, .int .i64 y, .int .i64 s, .bool o]] w fun e w' => e = .returned (.tuple #[.string ⟨#[]⟩, .bool false]) ∧ Below w.heap.size w w' := by
 have HG := hide hg
 clear hg
 have X0 := hide (row_at (W := w) (g := w.heap.size) (t := 36) (vs := [.int .i64 k, .int .i64 x, .int .i64 y, .int .i64 s, .bool o]) rfl)
 have B0 := hide (show Below w.heap.size w (w.alloc (.cells #[.int .i64 k, .int .i64 x, .int .i64 y, .int .i64 s, .bool o] 36)) from (Below.refl _ _).alloc (Nat.le_refl _) _)
 have HX := hide hx
 have e1 : (k == 1) = false := by rw [beq_eq_false_iff_ne]; omega
 have e2 : (k == 2) = false := by rw [beq_eq_false_iff_ne]; omega
 have e3 : (k == 3) = false := by rw [beq_eq_false_iff_ne]; omega
 have e4 : (k == 4) = false := by rw [beq_eq_false_iff_ne]; omega
 have e5 : (k == 5) = false := by rw [beq_eq_false_iff_ne]; omega
 clear hx hk
 go_enter Tryz.func53, Tryz.ntmps53
 go_wp2_with fail
 refine (itoa_any x HX.out.1 HX.out.2 _ (HG.out.below B0.out)).mono ?_
 rintro e w1 ⟨rfl, hb1⟩
 have X1 := hide (X0.out.below hb1)
 have B1 := hide (B0.out.trans (hb1.mono B0.out.size))
 clear hb1 X0 B0
 obtain ⟨d0, d1, d2, d3, d4, d5⟩ := box5 X1.out
 have hlt : w.heap.size < w1.heap.size := X1.out.lt
 have BB := hide (show Below w.heap.size w ((w1.alloc (.cells #[.string ⟨#[]⟩, .string (itB x)] 9)).alloc (.cells #[.int .i64 k, .int .i64 x, .int .i64 0, .int .i64 0, .bool false] 36)) from (B1.out.alloc B1.out.size _).alloc (by simp; have := B1.out.size; omega) _)
 go_wp2_with fail
 go_ret2
 exact ⟨rfl, BB.out⟩
theorem line_any (z : Mv) (w : World) (hg : GV w) (hx : -9223372036854775808 ≤ z.x ∧ z.x ≤ 9223372036854775807) (hy : -9223372036854775808 ≤ z.y ∧ z.y ≤ 9223372036854775807) (hs : -9223372036854775808 ≤ z.sign ∧ z.sign ≤ 9223372036854775807) :
 Calls Tryz.prog 53 #[z.v] w fun e w' => e = .returned (.tuple #[.string (lnT z), .bool (lnB z)]) ∧ Below w.heap.size w w' := by
 obtain ⟨k, x, y, s, o⟩ := z
 by_cases h1 : k = 1
 ·subst h1
  cases o with
  | true => exact line_1_true x y s w hg hx hy hs
  | false => exact line_1_false x y s w hg hx hy hs
 by_cases h2 : k = 2
 ·subst h2; exact line_2 x y s o w hg hx hy hs
 by_cases h3 : k = 3
 ·subst h3
  cases o with
  | true => exact line_3_true x y s w hg hx hy hs
  | false => exact line_3_false x y s w hg hx hy hs
 by_cases h4 : k = 4
 ·subst h4; exact line_4 x y s o w hg hx hy hs
 by_cases h5 : k = 5
 ·subst h5; exact line_5 x y s o w hg hx hy hs
 have hT : lnT ⟨k, x, y, s, o⟩ = ⟨#[]⟩ := by simp [lnT, lnW, h1, h2, h3, h4, h5, Lib.join]
 have hB : lnB ⟨k, x, y, s, o⟩ = false := by simp [lnB, h1, h2, h3, h4, h5]
 rw [hT, hB]
 exact line_no k x y s o w hg hx (by omega)
end Go.Proofs.YtlffopdoeobgaaaGreatDoor
end
