/-
 The texts Bzj in one.
-/
import Derived.Test.YtcaoblilkgajoaaDoorF10
import Derived.Test.YtcaoblilkgajoaaDoorF09
import Derived.Test.YtcaoblilkgajoaaDoorF08
import Derived.Test.YtcaoblilkgajoaaDoorF03
import Derived.Test.YtcaoblilkgajoaaDoorF00
import Derived.Test.YtcaoblilkgajoaaDoorF02
import Derived.Test.YtcaoblilkgajoaaDoorF04
import Derived.Deep.RegionWith
import Derived.Deep.DeepCutAuto
import Derived.Deep.CutBlock
import Derived.Deep.RegionHeld3
import Derived.Deep.DrawnRows
import Derived.Test.YtcaoblilkgajoaaDoorF06
import Derived.Deep.RegionHeldLaw
set_option linter.unusedVariables false
set_option linter.unusedSimpArgs false
section
namespace Go.Proofs.YtcaoblilkgajoaaDoor
open Go Go.RowKit
attribute [local go_sem ↓] Go.wp_at_zero Go.wp_at_succ
theorem own_emptyB {W : World} {base g : Nat} (hg : W.heap.size = g) (hb : base ≤ g) : (W.alloc (.cells #[] 3)).ownsRow base 3 1 (.slice (some ⟨g, 0, none⟩) 0 0) 0 [] := by
 subst hg
 exact ⟨rfl, .inr ⟨W.heap.size, 0, #[], rfl, hb, heap_alloc_new W _, Nat.le_refl _, by unfold maxLen; omega, by simp, by simp⟩⟩
theorem own_drw {W : World} {base : Nat} {e : TypeId} {v : Value} {n : Nat} {xs : List Value} (h : W.ownsRow base e 1 v n xs) : W.drew.ownsRow base e 1 v n xs := h
theorem step_app {P : Program} {W0 W : World} {ops : Array Oper} {o : Oper} {a : Act} {K : Act → World → Prop} {Q : Exit → Act → World → Prop} {E : Prop} (hgd : o.guard = none) (s x : Operand) (t : TypeId)
 (ho : o.op = .call { callee := .builtin .append, args := #[s, x], argTypes := #[t, t] })
 (e : TypeId) (he : e = 3) (i : TypeInfo) (z : Value) (ht : P.underlying t = some (.slice e)) (hi : P.info? e = some i) (hz : i.zero = some z)
 (hsize : i.size = 1) (hby : i.bytes = 8) (hzs : z.cells.size = 1)
 (v : Value) (n : Nat) (xs : List Value) (hs : a.eval s = v)
 (A : Option Addr) (m c : Nat) (zs : List Int) (hx : a.eval x = .slice A m c) (hin : IntsAt W0 A m zs)
 (hnm : n + m ≤ 100000) (hK : KB W0 W) (hown : W.ownsRow W0.heap.size e 1 v n xs)
 (h : ∀ (A' : Option Addr) (c' : Nat) (w' : World), KB W0 w' → w'.ownsRow W0.heap.size 3 1 (.slice A' (n + m) c') (n + m) (xs ++ zs.map (.int .i64)) → (∀ (g : Nat) (vs : List Value), Row W g 24 vs → Row w' g 24 vs) → K (a.put o.dst (.slice A' (n + m) c')) w') :
 if Region.wanted o (yielded ops a.tmps) = true then Oper.wp P o a W K Q else E := by
 subst he
 have hw : Region.wanted o (yielded ops a.tmps) = true := by simp [Region.wanted, hgd]
 rw [if_pos hw]
 refine wp_append_ints W s x t ho W0.heap.size 3 i z 8 ht hi hz hsize hby hzs v n xs hs hown A m c zs hx (hin.keep hK.bel) (by unfold maxLen; omega) (by omega) hK.bel.size fun v' w' h2 h3 => ?_
 obtain ⟨A', c', rfl⟩ := owns_slice h2
 refine h A' c' w' ⟨hK.bel.grown h3 hK.bel.size (fun k hk => (hown.lt k hk).1)⟩ h2 fun g vs hr => hr.grown h3 ?_
 intro e
 obtain ⟨cs, fr, h4⟩ := ownsRow_block hown g e.symm
 rw [hr] at h4
 injection h4 with h4
 injection h4 with _ h5
 exact absurd h5 (by decide)
theorem step_app0 {P : Program} {W0 W : World} {ops : Array Oper} {o : Oper} {a : Act} {K : Act → World → Prop} {Q : Exit → Act → World → Prop} {E : Prop} (hgd : o.guard = none) (s x : Operand) (t : TypeId)
 (ho : o.op = .call { callee := .builtin .append, args := #[s, x], argTypes := #[t, t] })
 (e : TypeId) (he : e = 3) (i : TypeInfo) (z : Value) (ht : P.underlying t = some (.slice e)) (hi : P.info? e = some i) (hz : i.zero = some z)
 (hsize : i.size = 1) (hby : i.bytes = 8) (hzs : z.cells.size = 1)
 (v : Value) (hs : a.eval s = v)
 (A : Option Addr) (m c : Nat) (zs : List Int) (hx : a.eval x = .slice A m c) (hin : IntsAt W0 A m zs)
 (hnm : m ≤ 100000) (hK : KB W0 W) (hown : W.ownsRow W0.heap.size e 1 v 0 [])
 (h : ∀ (A' : Option Addr) (c' : Nat) (w' : World), KB W0 w' → w'.ownsRow W0.heap.size 3 1 (.slice A' m c') m (zs.map (.int .i64)) → (∀ (g : Nat) (vs : List Value), Row W g 24 vs → Row w' g 24 vs) → K (a.put o.dst (.slice A' m c')) w') :
 if Region.wanted o (yielded ops a.tmps) = true then Oper.wp P o a W K Q else E :=
 step_app hgd s x t ho e he i z ht hi hz hsize hby hzs v 0 [] hs A m c zs hx hin (by omega) hK hown (by
  intro A' c' w' h1 h2 h3
  rw [Nat.zero_add, List.nil_append] at h2
  rw [Nat.zero_add]
  exact h A' c' w' h1 h2 h3)
theorem same_w (a b : Pl.Dg) (ha : Pl.Valid a) (hb : Pl.Valid b) (ha20 : a.n ≤ 20) (hb20 : b.n ≤ 20) (hI : ∃ σ, Pl.Iso a b σ) (A B C D : Option Addr) (na nb la lb cp cq m cp' cq' m' : Nat) (w : World) (h1 : na = a.n) (h2 : nb = b.n) (h3 : la = a.lp) (h4 : lb = b.lp) (hm : m = 4 * a.n) (hg : DgAt w A B a) (hm' : m' = 4 * b.n) (hg' : DgAt w C D b) :
 Calls Tryd.prog 17 #[.agg #[.slice A na cp, .slice B m cq, .int .i64 (la : Int)], .agg #[.slice C nb cp', .slice D m' cq', .int .i64 (lb : Int)]] w fun e w' => e = .returned (.bool true) ∧ Below w.heap.size w w' := by
 subst h1 h2 h3 h4
 refine (same_yes20 a b ha hb ha20 hb20 A B C D cp cq m cp' cq' m' w hm hg hm' hg').mono ?_
 rintro e w' ⟨he, hb'⟩
 exact ⟨by rw [he, Pl.vb_true hI], hb'⟩
theorem closure_w {q : Nat} {ws : List Int} (hv : Pl.BV (q : Int) ws) (A : Option Addr) (n c : Nat) (w : World) (hw : IntsAt w A n ws) (hn : n ≤ 64) :
 Calls Tryd.prog 12 #[.agg #[.int .i64 (q : Int), .slice A n c]] w fun e w' => ∃ (S B : Option Addr) (c' lp m : Nat), e = .returned (.tuple #[.agg #[.slice S n c', .slice B m m, .int .i64 (lp : Int)], .int .i64 0]) ∧ n = (Pl.clD q ws).n ∧ lp = (Pl.clD q ws).lp ∧ m = 4 * (Pl.clD q ws).n ∧ DgAt w' S B (Pl.clD q ws) ∧ Below w.heap.size w w' := by
 have hl := hw.len
 refine (closure_any (q : Int) ws A n c w hw hn).mono ?_
 rintro e w' ⟨_, h, hb⟩
 obtain ⟨S, B, c', he, hD⟩ := h hv
 rw [Int.toNat_natCast, hl] at he
 rw [Int.toNat_natCast] at hD
 exact ⟨S, B, c', _, _, he, by rw [Pl.clD_n]; exact hl.symm, rfl, by rw [Pl.clD_n, hl], hD, hb⟩
theorem clD_val {q : Nat} {ws : List Int} (hv : Pl.BV (q : Int) ws) (hL : ws.length ≤ 64) : Pl.Valid (Pl.clD q ws) := by
 have hok : Pl.WOk q ws := by have := hv.wok; rwa [Int.toNat_natCast] at this
 refine Pl.clD_valid hok hL ?_
 rw [Pl.clD_lp hok]
 have h2 : ∀ k, Pl.rcL ws k ≤ k := by
  intro k
  induction k with
  | zero => exact Nat.le_refl _
  | succ k ih =>
    show Pl.rcL ws k + (if Pl.nxW ws 0 k < 0 then 1 else 0) ≤ k + 1
    split <;> omega
 have := h2 q
 have := hv.2.1
 omega
set_option maxRecDepth 100000 in
set_option maxHeartbeats 8000000 in
theorem braidRotates_walk (s : Int) (ws : List Int) (A : Option Addr) (n c τ : Nat) (w : World) (hw : IntsAt w A n ws) (hn : n ≤ maxLen) (hnc : n ≤ c) (hcm : c ≤ maxLen) (hτ : τ < 256) (hg : GV w) (hw0 : 0 < w.heap.size) :
 Calls Tryd.prog 4 #[.agg #[.int .i64 s, .slice A n c], .int .u8 (τ : Int)] w fun e w' => e = .returned (.bool true) ∧ Below w.heap.size w w' := by
 have HG := hide hg
 have HN := hide hn
 have HL := hide hw.len
 unfold maxLen at hn hcm
 have L0 := hide (show LB w [(w.heap.size, [.int .i64 s, .slice A n c])] [(A, n, ws)] (w.alloc (.cells #[.int .i64 s, .slice A n c] 24)) from
  LB.newR (L := []) ⟨fun p hp => by simp at hp, fun q hq => by
   simp only [List.mem_cons, List.not_mem_nil, or_false] at hq
   subst hq
   exact hw, Below.refl _ _⟩ _ _)
 have S0 := hide (show 0 < (w.alloc (.cells #[.int .i64 s, .slice A n c] 24)).heap.size by simp)
 clear hg hw
 go_enter Tryd.func4, Tryd.ntmps4
 go_wp2_with fail
 refine (awake33 _ (HG.out.below L0.out.bel) S0.out).mono ?_
 rintro e w1 ⟨rfl, hb1⟩
 have L1 := hide (L0.out.below hb1)
 clear hb1 L0 S0
 obtain ⟨d0, d1, d2⟩ := L1.out.row (.head _)
 by_cases h20 : 20 < n
 ·have hi : (20 : Int) < (n : Int) := by omega
  go_wp2
  go_ret
  exact ⟨rfl, L1.out.bel⟩
 ·have hi : ¬ ((20 : Int) < (n : Int)) := by omega
  by_cases h0 : n = 0
  ·have hi0 : (n : Int) = 0 := by omega
   go_wp2
   go_ret
   exact ⟨rfl, L1.out.bel⟩
  ·have hi0 : ¬ ((n : Int) = 0) := by omega
   go_wp2_with fail
   refine (bvalid_any s ws A n c _ (L1.out.int (.head _)) HN.out).mono ?_
   rintro e w2 ⟨rfl, hb2⟩
   have L2 := hide (L1.out.below hb2)
   clear hb2 L1 d0 d1 d2
   obtain ⟨d0, d1, d2⟩ := L2.out.row (.head _)
   by_cases hv : Pl.BV s ws
   ·rw [Pl.vb_true hv]
    obtain ⟨q, rfl⟩ : ∃ q : Nat, s = (q : Int) := ⟨s.toNat, by have := hv.1; omega⟩
    have HV := hide hv
    obtain ⟨k, hk⟩ : ∃ k, k = τ % n := ⟨_, rfl⟩
    have hkn : k < n := by rw [hk]; exact Nat.mod_lt _ (by omega)
    have t1 : (τ : Int).tmod (n : Int) = (k : Int) := by
     rw [hk, Int.tmod_eq_emod_of_nonneg (by omega)]
     exact (Int.natCast_emod τ n).symm
    have hn20 : n ≤ 20 := by omega
    have hzb : ((n : Int) == 0) = false := by rw [beq_eq_false_iff_ne]; exact hi0
    have k0 : (0 : Int) ≤ (k : Int) := by omega
    have kn : (k : Int) ≤ (n : Int) := by omega
    obtain ⟨A1, hA1, run1⟩ := cut_hi (L2.out.int (.head _)) (k := k) (by omega) hnc
    obtain ⟨A2, hA2, run2⟩ := cut_lo (L2.out.int (.head _)) (k := k) (by omega) hnc
    have HA1 := hide hA1
    have HA2 := hide hA2
    have HLT := hide (show n - k + k = n by omega)
    have HVT := hide (HV.out.turn (k := k) (by rw [HL.out]; omega))
    have HIS := hide (Pl.rtW_iso (n := q) (ws := ws) (k := k) (by have := HV.out.wok; rwa [Int.toNat_natCast] at this) (by rw [HL.out]; omega))
    have HV1 := hide (clD_val HV.out (by rw [HL.out]; omega))
    have HV2 := hide (clD_val HVT.out (by rw [Pl.rtW_len ws (by rw [HL.out]; omega), HL.out]; omega))
    obtain ⟨i0, hi0', hz0, hz1, hz2⟩ := info_parts intInfo
    clear hA1 hA2 hv hk h20 h0 hi
    go_upto_region 6 with fail
    go_cut [6] (fun s6 wx => ∃ (g6 : Nat) (B2 : Option Addr) (c2 nn : Nat), nn = n ∧ s6 = .pointer (some ⟨g6, 0, none⟩) ∧ LB w [(g6, [.int .i64 (q : Int), .slice B2 nn c2]), (w.heap.size, [.int .i64 (q : Int), .slice A n c])] [(B2, nn, Pl.rtW ws k), (A, n, ws)] wx)
    case first =>
     go_region_held_law (fun w' => w'.cell? ⟨w.heap.size, 0, none⟩ = some (.int .i64 (q : Int)) ∧ w'.cell? ⟨w.heap.size, 1, none⟩ = some (.slice A n c) ∧ KB w2 w')
      ((go_split_ands; refine KB.one L2.out (.head _) ?_; (repeat (first | (with_reducible assumption) | (with_reducible exact KB.refl _) | (with_reducible refine KB.drew ?_) | (with_reducible refine KB.alloc ?_ _) | (with_reducible refine KB.set ?_ ?_) | omega))))
      ((first
        | (refine step_app (W0 := w2) (by rfl) _ _ 22 (by rfl) 3 rfl i0 (.int .i64 0) Tryd.underlying22 hi0' hz0 hz1 hz2 (by rfl) (.slice A9 (n - k) c9) (n - k) _ (by rfl) A2 k c (ws.take k) (by rfl) HA2.out (by omega) (by (repeat (first | (with_reducible assumption) | (with_reducible exact KB.refl _) | (with_reducible refine KB.drew ?_) | (with_reducible refine KB.alloc ?_ _) | (with_reducible refine KB.set ?_ ?_) | omega))) (by first | exact own9 | exact World.ownsRow.alloc own9 _ | exact own_drw (World.ownsRow.alloc own9 _)) ?_; intro A10 c10 w10 hk10 own10 hR10; first | (have qr10 := hR10 _ _ qr9; obtain ⟨qa, qb, qc⟩ := box2b qr10; have ql := Row.lt qr10) | (have qn := hR10 w9.heap.size [.int .i64 0, .slice none 0 0]; have qr10 := qn (Row2.new rfl); obtain ⟨qa, qb, qc⟩ := box2b qr10; have ql := Row.lt qr10) | skip; rw [← List.map_append] at own10; change World.ownsRow w10 _ _ _ _ _ ((Pl.rtW ws k).map (.int .i64)) at own10)
        | (refine step_app0 (W0 := w2) (by rfl) _ _ 22 (by rfl) 3 rfl i0 (.int .i64 0) Tryd.underlying22 hi0' hz0 hz1 hz2 (by rfl) (.slice (some ⟨_, 0, none⟩) 0 0) (by rfl) A1 (n - k) (c - k) (ws.drop k) (by rfl) HA1.out (by omega) (by (repeat (first | (with_reducible assumption) | (with_reducible exact KB.refl _) | (with_reducible refine KB.drew ?_) | (with_reducible refine KB.alloc ?_ _) | (with_reducible refine KB.set ?_ ?_) | omega))) (by repeat (first | ((with_reducible refine own_emptyB ?_ ?_) <;> first | rfl | omega | (simp; done) | (simp; omega)) | (with_reducible refine own_drw ?_) | (with_reducible refine World.ownsRow.alloc ?_ _))) ?_; intro A9 c9 w9 hk9 own9 hR9; have z9 := hk9.bel.size; first | (have qn := hR9 w2.heap.size [.int .i64 0, .slice none 0 0]; have qr9 := qn (Row.drew (Row.alloc (Row2.new rfl) _)); obtain ⟨qa, qb, qc⟩ := box2b qr9; have ql := Row.lt qr9) | (have qn := hR9 (w2.heap.size + 1) [.int .i64 0, .slice none 0 0]; have qr9 := qn (Row.drew (Row2.new (World.size_alloc _ _))); obtain ⟨qa, qb, qc⟩ := box2b qr9; have ql := Row.lt qr9) | skip; go_simp)))
     all_goals (go_wp2_with fail; go_meet)
     all_goals (have HKB := hide (‹_ ∧ _ ∧ KB w2 _›).2.2)
     all_goals refine ⟨_, A10, c10, n - k + k, HLT.out, rfl, LB.put (LB.addI (HKB.out.lb L2.out) (RowT.row (t := 3) ?_)) ?_⟩
     all_goals (have rt10 : RowT w10 3 A10 (n - k + k) ((Pl.rtW ws k).map (.int .i64)) := (by first | exact own_rowT own10 | (have h := own_rowT own10; rw [← List.map_append] at h; exact h)))
     all_goals (repeat' (first
      | (with_reducible assumption)
      | (with_reducible refine Row2.new ?_; (first | rfl | (simp; done)))
      | (with_reducible refine Row2.s1 (b := .slice none 0 0) ?_)
      | (with_reducible refine Row2.s0 (a := .int .i64 0) ?_)
      | (with_reducible refine Row.alloc ?_ _)
      | (with_reducible refine Row.drew ?_)
      | (with_reducible refine RowT.store (i := 1) (t' := 24) (vs := [.int .i64 (q : Int), .slice none 0 0]) ?_ ?_ (by decide) _)
      | (with_reducible refine RowT.store (i := 0) (t' := 24) (vs := [.int .i64 0, .slice none 0 0]) ?_ ?_ (by decide) _)
      | (with_reducible refine RowT.alloc ?_ _)
      | (with_reducible refine RowT.drew ?_)))
    case rest =>
     clear d0 d1 d2 run1 run2 t1 hzb
     obtain ⟨g6, B2, c2, nn, hnn, rfl, hL⟩ := hcut
     subst hnn
     have L3 := hide hL
     clear hL L2
     obtain ⟨d0, d1, d2⟩ := L3.out.row (.tail _ (.head _))
     go_wp2_with fail
     refine (closure_w HV.out A nn c _ (L3.out.int (.tail _ (.head _))) (by omega)).mono ?_
     rintro e w4 ⟨S, B, c4, lp, m, rfl, h1, h2, h3, hD, hb⟩
     have L4 := hide ((L3.out.below hb).alloc (.cells #[.slice S nn c4, .slice B m m, .int .i64 (lp : Int)] 28))
     have Y4 := hide (row_at (W := w4) (g := w4.heap.size) (t := 28) (vs := [.slice S nn c4, .slice B m m, .int .i64 (lp : Int)]) rfl)
     have D4 := hide (hD.keep ((Below.refl _ _).alloc (Nat.le_refl _) (.cells #[.slice S nn c4, .slice B m m, .int .i64 (lp : Int)] 28)))
     have H1 := hide h1
     have H2 := hide h2
     have H3 := hide h3
     clear hb hD h1 h2 h3 L3 d0 d1 d2
     obtain ⟨d0, d1, d2⟩ := L4.out.row (.head _)
     go_wp2_with fail
     refine (closure_w HVT.out B2 nn c2 _ (L4.out.int (.head _)) (by omega)).mono ?_
     rintro e w6 ⟨S', B', c6, lp', m', rfl, h1, h2, h3, hD, hb⟩
     have L6 := hide ((L4.out.below hb).alloc (.cells #[.slice S' nn c6, .slice B' m' m', .int .i64 (lp' : Int)] 28))
     have Y6 := hide ((Y4.out.below hb).alloc (.cells #[.slice S' nn c6, .slice B' m' m', .int .i64 (lp' : Int)] 28))
     have D6 := hide ((D4.out.keep hb).keep ((Below.refl _ _).alloc (Nat.le_refl _) (.cells #[.slice S' nn c6, .slice B' m' m', .int .i64 (lp' : Int)] 28)))
     have Z6 := hide (row_at (W := w6) (g := w6.heap.size) (t := 28) (vs := [.slice S' nn c6, .slice B' m' m', .int .i64 (lp' : Int)]) rfl)
     have E6 := hide (hD.keep ((Below.refl _ _).alloc (Nat.le_refl _) (.cells #[.slice S' nn c6, .slice B' m' m', .int .i64 (lp' : Int)] 28)))
     have H4 := hide h1
     have H5 := hide h2
     have H6 := hide h3
     clear hb hD h1 h2 h3 L4 Y4 D4 d0 d1 d2
     obtain ⟨y0, y1, y2, y3⟩ := box3 Y6.out
     obtain ⟨z0, z1, z2, z3⟩ := box3 Z6.out
     go_wp2_with fail
     refine (same_w _ _ HV1.out HV2.out (by rw [← H1.out]; exact hn20) (by rw [← H4.out]; exact hn20) ⟨_, HIS.out⟩ S B S' B' nn nn lp lp' c4 m m c6 m' m' _ H1.out H4.out H2.out H5.out H3.out D6.out H6.out E6.out).mono ?_
     rintro e w7 ⟨rfl, hb7⟩
     go_wp2
     go_ret
     exact ⟨rfl, L6.out.bel.trans (hb7.mono L6.out.bel.size)⟩
   ·rw [Pl.vb_false hv]
    go_wp2
    go_ret
    exact ⟨rfl, L2.out.bel⟩
end Go.Proofs.YtcaoblilkgajoaaDoor
end
