/-
  The texts Bq, Br, Bt, Open, Xn, By, Bz, Bza in one.
-/
import Derived.Test.YtcaoblilkgajoaaDoorB14
import Derived.Test.YtcaoblilkgajoaaDoorB12
import Derived.RangeFuncNested
import Derived.RangeFuncBound
import Derived.RangeFuncCalls
import Derived.RangeFuncLeaves
import Derived.RangeFuncBox
import Derived.Shelf.Abstract
import Derived.Shelf.RegionOpen
import Derived.WalkKit
import Derived.OwnWalkIn
import Derived.TacticsInMore
import Derived.LoopNIn
import Derived.LoopIn
import Derived.Test.YtcaoblilkgajoaaDoorB00
import Derived.Test.YtcaoblilkgajoaaDoorRows
import Derived.ProofKit
import Derived.OpenShut
import Derived.Deep.Slices
import Derived.Deep.Fields
import Derived.ChangeSame
import Derived.Test.YtcaoblilkgajoaaDoorB03
import Derived.ChangeSlices
import Derived.Deep.Strs
import Derived.RangeFuncFrom
set_option linter.unusedVariables false
set_option linter.unusedSimpArgs false

section
namespace Go.Proofs.YtcaoblilkgajoaaDoor
open Go Go.RowKit
attribute [local go_sem ↓] Go.wp_at_zero Go.wp_at_succ
def RRedPost (ws : List Int) (w : World) (e : Ending) (w' : World) : Prop :=
  (∃ (B : Option Addr) (d : Nat), e = .returned (.slice B (Pl.rdW ws).length d) ∧ IntsAt w' B (Pl.rdW ws).length (Pl.rdW ws)) ∧ Below w.heap.size w w'
set_option maxRecDepth 100000 in
set_option maxHeartbeats 4000000 in
theorem rreduce_any (ws : List Int) (hbd : ∀ x, x ∈ ws → -10 ≤ x ∧ x ≤ 10) (A : Option Addr) (n c : Nat) (w : World) (hw : IntsAt w A n ws) (hn : n ≤ 200) :
    Calls Tryd.prog 29 #[.slice A n c] w (RRedPost ws w) := by
  have HL := hide hw.len
  have HW := hide hw
  have HBD := hide hbd
  clear hw hbd
  go_enter Tryd.func29, Tryd.ntmps29
  go_wp2_with fail
  go_loopg [3, 4, 5] n (fun g s3 i s5 wx => ∃ k : Nat, k + g = n ∧ i = .int .i64 (k : Int) ∧ wx.ownsRow w.heap.size 3 1 s3 (Pl.rdW (ws.take k)).length ((Pl.rdW (ws.take k)).map (.int .i64)) ∧ Below w.heap.size w wx)
  case atStart => exact ⟨0, by omega, rfl, World.ownsRow_nil _ _ _ _, Below.refl _ _⟩
  case round =>
    obtain ⟨k, hkg, rfl, ho, hb⟩ := hrel
    have HKG := hide hkg
    have OW := hide ho
    have HB := hide hb
    have hkn : k ≤ n := by omega
    clear hkg ho hb
    by_cases hk : k < n
    · have hki : (k : Int) < (n : Int) := by omega
      have k0 : (0 : Int) ≤ (k : Int) := by omega
      obtain ⟨b, o, rfl, x1⟩ := (HW.out.keep HB.out).at_ hk
      obtain ⟨x, hxm, hx, hxt⟩ := letter_at HL.out hk
      rw [hx] at x1
      have HXT := hide (show Pl.rdW (ws.take (k + 1)) = Pl.rdP (Pl.rdW (ws.take k)) x by rw [hxt, Pl.rdW_snoc])
      have hxb := HBD.out x hxm
      obtain ⟨hxb1, hxb2⟩ := hxb
      obtain ⟨st, hst⟩ : ∃ st, st = Pl.rdW (ws.take k) := ⟨_, rfl⟩
      have hsl : st.length ≤ 200 := by rw [hst]; have := Pl.rdW_len (ws.take k); rw [List.length_take] at this; omega
      rw [← hst] at OW HXT
      clear hx hxt hxm hst
      obtain ⟨A4, c4, rfl⟩ := owns_slice OW.out
      obtain ⟨i0, hi0, hz0, hz1, hz2⟩ := info_parts intInfo
      have hbig : w.heap.size ≤ wr.heap.size := HB.out.size
      by_cases hs0 : st = []
      · subst hs0
        have HR := hide (show Pl.rdP [] x = [x] by simp [Pl.rdP])
        go_upto_region 6 with fail
        go_quiet (fail)
        obtain ⟨V, hV⟩ : ∃ V, V = wr.drewN nq := ⟨_, rfl⟩
        have OV := hide (show V.ownsRow w.heap.size 3 1 (.slice A4 0 c4) 0 _ by rw [hV]; exact own_below OW.out (below_drewN (Below.refl _ _) _))
        have HBV := hide (show Below w.heap.size w V by rw [hV]; exact below_drewN HB.out _)
        have X1V := (show V.cell? ⟨b, o + k, none⟩ = some (.int .i64 x) by rw [hV]; exact x1)
        rw [← hV]
        clear hV x1
        have hbV : w.heap.size ≤ V.heap.size := HBV.out.size
        have OA := hide (own_below OV.out ((Below.refl V.heap.size V).alloc (Nat.le_refl _) (.cells #[.int .i64 x] 3)))
        go_wp2_with (at_builtin; refine wpList_append_lies _ (by rfl) _ _ 22 (by rfl) w.heap.size 3 i0 (.int .i64 0) 1 8 Tryd.underlying22 hi0 hz0 hz1 hz2 rfl (by omega) _ 0 _ (by rfl) OA.out ⟨V.heap.size, 0, none⟩ 1 1 [.int .i64 x] (by rfl) (by rfl) (one_news _ _) (by simp [Value.oneCell']) (by omega) (by unfold maxLen; omega) (by omega) (by simp; omega) (V.heap.size + 1) (by simp) ?_; intro g3 c3 w3 own3 grow3 at3 lt3; have OWN3 := hide own3; have GR3 := hide grow3; clear own3 grow3 at3)
        go_roundg (gk - 1)
        case measure => have := HKG.out; omega
        case rel => exact ⟨k + 1, by have := HKG.out; omega, by go_num, by rw [HXT.out, HR.out]; exact OWN3.out, (HBV.out.alloc hbV _).grown GR3.out (by simp; omega) (fun j hj => (OA.out.lt j hj).1)⟩
      · obtain ⟨l, y, rfl⟩ := snocI hs0
        obtain ⟨m, hm⟩ : ∃ m, m = l.length := ⟨_, rfl⟩
        have hlen : (l ++ [y]).length = m + 1 := by rw [hm]; simp
        rw [hlen] at OW hsl ⊢
        have HM := hide hm
        obtain ⟨hc1, hc2⟩ := own_capI OW.out (Nat.succ_pos m)
        have hc2' := hc2
        unfold maxLen at hc2'
        obtain ⟨g, cap, hA, hcap, hgl⟩ := World.ownsRow.form OW.out (Nat.succ_pos m)
        injection hA with hA _ hcc
        subst hA
        subst hcc
        have y1 : wr.cell? ⟨g, m, none⟩ = some (.int .i64 y) := by
          rw [World.ownsRow.cellAt OW.out _ (by omega), List.map_append, List.getElem?_append_right (by rw [List.length_map, hm]; exact Nat.le_refl _), List.length_map, hm, Nat.sub_self]
          rfl
        have i1 : (0 : Int) ≤ (m : Int) := by omega
        have i2 : (m : Int) < (m : Int) + 1 := by omega
        have i3 : (m : Int) + 1 - 1 = (m : Int) := by omega
        have i4 : (0 : Int) < (m : Int) + 1 := by omega
        clear hs0 hm hlen
        by_cases hyx : y = -x
        · have HR := hide (show Pl.rdP (l ++ [y]) x = l by unfold Pl.rdP; rw [List.getLast?_concat, if_pos (by rw [hyx]), List.dropLast_concat])
          have hcut := cut_own g m c4 (by omega) hc2
          have OS := hide (show wr.ownsRow w.heap.size 3 1 (.slice (some ⟨g, 0, none⟩) m c4) l.length (l.map (.int .i64)) from by
            have h := own_shrink OW.out
            rw [List.map_append, List.map_singleton, List.dropLast_concat] at h
            rw [← HM.out]
            exact h)
          have hyb : (y == -x) = true := by rw [beq_iff_eq]; exact hyx
          go_upto_region 6 with fail
          go_quiet (fail)
          go_wp2
          go_roundg (gk - 1)
          case measure => have := HKG.out; omega
          case rel => exact ⟨k + 1, by have := HKG.out; omega, by go_num, by rw [HXT.out, HR.out]; exact own_below OS.out (below_drewN (Below.refl _ _) _), below_drewN HB.out _⟩
        · have HR := hide (show Pl.rdP (l ++ [y]) x = l ++ [y] ++ [x] by unfold Pl.rdP; rw [List.getLast?_concat, if_neg (fun e => hyx (by injection e))])
          have hyb : (y == -x) = false := by rw [beq_eq_false_iff_ne]; exact hyx
          have HLE := hide (show (l ++ [y] ++ [x]).length = m + 1 + 1 by rw [HM.out]; simp)
          go_upto_region 6 with fail
          go_quiet (fail)
          obtain ⟨V, hV⟩ : ∃ V, V = wr.drewN nq := ⟨_, rfl⟩
          have OV := hide (show V.ownsRow w.heap.size 3 1 (.slice (some ⟨g, 0, none⟩) (m + 1) c4) (m + 1) _ by rw [hV]; exact own_below OW.out (below_drewN (Below.refl _ _) _))
          have HBV := hide (show Below w.heap.size w V by rw [hV]; exact below_drewN HB.out _)
          have X1V := (show V.cell? ⟨b, o + k, none⟩ = some (.int .i64 x) by rw [hV]; exact x1)
          rw [← hV]
          clear hV x1
          have hbV : w.heap.size ≤ V.heap.size := HBV.out.size
          have OA := hide (own_below OV.out ((Below.refl V.heap.size V).alloc (Nat.le_refl _) (.cells #[.int .i64 x] 3)))
          go_wp2_with (at_builtin; refine wpList_append_lies _ (by rfl) _ _ 22 (by rfl) w.heap.size 3 i0 (.int .i64 0) 1 8 Tryd.underlying22 hi0 hz0 hz1 hz2 rfl (by omega) _ (m + 1) _ (by rfl) OA.out ⟨V.heap.size, 0, none⟩ 1 1 [.int .i64 x] (by rfl) (by rfl) (one_news _ _) (by simp [Value.oneCell']) (by omega) (by unfold maxLen; omega) (by omega) (by simp; omega) (V.heap.size + 1) (by simp) ?_; intro g3 c3 w3 own3 grow3 at3 lt3; have OWN3 := hide own3; have GR3 := hide grow3; clear own3 grow3 at3)
          go_roundg (gk - 1)
          case measure => have := HKG.out; omega
          case rel => exact ⟨k + 1, by have := HKG.out; omega, by go_num, by
            rw [HXT.out, HR.out, HLE.out, List.map_append]
            exact OWN3.out, (HBV.out.alloc hbV _).grown GR3.out (by simp; omega) (fun j hj => (OA.out.lt j hj).1)⟩
    · have hki : ¬ ((k : Int) < (n : Int)) := by omega
      have HT := hide (show ws.take k = ws from List.take_of_length_le (by have := HL.out; omega))
      rw [HT.out] at OW
      obtain ⟨A4, c4, rfl⟩ := owns_slice OW.out
      have HF := hide (own_rowT OW.out).row
      go_wp2
      go_ret
      exact ⟨⟨A4, c4, rfl, HF.out⟩, HB.out⟩
end Go.Proofs.YtcaoblilkgajoaaDoor
end

section
namespace Go.Proofs.YtcaoblilkgajoaaDoor
open Go Go.RowKit
attribute [local go_sem ↓] Go.wp_at_zero Go.wp_at_succ
theorem great33 (s : Int) (A : Option Addr) (n c : Nat) (w : World) (hn : n ≤ maxLen) :
    Calls Tryd.prog 11 #[.agg #[.int .i64 s, .slice A n c]] w fun e w' => e = .returned (.bool (decide (30 < n))) ∧ Below w.heap.size w w' := by
  have X0 := hide (row_at (W := w) (g := w.heap.size) (t := 24) (vs := [.int .i64 s, .slice A n c]) rfl)
  have B0 := hide (show Below w.heap.size w (w.alloc (.cells #[.int .i64 s, .slice A n c] 24)) from (Below.refl _ _).alloc (Nat.le_refl _) _)
  obtain ⟨d0, d1, d2⟩ := box2b X0.out
  unfold maxLen at hn
  by_cases h : 30 < n
  · have hi : (30 : Int) < (n : Int) := by omega
    go_enter Tryd.func11, Tryd.ntmps11
    go_wp2
    go_ret
    exact ⟨ret_bool (by simp [h]), B0.out⟩
  · have hi : ¬ ((30 : Int) < (n : Int)) := by omega
    go_enter Tryd.func11, Tryd.ntmps11
    go_wp2
    go_ret
    exact ⟨ret_bool (by simp [h]), B0.out⟩
set_option maxRecDepth 100000 in
set_option maxHeartbeats 2000000 in
theorem bsame_any (s t : Int) (xs ys : List Int) (A B : Option Addr) (n m c d : Nat) (w : World) (hx : IntsAt w A n xs) (hy : IntsAt w B m ys) (hn : n ≤ 100000) (hm : m ≤ 100000) :
    Calls Tryd.prog 19 #[.agg #[.int .i64 s, .slice A n c], .agg #[.int .i64 t, .slice B m d]] w fun e w' => e = .returned (.bool (Pl.vb (s = t ∧ xs = ys))) ∧ Below w.heap.size w w' := by
  have HX := hide hx
  have HY := hide hy
  clear hx hy
  have X1 := hide ((row_at (W := w) (g := w.heap.size) (t := 24) (vs := [.int .i64 s, .slice A n c]) rfl).below ((Below.refl _ _).alloc (Nat.le_refl _) (.cells #[.int .i64 t, .slice B m d] 24)))
  have Y1 := hide (row_at (W := w.alloc (.cells #[.int .i64 s, .slice A n c] 24)) (g := w.heap.size + 1) (t := 24) (vs := [.int .i64 t, .slice B m d]) (by simp))
  have B0 := hide (show Below w.heap.size w ((w.alloc (.cells #[.int .i64 s, .slice A n c] 24)).alloc (.cells #[.int .i64 t, .slice B m d] 24)) from ((Below.refl _ _).alloc (Nat.le_refl _) _).alloc (by simp) _)
  obtain ⟨d0, d1, d2⟩ := box2b X1.out
  obtain ⟨e0, e1, e2⟩ := box2b Y1.out
  by_cases hst : s = t
  · subst hst
    have HF := hide (show Pl.vb (s = s ∧ xs = ys) = Pl.vb (xs = ys) by rw [Bool.eq_iff_iff, Pl.vb_iff, Pl.vb_iff]; simp)
    go_enter Tryd.func19, Tryd.ntmps19
    go_wp2_with fail
    refine (rints_any xs ys A B n m c d _ (HX.out.keep B0.out) (HY.out.keep B0.out) hn hm).mono ?_
    rintro e w1 ⟨rfl, hb1⟩
    have B1 := hide (B0.out.trans (hb1.mono B0.out.size))
    go_wp2
    go_ret
    exact ⟨by rw [HF.out]; rfl, B1.out⟩
  · have HF := hide (show Pl.vb (s = t ∧ xs = ys) = false from Pl.vb_false (fun h => hst h.1))
    have hsb : (s == t) = false := by rw [beq_eq_false_iff_ne]; exact hst
    go_enter Tryd.func19, Tryd.ntmps19
    go_wp2
    go_ret
    exact ⟨by rw [HF.out]; rfl, B0.out⟩
end Go.Proofs.YtcaoblilkgajoaaDoor
end

section
namespace Go.Proofs.YtcaoblilkgajoaaDoor
open Go Go.RowKit Go.Shelf Go.Proofs
attribute [local go_sem] Oper.semAt_some
def bwF (len : Nat) (zs : List Int) (j : Nat) : Nat × Int := (len - 1 - j, zs[len - 1 - j]?.getD 0)
def bwU (len : Nat) (zs : List Int) (k : Nat) : List (Nat × Int) := (List.range k).map (bwF len zs)
theorem bwU_succ (len : Nat) (zs : List Int) (k : Nat) : bwU len zs (k + 1) = bwU len zs k ++ [bwF len zs k] := by simp [bwU, List.range_succ]
theorem bwU_length (len : Nat) (zs : List Int) (k : Nat) : (bwU len zs k).length = k := by simp [bwU]
set_option maxRecDepth 100000 in
set_option maxHeartbeats 1000000 in
theorem back1_nil_in (F : Fence) (n : Nat) (h8 : F.fn 71) (hro : F.round = none) (l bS c : Nat) (A : Option Addr) (J : List (Nat × Int) → World → Prop) (W : World) (hBs : W.cell? ⟨bS, 0, none⟩ = some (.slice A 0 c)) (h0 : J [] W) :
    CallsIn F n Tryd.prog 71 #[.func (.yield l) #[] #[], .pointer (some ⟨bS, 0, none⟩)] W fun e W' => (∃ v, e = .returned v) ∧ J [] W' := by
  refine callsIn_of_wp Tryd.func71 rfl h8 ?_ hro
  simp only [Tryd.ntmps71, List.size_toArray, List.length_cons, List.length_nil, Nat.reduceAdd, Nat.reduceSub, Array.replicate_succ, Array.replicate_zero, List.push_toArray, List.append_toArray, List.nil_append, List.cons_append]
  gi_wp2
  gi_loopw [3] (fun i wr => i = .int .i64 (-1) ∧ J [] wr) (fun _ _ => 0)
  case atStart => exact ⟨rfl, h0⟩
  case round =>
    obtain ⟨rfl, hJs⟩ := hrel
    gi_wp2
    go_end0
    exact ⟨⟨_, rfl⟩, hJs⟩
set_option maxHeartbeats 1000000 in
theorem backward_in (F : Fence) (n : Nat) (h6 : F.fn 55) (hro : F.round = none) (a : Option Addr) (len cap : Nat) (w : World) :
    CallsIn F n Tryd.prog 55 #[.slice a len cap] w fun e w' => e = .returned (.func (.func 71) #[] #[.pointer (some ⟨w.heap.size, 0, none⟩)]) ∧ w' = w.alloc (.cells #[.slice a len cap] 22) := by
  refine callsIn_of_wp Tryd.func55 rfl h6 ?_ hro
  simp only [Tryd.ntmps55, List.size_toArray, List.length_cons, List.length_nil, Nat.reduceAdd, Nat.reduceSub, Array.replicate_succ, Array.replicate_zero, List.push_toArray, List.append_toArray, List.nil_append, List.cons_append]
  gi_wp2
  go_ret
  exact ⟨rfl, rfl⟩
end Go.Proofs.YtcaoblilkgajoaaDoor
end

section
namespace Go.Proofs.YtcaoblilkgajoaaDoor
open Go.ChangeShapes Go.WideShapes Go.ChangeAt Go.RowKit Go.Deep
section
variable {H : Type} {enc : TypeId × Value → H} {P : Program} {w : World} {base : Nat} {spare : Nat → Bool} {held : Bool}
theorem post_of_below {f : Func} {s : ChangeSpec} {apart fresh handsOn again : Bool} {W W' : World} {args : Array Value} {v : Value} {ds gs : List (DataW H)} {before pa pv : List MemPlace}
    (hW : DataW.Whole enc P f.params.toList s.vars apart W args.toList ds gs before)
    (hres : ∀ (b : Nat) (sp : Nat → Bool) (hd : Bool), DataW.TrodAll enc P W' b sp hd f.resultTypes.toList (v.resultList f.resultTypes.size) (s.fn H (ds ++ gs)).results [])
    (hargs : ∀ sp : Nat → Bool, (∀ p ∈ before, sp p.block = true) → DataW.TrodAll enc P W' 0 sp true f.params.toList args.toList (s.fn H (ds ++ gs)).args pa)
    (hvars : ∀ sp : Nat → Bool, (∀ p ∈ before, sp p.block = true) → DataW.TrodVars enc P W' sp s.vars (s.fn H (ds ++ gs)).vars pv)
    (hps : before = pa ++ pv) (hb : Below W.heap.size W W')
    (hok : ∀ (j : Nat) (t : TypeId) (r : Value), f.resultTypes[j]? = some t → (v.resultList f.resultTypes.size)[j]? = some r → Value.okWide P W' .any 0 t r) :
    s.post enc P f apart fresh handsOn again W args v W' := by
  have hlt : ∀ p ∈ before, p.block < W.heap.size := fun p hp => hW.lt p hp
  have hold : ∀ p ∈ before, (fun b => decide (b < W.heap.size)) p.block = true := fun p hp => by simpa using hlt p hp
  refine ⟨ds, gs, before, [], pa, pv, hW, hres _ _ _, hargs _ hold, hvars _ hold, World.keptBut_mono (fun p hp => ⟨hp, ?_⟩) (hb.frame (· ∈ before)), fun _ => ?_⟩
  · rw [hps, List.mem_append] at hp
    exact Or.inr hp
  · obtain ⟨_, _, _, _, _, hz, hn⟩ := hW
    refine ⟨hok, _, _, ([] ++ pa) ++ pv, ⟨[] ++ pa, pv, trodAll_append (hargs _ (fun _ _ => rfl)) (hres _ _ _), hvars _ (fun _ _ => rfl), rfl, ?_, ?_⟩, ?_⟩
    · intro b off hp
      have hin : MemPlace.cell b off ∈ before := by rw [hps]; simpa using hp
      rw [hb.frozen (hlt _ hin)]
      exact hz b off hin
    · intro ha
      have := hn ha
      rw [hps] at this
      simpa using this
    · intro p hp _
      rw [hps]
      simpa using hp
end
end Go.Proofs.YtcaoblilkgajoaaDoor
end

section
namespace Go.Proofs.YtcaoblilkgajoaaDoor
open Go Go.ChangeShapes Go.WideShapes Go.ChangeAt Go.RowKit Go.Deep
theorem spot_noneM {w : World} {a : Addr} {v : Value} (h : w.cell? a = some v) : a = ⟨a.block, a.off, none⟩ := by
  obtain ⟨b, o, sp⟩ := a
  cases sp with
  | none => rfl
  | some s =>
    unfold World.cell? at h
    simp only at h
    split at h
    · simp at h
    · cases h
theorem addr_formM {w : World} {a : Addr} {v : Value} (h : w.cell? (a.add 0) = some v) : ∃ b o, a = ⟨b, o, none⟩ := ⟨_, _, spot_noneM h⟩
section
variable {H : Type} {enc : TypeId × Value → H} {w : World} {base : Nat} {spare : Nat → Bool} {held : Bool} {fuel : Nat}
theorem ints_of_trod {v : Value} {y : DataW H × List MemPlace} (h : DataW.trod enc Tryd.prog w base spare held fuel 22 [v] = some y) : ∃ (A : Option Addr) (n c : Nat) (xs : List Int), v = .slice A n c ∧ n ≤ maxLen ∧ IntsAt w A n xs := by
  rcases open_ints Tryd.underlying22 Tryd.underlying3 (by kernel_rfl) h with ⟨h1, _⟩ | ⟨a, len, cap, zs, h1, _, hl, hm, hsl, _, hc, _⟩
  · obtain rfl : v = .slice none 0 0 := by simpa using h1
    exact ⟨none, 0, 0, [], rfl, by unfold maxLen; omega, RowAt.nil w⟩
  · obtain rfl : v = .slice (some a) len cap := by simpa using h1
    have hle : len ≤ zs.length := by rw [hsl]; split <;> omega
    refine ⟨some a, len, cap, zs.take len, rfl, by omega, by simp; omega, fun hn => ?_⟩
    obtain ⟨b, o, rfl⟩ := addr_formM (hc 0 (by omega))
    refine ⟨b, o, rfl, fun j u hu => ?_⟩
    rw [List.getElem?_map] at hu
    obtain ⟨s, hs, rfl⟩ := Option.map_eq_some_iff.1 hu
    have hj : j < len := by
      rcases Nat.lt_or_ge j len with h | h
      · exact h
      · rw [List.getElem?_eq_none (by simp; omega)] at hs; cases hs
    have := hc j (by omega)
    rw [Addr.add_lit] at this
    rw [this]
    rw [List.getElem?_take_of_lt hj] at hs
    rw [List.getD_eq_getElem?_getD, hs]
    rfl
theorem int_of_trod {v : Value} {y : DataW H × List MemPlace} (h : DataW.trod enc Tryd.prog w base spare held fuel 3 [v] = some y) : ∃ n : Int, v = .int .i64 n ∧ -9223372036854775808 ≤ n ∧ n ≤ 9223372036854775807 := by
  obtain ⟨n, h1, _, hw⟩ := DataW.trod_int Tryd.underlying3 h
  obtain rfl : v = .int .i64 n := by simpa using h1
  refine ⟨n, rfl, ?_⟩
  simp only [Lit.wf, Bool.and_eq_true, decide_eq_true_eq] at hw
  have h1 : (IntKind.i64.min : Int) = -9223372036854775808 := by rfl
  have h2 : (IntKind.i64.max : Int) = 9223372036854775807 := by rfl
  rw [h1, h2] at hw
  exact hw
end
end Go.Proofs.YtcaoblilkgajoaaDoor
end

section
namespace Go.Proofs.YtcaoblilkgajoaaDoor
open Go Go.ChangeShapes Go.WideShapes Go.ChangeAt Go.RowKit Go.Deep
section
variable {H : Type} {enc : TypeId × Value → H} {w : World} {base : Nat} {spare : Nat → Bool} {held : Bool} {fuel : Nat}
set_option maxRecDepth 100000 in
theorem open_br {r : Reach} {b0 : Nat} {v : Value} {d : DataW H} {p : List MemPlace} (hval : Value.okWide Tryd.prog w r b0 24 v) (h : DataW.Trod enc Tryd.prog w base spare held 24 v d p) :
    ∃ (s : Int) (A : Option Addr) (n c : Nat) (ws : List Int), v = .agg #[.int .i64 s, .slice A n c] ∧ n ≤ maxLen ∧ IntsAt w A n ws ∧ -9223372036854775808 ≤ s ∧ s ≤ 9223372036854775807 := by
  obtain ⟨cs, rfl, hsz⟩ := okWide_struct Tryd.underlying24 hval
  obtain ⟨fuel, hf⟩ := h
  obtain ⟨c0, c1, rfl⟩ : ∃ c0 c1, cs = #[c0, c1] := by
    have h3 : cs.size = 2 := hsz.trans (by kernel_rfl)
    obtain ⟨l⟩ := cs
    match l, h3 with
    | [a, b], _ => exact ⟨a, b, rfl⟩
  have hf' : DataW.trod enc Tryd.prog w base spare held fuel 24 [c0, c1] = some (d, p) := hf
  obtain ⟨xs, n', _, _, _, hxl, hfld⟩ := DataW.trod_struct Tryd.underlying24 hf'
  have c22 : Tryd.prog.cellsOf 22 = 1 := by kernel_rfl
  have c3 : Tryd.prog.cellsOf 3 = 1 := by kernel_rfl
  have g0 : DataW.trod enc Tryd.prog w base spare held n' 3 (([c0, c1].drop 0).take (Tryd.prog.cellsOf 3)) = xs[0]? := hfld 0 _ rfl
  have g1 : DataW.trod enc Tryd.prog w base spare held n' 22 (([c0, c1].drop 1).take (Tryd.prog.cellsOf 22)) = xs[1]? := hfld 1 _ rfl
  rw [c22] at g1
  rw [c3] at g0
  simp only [List.drop_zero, List.drop_succ_cons, List.take_succ_cons, List.take_zero] at g0 g1
  have x0 : xs[0]? = some (xs[0]'(by rw [hxl]; decide)) := List.getElem?_eq_getElem _
  have x1 : xs[1]? = some (xs[1]'(by rw [hxl]; decide)) := List.getElem?_eq_getElem _
  rw [x0] at g0
  rw [x1] at g1
  obtain ⟨s, rfl, h1, h2⟩ := int_of_trod g0
  obtain ⟨A, n, c, ws, rfl, hn, hs⟩ := ints_of_trod g1
  exact ⟨s, A, n, c, ws, rfl, hn, hs, h1, h2⟩
end
end Go.Proofs.YtcaoblilkgajoaaDoor
end

section
namespace Go.Proofs.YtcaoblilkgajoaaDoor
open Go Go.RowKit Go.Shelf Go.Proofs
attribute [local go_sem] Oper.semAt_some
/-- The slice's box and the slice's row lie as they lay. -/
def KpB (bS b : Nat) (W1 W2 : World) : Prop := W2.heap[bS]? = W1.heap[bS]? ∧ W2.heap[b]? = W1.heap[b]?
theorem KpB.t {bS b : Nat} {A B C : World} (h : KpB bS b A B) (k : KpB bS b B C) : KpB bS b A C := ⟨k.1.trans h.1, k.2.trans h.2⟩
theorem KpB.refl (bS b : Nat) (W : World) : KpB bS b W W := ⟨rfl, rfl⟩
theorem KpB.b {bS b : Nat} {w : World} (h1 : bS < w.heap.size) (h2 : b < w.heap.size) (W : World) (l : Nat) (o o' : Obj) (hl : w.heap.size ≤ l) (_ : W.heap[l]? = some o) (_ : o.isCells = false) (_ : o.isWalk = false) : KpB bS b W (W.putObj l o') :=
  ⟨World.putObj_heap_other (by omega), World.putObj_heap_other (by omega)⟩
theorem KpB.cell {bS b : Nat} {A B : World} (h : KpB bS b A B) (o : Nat) : B.cell? ⟨bS, o, none⟩ = A.cell? ⟨bS, o, none⟩ ∧ B.cell? ⟨b, o, none⟩ = A.cell? ⟨b, o, none⟩ := by
  constructor
  · unfold World.cell?
    simp only [h.1]
  · unfold World.cell?
    simp only [h.2]
set_option maxRecDepth 100000 in
set_option maxHeartbeats 2000000 in
theorem back1_inK (F : Fence) (n : Nat) (h8 : F.fn 71) (hro : F.round = none) (hn : 1 ≤ n) (l bS b off len cap : Nat) (zs : List Int) (hreach : len ≤ 1000) (J Jx : List (Nat × Int) → World → Prop)
    (hY : ∀ pre x W, J pre W → pre.length < len → YieldAt F (n - 1) Tryd.prog l #[.int .i64 (x.1 : Int), .int .i64 x.2] W fun e W' =>
      (e = .returned (.bool true) ∧ J (pre ++ [x]) W' ∧ KpB bS b W W') ∨ (e = .returned (.bool false) ∧ Jx (pre ++ [x]) W'))
    (W : World) (hBs : W.cell? ⟨bS, 0, none⟩ = some (.slice (some ⟨b, off, none⟩) len cap)) (hc : ∀ j, j < len → W.cell? ⟨b, off + j, none⟩ = some (.int .i64 (zs[j]?.getD 0))) (h0 : J [] W) :
    CallsIn F n Tryd.prog 71 #[.func (.yield l) #[] #[], .pointer (some ⟨bS, 0, none⟩)] W fun e W' => (∃ v, e = .returned v) ∧
      ((∃ ys, ys = bwU len zs len ∧ J ys W') ∨ (∃ pre, (∃ k, k ≤ len ∧ pre = bwU len zs k) ∧ Jx pre W')) := by
  refine callsIn_of_wp Tryd.func71 rfl h8 ?_ hro
  simp only [Tryd.ntmps71, List.size_toArray, List.length_cons, List.length_nil, Nat.reduceAdd, Nat.reduceSub, Array.replicate_succ, Array.replicate_zero, List.push_toArray, List.append_toArray, List.nil_append, List.cons_append]
  gi_wp2
  gi_loopw [3] (fun i wr => ∃ k : Nat, k ≤ len ∧ i = .int .i64 ((len : Int) - 1 - (k : Int)) ∧ J (bwU len zs k) wr ∧ KpB bS b W wr)
    (fun i _ => (intOf i + 1).toNat)
  case atStart => exact ⟨0, Nat.zero_le _, by simp, h0, KpB.refl _ _ _⟩
  case round =>
    obtain ⟨k, hk, rfl, hJs, hnx⟩ := hrel
    by_cases hlt : k < len
    · obtain ⟨m, hm⟩ : ∃ m, len = k + 1 + m := ⟨len - (k + 1), by omega⟩
      have ei : (len : Int) - 1 - (k : Int) = (m : Int) := by omega
      have hcx : wr.cell? ⟨b, off + m, none⟩ = some (.int .i64 (zs[m]?.getD 0)) := (hnx.cell (off + m)).2.trans (hc m (by omega))
      have hbx : wr.cell? ⟨bS, 0, none⟩ = some (.slice (some ⟨b, off, none⟩) len cap) := (hnx.cell 0).1.trans hBs
      have ef : bwF len zs k = (m, zs[m]?.getD 0) := by unfold bwF; rw [show len - 1 - k = m by omega]
      obtain ⟨fn, tmps, assign, body, hy, hR⟩ := hY _ (bwF len zs k) wr hJs (by rw [bwU_length]; exact hlt)
      rw [ef] at hy hR
      dsimp only at hy
      have HM := hide hm
      rw [ei]
      clear ei hm
      have m0 : (0 : Int) ≤ (m : Int) := by omega
      have m1 : (m : Int) < (len : Int) := by have := HM.out; omega
      gi_wp2
      refine hR.mono ?_
      rintro e W3 (⟨rfl, hJ3, hk3⟩ | ⟨rfl, hJx3⟩)
      · gi_wp2
        go_roundw
        case rel => exact ⟨k + 1, by omega, by have := HM.out; congr 1; omega, by rw [bwU_succ, ef]; exact hJ3, hnx.t hk3⟩
        case measure => simp [intOf]; try omega
      · gi_wp2
        refine bodyPost_ret (results_none rfl _ _ _) rfl ?_
        exact ⟨⟨_, rfl⟩, .inr ⟨_, ⟨k + 1, by omega, by rw [bwU_succ, ef]⟩, hJx3⟩⟩
    · obtain rfl : k = len := by omega
      have ei : ((k : Nat) : Int) - 1 - (k : Int) = -1 := by omega
      rw [ei]
      gi_wp2
      go_end0
      exact ⟨⟨_, rfl⟩, .inl ⟨_, rfl, hJs⟩⟩
/-- All pairs, from the last one on. -/
theorem back_stopsK (F : Fence) (n : Nat) (h8 : F.fn 71) (hro : F.round = none) (hn : 1 ≤ n) (bS b : Nat) (A : Option Addr) (cap len : Nat) (zs : List Int) (hreach : len ≤ 1000) (w : World) (hbS : bS < w.heap.size)
    (hc : w.cell? ⟨bS, 0, none⟩ = some (.slice A len cap)) (hI : len = 0 ∨ ∃ off, A = some ⟨b, off, none⟩ ∧ b < w.heap.size ∧ ∀ j, j < len → w.cell? ⟨b, off + j, none⟩ = some (.int .i64 (zs[j]?.getD 0))) :
    SeqStopsK F n Tryd.prog 71 #[.pointer (some ⟨bS, 0, none⟩)] (fun x : Nat × Int => #[Value.int .i64 (x.1 : Int), Value.int .i64 x.2]) (KpB bS b) (fun ys => ys = bwU len zs len)
      (fun pre => ∃ k, k ≤ len ∧ pre = bwU len zs k) len w := fun l J Jx W hW _ _ hY h0 => by
  have hc' := (hW.cell (p := ⟨bS, 0, none⟩) hbS).trans hc
  rcases hI with h | ⟨off, rfl, hb, hcs⟩
  · subst h
    exact (back1_nil_in F n h8 hro l bS cap A J W hc' h0).mono fun e W' ⟨he, hj⟩ => ⟨he, .inl ⟨_, rfl, hj⟩⟩
  · exact back1_inK F n h8 hro hn l bS b off len cap zs hreach J Jx hY W hc' (fun j hj => (hW.cell (p := ⟨b, off + j, none⟩) hb).trans (hcs j hj)) h0
theorem bwU_neg {s : Int} {n : Nat} {ws : List Int} (hn : ws.length = n) (hv : Pl.BV s ws) :
    (bwU n ws n).map (fun x => Value.int .i64 (wrap64 (-x.2))) = (ws.reverse.map (fun x => -x)).map (.int .i64) := by
  subst hn
  apply List.ext_getElem?
  intro k
  by_cases hk : k < ws.length
  · have h1 : ws.length - 1 - k < ws.length := by omega
    have hx := hv.2.2.2 _ (List.getElem_mem h1)
    have hs := hv.2.1
    have e : wrap64 (-ws[ws.length - 1 - k]) = -ws[ws.length - 1 - k] := by unfold wrap64; omega
    simp [bwU, bwF, hk, h1, e]
  · simp [bwU, hk]
def InvPost (s : Int) (ws : List Int) (w : World) (e : Ending) (w' : World) : Prop :=
  (¬ Pl.BV s ws → e = .returned (.agg #[.int .i64 0, .slice none 0 0])) ∧ (Pl.BV s ws → ∃ (A : Option Addr) (c : Nat), e = .returned (.agg #[.int .i64 s, .slice A ws.length c]) ∧ RowT w' 3 A ws.length ((ws.reverse.map (fun x => -x)).map (.int .i64))) ∧ Below w.heap.size w w'
set_option maxRecDepth 100000 in
set_option maxHeartbeats 4000000 in
theorem inverse_any (s : Int) (ws : List Int) (A : Option Addr) (n c : Nat) (w : World) (hw : IntsAt w A n ws) (hn : n ≤ maxLen) :
    Calls Tryd.prog 24 #[.agg #[.int .i64 s, .slice A n c]] w (InvPost s ws w) := by
  have HL := hide hw.len
  have HW := hide hw
  clear hw
  have X0 := hide ((row_at (W := w) (g := w.heap.size) (t := 24) (vs := [.int .i64 s, .slice A n c]) rfl).below ((Below.refl _ _).alloc (Nat.le_refl _) (.cells #[.int .i64 0, .slice none 0 0] 24)))
  have R0 := hide (row_at (W := w.alloc (.cells #[.int .i64 s, .slice A n c] 24)) (g := w.heap.size + 1) (t := 24) (vs := [.int .i64 0, .slice none 0 0]) (by simp))
  have B0 := hide (show Below w.heap.size w ((w.alloc (.cells #[.int .i64 s, .slice A n c] 24)).alloc (.cells #[.int .i64 0, .slice none 0 0] 24)) from ((Below.refl _ _).alloc (Nat.le_refl _) _).alloc (by simp) _)
  obtain ⟨d0, d1, d2⟩ := box2b X0.out
  refine (callsIn_wide (n := 4)).1 ?_
  refine callsIn_of_wp_marks Tryd.func24 rfl trivial ?_ rfl
  simp only [Tryd.ntmps24, List.size_toArray, List.length_cons, List.length_nil, Nat.reduceAdd, Nat.reduceSub, Array.replicate_succ, Array.replicate_zero, List.push_toArray, List.append_toArray, List.nil_append, List.cons_append]
  gi_wp2_with fail
  refine ⟨trivial, ?_⟩
  refine (callsIn_wide.2 (bvalid_any s ws A n c _ (HW.out.keep B0.out) hn)).mono ?_
  rintro e w1 ⟨rfl, hb1⟩
  have B1 := hide (B0.out.trans (hb1.mono B0.out.size))
  have X1 := hide (X0.out.below hb1)
  have R1 := hide (R0.out.below hb1)
  clear X0 R0 B0 hb1 d0 d1 d2
  obtain ⟨d0, d1, d2⟩ := box2b X1.out
  have hwb : w.heap.size + 1 < w1.heap.size := R1.out.lt
  by_cases hv : Pl.BV s ws
  · rw [Pl.vb_true hv]
    have HV := hide hv
    have h200 : n ≤ 200 := by have := hv.2.2.1; have := HL.out; omega
    clear hv
    obtain ⟨i0, hi0, hz0, hz1, hz2⟩ := info_parts intInfo
    have hmk0 : ∀ W : World, (Instr.makeSlice 22 (.int .i64 0) (.int .i64 (n : Int))).run Tryd.prog W = .ok (.slice (some ⟨W.heap.size, 0, none⟩) 0 n) (W.alloc (.cells (Array.replicate n (Value.int .i64 0)) 3)) := fun W => by
      have := run_make (P := Tryd.prog) W 22 3 i0 (.int .i64 0) Tryd.underlying22 hi0 hz0 .i64 .i64 0 n (by omega) (by omega) (by rw [hz2]; omega) (by omega)
      rw [hz1, Nat.mul_one, Int.toNat_natCast, show madeCells (Value.cells (.int .i64 0)) n = (List.replicate n (.int .i64 0)).toArray from made_rep _ _] at this
      exact this
    have hwb0 : w.heap.size < w1.heap.size := by omega
    have dd := (X1.out.alloc (.cells (Array.replicate n (Value.int .i64 0)) 3)).alloc (.cells #[.slice (some ⟨w1.heap.size, 0, none⟩) 0 n] 22)
    obtain ⟨dd0, dd1, dd2⟩ := box2b dd
    gi_wp2_with fail
    refine ⟨trivial, ?_⟩
    refine (backward_in Fence.wide 3 trivial rfl A n c _).mono ?_
    rintro e w2 ⟨rfl, rfl⟩
    obtain ⟨wb, hwbE⟩ : ∃ wb, ((w1.alloc (.cells (Array.replicate n (Value.int .i64 0)) 3)).alloc (.cells #[.slice (some ⟨w1.heap.size, 0, none⟩) 0 n] 22)).alloc (.cells #[.slice A n c] 22) = wb := ⟨_, rfl⟩
    have hsz : wb.heap.size = w1.heap.size + 3 := by rw [← hwbE]; simp
    have hBb : Below w1.heap.size w1 wb := by rw [← hwbE]; exact (((Below.refl _ _).alloc (Nat.le_refl _) _).alloc (by simp) _).alloc (by simp; omega) _
    have hbx : Boxed wb (w1.heap.size + 1) 22 (.slice (some ⟨w1.heap.size, 0, none⟩) 0 n) := by
      rw [← hwbE]
      have := (Boxed.new (w1.alloc (.cells (Array.replicate n (Value.int .i64 0)) 3)) 22 (.slice (some ⟨w1.heap.size, 0, none⟩) 0 n)).alloc (.cells #[.slice A n c] 22)
      rwa [World.size_alloc] at this
    have hbs : Boxed wb (w1.heap.size + 1 + 1) 22 (.slice A n c) := by
      rw [← hwbE]
      have := Boxed.new ((w1.alloc (.cells (Array.replicate n (Value.int .i64 0)) 3)).alloc (.cells #[.slice (some ⟨w1.heap.size, 0, none⟩) 0 n] 22)) 22 (.slice A n c)
      rwa [World.size_alloc, World.size_alloc] at this
    have hown0 : wb.ownsRow w1.heap.size 3 1 (.slice (some ⟨w1.heap.size, 0, none⟩) 0 n) 0 [] := by
      rw [← hwbE]
      exact ⟨rfl, .inr ⟨w1.heap.size, n, .replicate n (.int .i64 0), rfl, Nat.le_refl _, (Below.heap_alloc _ _ _ (by simp; omega)).trans ((Below.heap_alloc _ _ _ (by simp)).trans (World.alloc_heap_new _ _)), Nat.zero_le _, by omega, by simp, by simp⟩⟩
    have hII : IntsAt wb A n ws := (HW.out.keep (B1.out)).keep (hBb.mono (Nat.le_refl _))
    gi_wp2_with fail
    clear hwbE
    obtain ⟨b, hblt, hI⟩ : ∃ b, b < w1.heap.size ∧ (n = 0 ∨ ∃ off, A = some ⟨b, off, none⟩ ∧ b < wb.heap.size ∧ ∀ j, j < n → wb.cell? ⟨b, off + j, none⟩ = some (.int .i64 (ws[j]?.getD 0))) := by
      by_cases h0 : n = 0
      · exact ⟨0, by omega, .inl h0⟩
      · have hI1 : IntsAt w1 A n ws := HW.out.keep B1.out
        obtain ⟨b, o, rfl, hcx⟩ := hI1.at_ (k := 0) (by omega)
        have hlt : b < w1.heap.size := lt_of_cell hcx
        refine ⟨b, hlt, .inr ⟨o, rfl, by omega, fun j hj => ?_⟩⟩
        obtain ⟨b', o', e', hcj⟩ := hII.at_ hj
        cases e'
        rw [hcj, List.getD_eq_getElem?_getD]
    refine wpIn_rangeFunc_ownF rfl (by omega) (gf := 71) (lb := #[.pointer (some ⟨w1.heap.size + 1 + 1, 0, none⟩)]) rfl trivial (enters_of Tryd.func71 (by kernel_rfl) rfl)
      (back_stopsK Fence.wide 3 trivial rfl (by omega) (w1.heap.size + 1 + 1) b A c n ws (by omega) wb (by omega) hbs.cell hI) KpB.t (KpB.b (by omega) (by omega)) (Below.refl _ _) (fun _ => rfl)
      (fun (pre : List (Nat × Int)) W => (∃ v, Boxed W (w1.heap.size + 1) 22 v ∧ W.ownsRow w1.heap.size 3 1 v pre.length (pre.map (fun x => Value.int .i64 (wrap64 (-x.2)))) ∧ True) ∧ (Boxed W (w1.heap.size + 1 + 1) 22 (.slice A n c) ∧ Below w1.heap.size w1 W))
      (fun _ _ _ => False)
      (OwnFrom.and (Own.from (holdsRow_own w1.heap.size (w1.heap.size + 1) 22 3 1 (fun (pre : List (Nat × Int)) => pre.length) (fun (pre : List (Nat × Int)) => pre.map (fun x => Value.int .i64 (wrap64 (-x.2)))) (fun _ _ => True)) _) (OwnFrom.and (Own.from (boxed_own (w1.heap.size + 1 + 1) 22 (fun (_ : List (Nat × Int)) => .slice A n c)) _) (ownFrom_below (Nat.le_refl _) (by omega))))
      (fun _ _ _ _ _ hs _ _ => hs)
      ⟨⟨_, hbx, hown0, trivial⟩, hbs, hBb⟩
      (fun (x : Nat × Int) => { tmps := #[.agg #[.int .i64 s, .slice A n c], .pointer (some ⟨w.heap.size, 0, none⟩), .pointer (some ⟨w.heap.size + 1, 0, none⟩), .pointer (some ⟨w1.heap.size + 1, 0, none⟩), undef, .int .i64 x.2, .agg #[.int .i64 s, .slice A n c], .bool true, .bool false, undef, .pointer (some ⟨w.heap.size, 1, none⟩), .slice A n c, .int .i64 n, .slice (some ⟨w1.heap.size, 0, none⟩) 0 n, .pointer (some ⟨w.heap.size, 1, none⟩), .slice A n c, .func (.func 71) #[] #[.pointer (some ⟨w1.heap.size + 1 + 1, 0, none⟩)], .int .i64 x.1, .int .i64 x.2, undef, undef, undef, undef, undef, undef, undef, undef, undef], defers := [] }) ?assign ?body ?done ?stop
    case assign =>
      intro l x W K hK
      gi_wp2
      exact hK
    case body =>
      rintro l pre x W ⟨⟨v, hv, hrow, _⟩, hbs', hB⟩ hlt
      have hc := hv.cell
      have hlen : pre.length < n := hlt
      gi_wp2_with (gi_at_builtin; refine wpListIn_append_own _ rfl _ _ 22 rfl w1.heap.size 3 i0 (.int .i64 0) 1 8 Tryd.underlying22 hi0 hz0 hz1 hz2 rfl (by decide) _ _ _ rfl (hrow.alloc _) ⟨W.heap.size, 0, none⟩ 1 1 [.int .i64 (wrap64 (-x.2))] rfl rfl (cell_one_new _ _ _) (by simp [Value.oneCell']) (by omega) (by omega) (by have := hB.size; simp; omega) ?_; intro v' w1' hown' hgrow _; obtain ⟨g', cap', rfl⟩ := ownsRow_succ hown'; obtain ⟨hv1, hv2, hr2, hk2, hb2⟩ := hv.appended (by decide) hrow hB.size (by omega) hown' hgrow; have hc1 := hv1.cell; have hf1 := hv1.frozen)
      have hbx2 : Boxed (w1'.setCell ⟨w1.heap.size + 1, 0, none⟩ (.slice (some ⟨g', 0, none⟩) (pre.length + 1) cap')) (w1.heap.size + 1 + 1) 22 (.slice A n c) := ((hbs'.alloc _).kept hgrow (hbs'.not_row (by decide) hrow)).other (by omega) _
      exact ⟨hk2, ⟨hbx2.trans hbs'.symm, hb2.block b (by have := hB.size; omega)⟩, ⟨_, hv2, by simpa using hr2, trivial⟩, hbx2, hB.trans hb2⟩
    case done =>
      rintro D ys W hD rfl ⟨⟨v, hv, hrow, _⟩, hbs', hB⟩ hK
      obtain ⟨A', c', rfl⟩ := owns_slice hrow
      have hc := hv.cell
      have HR := hide hrow
      clear hrow
      obtain ⟨g0, g1, g2⟩ := box2b (X1.out.below hB)
      obtain ⟨q0, q1, q2⟩ := box2b (R1.out.below hB)
      gi_wp2
      have hDr : ∀ (g : Nat) (h : g < D) (o' : Obj) (W : World), (W.putObj D o').heap[g]? = W.heap[g]? := fun g h o' W => World.putObj_heap_other (by omega)
      have hD2 : w.heap.size + 1 < D := by omega
      have hK2 : ((W.setCell ⟨w.heap.size + 1, 0, none⟩ (.int .i64 s)).setCell ⟨w.heap.size + 1, 1, none⟩ (.slice A' (bwU n ws n).length c')).heap[D]? = some (.deferred (some [])) := by
        refine Eq.trans (Below.heap_setCell _ _ _ _ (by show D ≠ w.heap.size + 1; omega)) (Eq.trans (Below.heap_setCell _ _ _ _ (by show D ≠ w.heap.size + 1; omega)) hK)
      refine ⟨by simp, .inl ⟨_, _, rfl, run_takeDeferred hK2, ?_⟩⟩
      refine ⟨_, results_cell_row rfl _ _ (w.heap.size + 1) 24 _ _ _ rfl ((hDr _ hD2 _ _).trans (((R1.out.below hB).set 0 (.int .i64 s)).set 1 (.slice A' (bwU n ws n).length c'))) Tryd.underlying24 rfl (by kernel_rfl), fun h => absurd HV.out h, fun _ => ⟨A', c', ?_, ?_⟩, ?_⟩
      · rw [bwU_length, HL.out]; rfl
      · have h2 := HR.out
        rw [bwU_length] at h2
        have h3 : ((W.setCell ⟨w.heap.size + 1, 0, none⟩ (.int .i64 s)).setCell ⟨w.heap.size + 1, 1, none⟩ (.slice A' (bwU n ws n).length c')).ownsRow w1.heap.size 3 1 (.slice A' n c') n ((bwU n ws n).map (fun x => Value.int .i64 (wrap64 (-x.2)))) :=
          ownsRow_setCell_below (ownsRow_setCell_below h2 (by show w.heap.size + 1 < w1.heap.size; omega) _) (by show w.heap.size + 1 < w1.heap.size; omega) _
        rw [bwU_neg HL.out HV.out] at h3
        rw [HL.out]
        exact own_rowT (ownsRow_putObj h3 _ hK2 rfl)
      · have hB3 := B1.out.trans (hB.mono B1.out.size)
        have hB4 : Below w.heap.size w ((W.setCell ⟨w.heap.size + 1, 0, none⟩ (.int .i64 s)).setCell ⟨w.heap.size + 1, 1, none⟩ (.slice A' (bwU n ws n).length c')) :=
          (hB3.setCell (by show w.heap.size ≤ w.heap.size + 1; omega) _).setCell (by show w.heap.size ≤ w.heap.size + 1; omega) _
        refine hB4.trans ?_
        exact belowK_b (w := w) (Nat.le_refl _) _ D _ _ (by omega) hK2 rfl rfl
    case stop =>
      rintro D c pre W _ _ h _
      exact h.elim
  · rw [Pl.vb_false hv]
    have HV := hide hv
    clear hv
    obtain ⟨r0, r1, r2⟩ := box2b R1.out
    obtain ⟨t0, t1, t2⟩ := box2b ((R1.out.set 0 (.int .i64 0)).set 1 (.slice none 0 0))
    gi_wp2
    refine ⟨_, results_cell_row rfl _ _ (w.heap.size + 1) 24 _ _ _ rfl (R1.out.set 0 (.int .i64 0) |>.set 1 (.slice none 0 0)) Tryd.underlying24 rfl (by kernel_rfl), fun _ => rfl, fun h => absurd h HV.out, (B1.out.setCell (by show _ ≤ w.heap.size + 1; omega) _).setCell (by show _ ≤ w.heap.size + 1; omega) _⟩
end Go.Proofs.YtcaoblilkgajoaaDoor
end

section
namespace Go.Proofs.YtcaoblilkgajoaaDoor
open Go Go.RowKit
attribute [local go_sem ↓] Go.wp_at_zero Go.wp_at_succ
/-- What the functions of a braid answer. -/
def BAns (s : Int) (ws : List Int) (t : Int) (pl : List Nat) (zi zr : List Int) (ex : Int) : Prop :=
  (Pl.BV s ws → t = s ∧ pl = Pl.pmR s.toNat ws ∧ zi = ws.reverse.map (fun x => -x) ∧ zr = Pl.rdW ws ∧ ex = Pl.exW ws) ∧ (¬ Pl.BV s ws → t = 0 ∧ pl = [] ∧ zi = [] ∧ zr = [] ∧ ex = 0)
theorem bAns_ex (s : Int) (ws : List Int) : ∃ t pl zi zr ex, BAns s ws t pl zi zr ex := by
  by_cases h : Pl.BV s ws
  · exact ⟨_, _, _, _, _, fun _ => ⟨rfl, rfl, rfl, rfl, rfl⟩, fun h' => absurd h h'⟩
  · exact ⟨_, _, _, _, _, fun h' => absurd h' h, fun _ => ⟨rfl, rfl, rfl, rfl, rfl⟩⟩
theorem rowT_nil (w : World) (t : TypeId) (A : Option Addr) : RowT w t A 0 [] := ⟨rfl, fun h => absurd h (by omega)⟩
theorem IRow.rowT {w : World} {g n : Nat} {l : List Nat} (h : IRow w g (nats l)) (hn : l.length = n) : RowT w 3 (some ⟨g, 0, none⟩) n ((nats l).map (.int .i64)) :=
  ⟨by simp [nats, hn], fun _ => ⟨g, 0, _, _, rfl, h, fun j u hu => by simpa using hu⟩⟩
section
variable {s : Int} {ws : List Int} {t : Int} {pl : List Nat} {zi zr : List Int} {ex : Int}
theorem perm_for (H : BAns s ws t pl zi zr ex) (A : Option Addr) (n c : Nat) (w : World) (hw : IntsAt w A n ws) (hn : n ≤ maxLen) :
    Calls Tryd.prog 23 #[.agg #[.int .i64 s, .slice A n c]] w fun e w' => ∃ (B : Option Addr) (d : Nat), e = .returned (.slice B pl.length d) ∧ RowT w' 3 B pl.length ((nats pl).map (.int .i64)) ∧ Below w.heap.size w w' := by
  refine (perm_any s ws A n c w hw hn).mono ?_
  rintro e w' ⟨h0, h1, hb⟩
  by_cases hv : Pl.BV s ws
  · obtain ⟨_, rfl, _⟩ := H.1 hv
    obtain ⟨g, _, he, hr⟩ := h1 hv
    refine ⟨_, s.toNat, ?_, hr.rowT rfl, hb⟩
    rw [he, Pl.pmR_len]
  · obtain ⟨_, rfl, _⟩ := H.2 hv
    exact ⟨none, 0, h0 hv, rowT_nil _ _ _, hb⟩
theorem inverse_for (H : BAns s ws t pl zi zr ex) (A : Option Addr) (n c : Nat) (w : World) (hw : IntsAt w A n ws) (hn : n ≤ maxLen) :
    Calls Tryd.prog 24 #[.agg #[.int .i64 s, .slice A n c]] w fun e w' => ∃ (B : Option Addr) (d : Nat), e = .returned (.agg #[.int .i64 t, .slice B zi.length d]) ∧ RowT w' 3 B zi.length (zi.map (.int .i64)) ∧ Below w.heap.size w w' := by
  refine (inverse_any s ws A n c w hw hn).mono ?_
  rintro e w' ⟨h0, h1, hb⟩
  by_cases hv : Pl.BV s ws
  · obtain ⟨rfl, _, rfl, _⟩ := H.1 hv
    obtain ⟨B, d, he, hr⟩ := h1 hv
    have e1 : (ws.reverse.map (fun x => -x)).length = ws.length := by simp
    exact ⟨B, d, by rw [e1]; exact he, by rw [e1]; exact hr, hb⟩
  · obtain ⟨rfl, _, rfl, _⟩ := H.2 hv
    exact ⟨none, 0, h0 hv, rowT_nil _ _ _, hb⟩
theorem reduce_for (H : BAns s ws t pl zi zr ex) (A : Option Addr) (n c : Nat) (w : World) (hw : IntsAt w A n ws) (hn : n ≤ maxLen) :
    Calls Tryd.prog 25 #[.agg #[.int .i64 s, .slice A n c]] w fun e w' => ∃ (B : Option Addr) (d : Nat), e = .returned (.agg #[.int .i64 t, .slice B zr.length d]) ∧ RowT w' 3 B zr.length (zr.map (.int .i64)) ∧ Below w.heap.size w w' := by
  refine (reduce_any s ws A n c w hw hn).mono ?_
  rintro e w' ⟨h0, h1, hb⟩
  by_cases hv : Pl.BV s ws
  · obtain ⟨rfl, _, _, rfl, _⟩ := H.1 hv
    obtain ⟨B, d, he, hr⟩ := h1 hv
    exact ⟨B, d, he, hr, hb⟩
  · obtain ⟨rfl, _, _, rfl, _⟩ := H.2 hv
    exact ⟨none, 0, h0 hv, rowT_nil _ _ _, hb⟩
theorem exponent_for (H : BAns s ws t pl zi zr ex) (A : Option Addr) (n c : Nat) (w : World) (hw : IntsAt w A n ws) (hn : n ≤ maxLen) :
    Calls Tryd.prog 26 #[.agg #[.int .i64 s, .slice A n c]] w fun e w' => e = .returned (.int .i64 ex) ∧ Below w.heap.size w w' := by
  refine (exponent_any s ws A n c w hw hn).mono ?_
  rintro e w' ⟨h0, h1, hb⟩
  by_cases hv : Pl.BV s ws
  · obtain ⟨_, _, _, _, rfl⟩ := H.1 hv
    exact ⟨h1 hv, hb⟩
  · obtain ⟨_, _, _, _, rfl⟩ := H.2 hv
    exact ⟨h0 hv, hb⟩
end
/-- A row of two cells, step by step. -/
theorem Row2.new {W : World} {g : Nat} {t : TypeId} {a b : Value} (h : W.heap.size = g) : Row (W.alloc (.cells #[a, b] t)) g t [a, b] := row_at h.symm
theorem Row2.s0 {W : World} {g : Nat} {t : TypeId} {a b v : Value} (h : Row W g t [a, b]) : Row (W.setCell ⟨g, 0, none⟩ v) g t [v, b] := h.set 0 v
theorem Row2.s1 {W : World} {g : Nat} {t : TypeId} {a b v : Value} (h : Row W g t [a, b]) : Row (W.setCell ⟨g, 1, none⟩ v) g t [a, v] := h.set 1 v
theorem Row2.far {W : World} {g k o : Nat} {t : TypeId} {vs : List Value} {v : Value} (h : Row W g t vs) (hne : g ≠ k) : Row (W.setCell ⟨k, o, none⟩ v) g t vs := h.other (a := ⟨k, o, none⟩) hne v
theorem RowT.alloc {w : World} {t : TypeId} {A : Option Addr} {n : Nat} {xs : List Value} (h : RowT w t A n xs) (o : Obj) : RowT (w.alloc o) t A n xs := h.keep ((Below.refl _ _).alloc (Nat.le_refl _) _)
/-- The state behind the three calls. -/
structure B5 (w2 : World) (gx g4 g5 : Nat) (s : Int) (A : Option Addr) (n c : Nat) (t : Int) (Ap : Option Addr) (pl : List Nat) (Ai : Option Addr) (ci : Nat) (zi : List Int) (Ar : Option Addr) (cr : Nat) (zr : List Int) (W : World) : Prop where
  x : Row W gx 24 [.int .i64 s, .slice A n c]
  r4 : Row W g4 24 [.int .i64 t, .slice Ai zi.length ci]
  r5 : Row W g5 24 [.int .i64 t, .slice Ar zr.length cr]
  p : RowT W 3 Ap pl.length ((nats pl).map (.int .i64))
  i : RowT W 3 Ai zi.length (zi.map (.int .i64))
  r : RowT W 3 Ar zr.length (zr.map (.int .i64))
  bel : Below w2.heap.size w2 W
theorem B5.below {w2 W W' : World} {gx g4 g5 : Nat} {s : Int} {A : Option Addr} {n c : Nat} {t : Int} {Ap : Option Addr} {pl : List Nat} {Ai : Option Addr} {ci : Nat} {zi : List Int} {Ar : Option Addr} {cr : Nat} {zr : List Int}
    (h : B5 w2 gx g4 g5 s A n c t Ap pl Ai ci zi Ar cr zr W) (hb : Below W.heap.size W W') : B5 w2 gx g4 g5 s A n c t Ap pl Ai ci zi Ar cr zr W' :=
  ⟨h.x.below hb, h.r4.below hb, h.r5.below hb, h.p.keep hb, h.i.keep hb, h.r.keep hb, h.bel.trans (hb.mono h.bel.size)⟩
end Go.Proofs.YtcaoblilkgajoaaDoor
end
