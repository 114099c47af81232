/-
  The texts Uf, Uo in one.
-/
import Derived.Test.YtghdiolnonejaaaB23
import Derived.Test.YtghdiolnonejaaaB22
import Derived.Test.YtghdiolnonejaaaB21
import Derived.Laws.Slices
import Derived.Deep.RegionWith
import Derived.Deep.DeepCutAuto
import Derived.Test.YtghdiolnonejaaaB08
import Derived.Test.YtghdiolnonejaaaB16
import Derived.ProofKit
import Derived.OpenShut
import Derived.Test.YtghdiolnonejaaaB10
set_option linter.unusedVariables false
set_option linter.unusedSimpArgs false

section
namespace Go.Proofs.Ytghdiolnonejaaa
open Go Go.RowKit
attribute [local go_sem ↓] Go.wp_at_zero Go.wp_at_succ
/-- The diagram after some moves. -/
noncomputable def apN : Pl.Dg → List Mv → Nat → Pl.Dg
  | d, _, 0 => d
  | d, [], _ + 1 => d
  | d, z :: ms, k + 1 => apN (apD d z) ms k
theorem apN_succ : ∀ (ms : List Mv) (d : Pl.Dg) (k : Nat) (z : Mv), ms[k]? = some z → apN d ms (k + 1) = apD (apN d ms k) z
  | [], d, k, z, h => by simp at h
  | y :: ms, d, 0, z, h => by
    obtain rfl : y = z := by simpa using h
    cases ms <;> simp [apN]
  | y :: ms, d, k + 1, z, h => by
    have := apN_succ ms (apD d y) k z (by simpa using h)
    simpa [apN] using this
theorem wk_run (most : Int) : ∀ (cs : List Int) (d : Pl.Dg), Pl.Valid d → ∀ (k : Nat) (z : Mv), (wk most d cs).2[k]? = some z → z ∈ chL (apN d (wk most d cs).2 k) most
  | [], d, hd, k, z, h => by simp [wk] at h
  | c :: cs, d, hd, k, z, h => by
    cases hz : (chL d most)[chI c (chL d most).length]? with
    | none => rw [wk, hz] at h; simp at h
    | some y =>
      rw [wk_some hz] at h ⊢
      have hy := List.mem_of_getElem? hz
      cases k with
      | zero =>
        obtain rfl : y = z := by simpa using h
        exact hy
      | succ k => exact wk_run most cs (apD d y) (ap_ok hd (ch_ok hy)).1 k z (by simpa using h)
/-- Along a walk: valid, as many components. -/
theorem wk_along (most : Int) (cs : List Int) (d : Pl.Dg) (hd : Pl.Valid d) {T : Nat} (hT : strN d + d.lp = T) : ∀ k, k ≤ (wk most d cs).2.length → Pl.Valid (apN d (wk most d cs).2 k) ∧ strN (apN d (wk most d cs).2 k) + (apN d (wk most d cs).2 k).lp = T
  | 0, _ => by
    have e : apN d (wk most d cs).2 0 = d := by cases (wk most d cs).2 <;> rfl
    rw [e]
    exact ⟨hd, hT⟩
  | k + 1, h => by
    obtain ⟨z, hz⟩ : ∃ z, (wk most d cs).2[k]? = some z := ⟨_, List.getElem?_eq_getElem (by omega)⟩
    have ih := wk_along most cs d hd hT k (by omega)
    have hm := wk_run most cs d hd k z hz
    rw [apN_succ _ _ _ _ hz]
    have ha := ap_ok ih.1 (ch_ok hm)
    exact ⟨ha.1, (ha.2 _ _ (strN_str _ ih.1.wf) (strN_str _ ha.1.wf)).symm.trans ih.2⟩
theorem wk_bound (most : Int) (cs : List Int) (d : Pl.Dg) (hd : Pl.Valid d) {k : Nat} {z : Mv} (hz : (wk most d cs).2[k]? = some z) : ((apD (apN d (wk most d cs).2 k) z).n : Int) ≤ most := by
  have hk := (List.getElem?_eq_some_iff.1 hz).1
  have ih := (wk_along most cs d hd rfl k (by omega)).1
  have hm := wk_run most cs d hd k z hz
  rw [ap_n ih (ch_ok hm)]
  exact (mem_chL.1 hm).2
/-- While the moves of a walk are made again. -/
structure LI (u : World) (ga : Nat) (r : Pl.Dg) (A9 B9 : Option Addr) (n c8 m c9 lp : Nat) (W : World) : Prop where
  hn : n = r.n
  hm : m = 4 * r.n
  hl : lp = r.lp
  at_ : Row W ga 24 [.slice A9 n c8, .slice B9 m c9, .int .i64 (lp : Int)]
  t : DgT W A9 B9 r ∨ DgAt u A9 B9 r
  bel : Below u.heap.size u W
section
variable {u W W' : World} {ga : Nat} {r : Pl.Dg} {A9 B9 : Option Addr} {n c8 m c9 lp : Nat}
theorem LI.below (h : LI u ga r A9 B9 n c8 m c9 lp W) (hb : Below W.heap.size W W') : LI u ga r A9 B9 n c8 m c9 lp W' :=
  ⟨h.hn, h.hm, h.hl, h.at_.below hb, h.t.imp (fun t => t.keep hb) id, h.bel.trans (hb.mono h.bel.size)⟩
theorem LI.dg (h : LI u ga r A9 B9 n c8 m c9 lp W) : DgAt W A9 B9 r := h.t.elim (fun t => t.at) (fun t => t.keep h.bel)
end
set_option maxRecDepth 100000 in
set_option maxHeartbeats 8000000 in
theorem limits_valid (d : Pl.Dg) (hd : Pl.Valid d) (A B C : Option Addr) (cp cq m nc cc : Nat) (cs : List Int) (most : Int) (w : World) (hm : m = 4 * d.n) (hg : DgAt w A B d) (hc : IntsAt w C nc cs) (hnc : nc ≤ maxLen) (hmo : -9223372036854775808 ≤ most ∧ most ≤ 9223372036854775807) :
    Calls Try.prog 4 #[.agg #[.slice A d.n cp, .slice B m cq, .int .i64 d.lp], .slice C nc cc, .int .i64 most] w fun e w' => e = .returned (.bool true) ∧ Below w.heap.size w w' := by
  have HM := hide hm
  have HG := hide hg
  have HCS := hide hc
  have hn := hd.wf.few
  have hlp := hd.wf.lp
  unfold maxLen at hnc
  clear hm hg hc
  have X0 := hide (row_at (W := w) (g := w.heap.size) (t := 24) (vs := [.slice A d.n cp, .slice B m cq, .int .i64 (d.lp : Int)]) rfl)
  have B0 := hide (show Below w.heap.size w (w.alloc (.cells #[.slice A d.n cp, .slice B m cq, .int .i64 (d.lp : Int)] 24)) from (Below.refl _ _).alloc (Nat.le_refl _) _)
  go_enter Try.func4, Try.ntmps4
  go_wp2_with fail
  refine (awake11 _).mono ?_
  rintro e w1 ⟨rfl, hb1⟩
  have Y0 := hide (X0.out.below hb1)
  have B1 := hide (B0.out.trans (hb1.mono B0.out.size))
  clear X0 B0 hb1
  obtain ⟨d0, d1, d2, d3⟩ := box3 Y0.out
  go_wp2_with fail
  refine (great_any A B d.n m cp cq (d.lp : Int) w1).mono ?_
  rintro e w2 ⟨rfl, hb2⟩
  have Z0 := hide (Y0.out.below hb2)
  have B2 := hide (B1.out.trans (hb2.mono B1.out.size))
  clear Y0 B1 hb2 d0 d1 d2 d3
  obtain ⟨gb, hgb⟩ : ∃ b, b = grt d.n m (d.lp : Int) := ⟨_, rfl⟩
  rw [← hgb]
  clear hgb
  obtain ⟨d0, d1, d2, d3⟩ := box3 Z0.out
  cases gb with
  | true =>
    go_wp2
    go_ret
    exact ⟨rfl, B2.out⟩
  | false =>
    by_cases h3 : (3 : Int) < (nc : Int)
    · go_wp2
      go_ret
      exact ⟨rfl, B2.out⟩
    · by_cases h5 : (5 : Int) < most
      · go_wp2
        go_ret
        exact ⟨rfl, B2.out⟩
      · go_wp2_with fail
        refine (valid_yes d hd A B cp cq m _ HM.out (HG.out.keep B2.out)).mono ?_
        rintro e w3 ⟨rfl, hb3⟩
        have U0 := hide (Z0.out.below hb3)
        have B3 := hide (B2.out.trans (hb3.mono B2.out.size))
        clear Z0 B2 hb3 d0 d1 d2 d3
        obtain ⟨d0, d1, d2, d3⟩ := box3 U0.out
        go_wp2_with fail
        refine (walk_any d hd A B C cp cq m nc cc cs most _ HM.out (HG.out.keep B3.out) (HCS.out.keep B3.out) (by omega)).mono ?_
        rintro e w4 ⟨A4, B4, c4, c4', v4, rfl, hT4, hv4, hb4⟩
        obtain ⟨r, hr⟩ : ∃ r, r = (wk most d cs).1 := ⟨_, rfl⟩
        obtain ⟨ms, hms⟩ : ∃ ms, ms = (wk most d cs).2 := ⟨_, rfl⟩
        obtain ⟨T, hT⟩ : ∃ T, strN d + d.lp = T := ⟨_, rfl⟩
        have HD := hide hd
        have HLEN := hide (show ms.length ≤ 3 by
          have h := wk_len most cs d
          have h2 := HCS.out.len
          rw [← hms] at h
          omega)
        have HAL := hide (show ∀ k, k ≤ ms.length → Pl.Valid (apN d ms k) ∧ strN (apN d ms k) + (apN d ms k).lp = T from by rw [hms]; exact wk_along most cs d hd hT)
        have HBO := hide (show ∀ (k : Nat) (z : Mv), ms[k]? = some z → ((apD (apN d ms k) z).n : Int) ≤ most from by rw [hms]; exact fun k z hz => wk_bound most cs d hd hz)
        have HRU := hide (show ∀ (k : Nat) (z : Mv), ms[k]? = some z → apC (apN d ms k) z = 0 from by rw [hms]; exact fun k z hz => ch_ok (wk_run most cs d hd k z hz))
        have HTT := hide hT
        rw [← hms] at hv4
        rw [← hr]
        clear hT4 hr hms hT
        obtain ⟨M4, e4, rfl, hs4⟩ := hv4.at.mv
        have V0 := hide (U0.out.below hb4)
        have B5 := hide (B3.out.trans (hb4.mono B3.out.size))
        have S4 := hide hs4
        have hw4 : w.heap.size < w4.heap.size := V0.out.lt
        clear U0 B3 hb4 hs4 hv4 d0 d1 d2 d3
        obtain ⟨d0, d1, d2, d3⟩ := box3 V0.out
        go_upto_region 10 with fail
        obtain ⟨V, hV⟩ : ∃ V, V = (w4.alloc (.cells #[.slice A4 r.n c4, .slice B4 (4 * r.n) c4', .int .i64 (r.lp : Int)] 24)).alloc (.cells #[.slice A d.n cp, .slice B m cq, .int .i64 (d.lp : Int)] 24) := ⟨_, rfl⟩
        obtain ⟨ga, hga⟩ : ∃ g, g = w4.heap.size + 1 := ⟨_, rfl⟩
        have hga0 : w4.heap.size ≤ ga := by omega
        have L0 := hide (show LI w4 ga (apN d ms 0) A B d.n cp m cq d.lp V from by
          have e : apN d ms 0 = d := by cases ms <;> rfl
          rw [e, hV, hga]
          exact ⟨rfl, HM.out, rfl, row_at (vs := [.slice A d.n cp, .slice B m cq, .int .i64 (d.lp : Int)]) (by simp), .inr (HG.out.keep B5.out), ((Below.refl _ _).alloc (Nat.le_refl _) _).alloc (by simp) _⟩)
        obtain ⟨lim, hlim⟩ : ∃ l, l = max most (d.n : Int) := ⟨_, rfl⟩
        have hlm : most ≤ lim := by omega
        rw [← hV, ← hga, ← hlim]
        clear hV hga hlim d0 d1 d2 d3
        obtain ⟨nm, hnm⟩ : ∃ n, n = ms.length := ⟨_, rfl⟩
        have HNM := hide hnm
        rw [← hnm] at S4 ⊢
        have hnm3 : nm ≤ 3 := by rw [hnm]; exact HLEN.out
        clear hnm
        go_wp2_with fail
        go_loopg [13, 14, 15, 16, 53] nm (fun g s13 s14 s15 s16 i wx => ∃ (k : Nat) (A9 B9 : Option Addr) (n c8 m c9 lp : Nat), k + g = nm ∧ i = .int .i64 (k : Int) ∧ LI w4 ga (apN d ms k) A9 B9 n c8 m c9 lp wx)
        case atStart => exact ⟨0, _, _, _, _, _, _, _, by omega, rfl, L0.out⟩
        case round =>
          clear L0
          obtain ⟨k, A9, B9, n, c8, m9, c9, lp, hkg, rfl, hl⟩ := hrel
          have HKG := hide hkg
          have K0 := hide hl
          have hknm : k ≤ nm := by omega
          clear hl
          obtain ⟨d0, d1, d2, d3⟩ := box3 K0.out.at_
          have HRV := hide (HAL.out k (by rw [← HNM.out]; omega))
          obtain ⟨r1, hr1⟩ : ∃ r, r = apN d ms k := ⟨_, rfl⟩
          rw [← hr1] at K0 HRV
          have hlp1 := HRV.out.1.wf.lp
          rw [← K0.out.hl] at hlp1
          have hrn1 := HRV.out.1.wf.few
          rw [← K0.out.hn] at hrn1
          have hgw : ga < wr.heap.size := K0.out.at_.lt
          by_cases hk : k < nm
          · have hki : (k : Int) < (nm : Int) := by omega
            have k0 : (0 : Int) ≤ (k : Int) := by omega
            obtain ⟨gm, zk, zx, zy, zs, zo, rfl, hgm, hz, x0, x1, x2, x3, x4⟩ := (S4.out.keep K0.out.bel).at_ hk
            have HOK := hide (show apC r1 ⟨zk, zx, zy, zs, zo⟩ = 0 by rw [hr1]; exact HRU.out k _ hz)
            have HR2 := hide (show apD r1 ⟨zk, zx, zy, zs, zo⟩ = apN d ms (k + 1) by rw [hr1]; exact (apN_succ _ _ _ _ hz).symm)
            have HBN := hide (show ((apD r1 ⟨zk, zx, zy, zs, zo⟩).n : Int) ≤ most by rw [hr1]; exact HBO.out k _ hz)
            clear hz hkg hr1
            have K1 := hide (K0.out.below ((Below.refl wr.heap.size wr).alloc (Nat.le_refl _) (.cells #[.int .i64 zk, .int .i64 zx, .int .i64 zy, .int .i64 zs, .bool zo] 37)))
            go_wp2_with fail
            refine (apply_n r1 HRV.out.1 A9 B9 n c8 c9 m9 lp zk zx zy zs zo _ K1.out.hn K1.out.hm K1.out.hl K1.out.dg).mono ?_
            intro e w5 hres
            obtain ⟨A8, B8, b8, b9, k9, x9, y9, s9, o9, hmv, rfl, hT⟩ := (hres.2.1 HOK.out).split
            have K5 := hide (K1.out.below hres.2.2)
            obtain ⟨r2, hr2⟩ : ∃ r2, r2 = apD r1 ⟨zk, zx, zy, zs, zo⟩ := ⟨_, rfl⟩
            rw [← hr2] at hT HR2 HBN ⊢
            have HT := hide hT
            have HR2V := hide (show Pl.Valid r2 ∧ strN r2 + r2.lp = T by rw [HR2.out]; exact HAL.out (k + 1) (by rw [← HNM.out]; omega))
            have hr2n := HR2V.out.1.wf.few
            have hr2l := HR2V.out.1.wf.lp
            obtain ⟨N8, hN8⟩ : ∃ n, n = r2.n := ⟨_, rfl⟩
            obtain ⟨M8, hM8⟩ : ∃ n, n = 4 * r2.n := ⟨_, rfl⟩
            obtain ⟨L8, hL8⟩ : ∃ n, n = r2.lp := ⟨_, rfl⟩
            rw [← hM8, ← hN8, ← hL8]
            rw [← hN8] at hr2n
            rw [← hL8] at hr2l
            have hgt : ¬ lim < (N8 : Int) := by have := HBN.out; rw [← hN8] at this; omega
            have hgb : decide (lim < (N8 : Int)) = false := decide_eq_false hgt
            have HN8 := hide hN8
            have HM8 := hide hM8
            have HL8 := hide hL8
            clear hmv hT hres hr2 hN8 hM8 hL8 d0 d1 d2 d3 K1 K0 x0 x1 x2 x3 x4
            have hw5 : ga < w5.heap.size := K5.out.at_.lt
            go_upto_region 14 with fail
            obtain ⟨V2, hV2⟩ : ∃ V, V = (w5.alloc (.cells #[.slice A8 N8 b8, .slice B8 M8 b9, .int .i64 (L8 : Int)] 24)).alloc (.cells #[.int .i64 k9, .int .i64 x9, .int .i64 y9, .int .i64 s9, .bool o9] 37) := ⟨_, rfl⟩
            obtain ⟨g8, hg8⟩ : ∃ g, g = w5.heap.size := ⟨_, rfl⟩
            have b6 : Below w5.heap.size w5 V2 := by rw [hV2]; exact ((Below.refl w5.heap.size w5).alloc (Nat.le_refl _) _).alloc (by simp) _
            have R8 := hide (show Row V2 g8 24 [.slice A8 N8 b8, .slice B8 M8 b9, .int .i64 (L8 : Int)] by rw [hV2, hg8]; exact (row_at (vs := [.slice A8 N8 b8, .slice B8 M8 b9, .int .i64 (L8 : Int)]) rfl).alloc _)
            have T8 := hide (HT.out.keep b6)
            have K8 := hide (K5.out.below b6)
            have X8 := hide (V0.out.below K8.out.bel)
            have D8 := hide (HG.out.keep (B5.out.trans (K8.out.bel.mono B5.out.size)))
            rw [← hV2, ← hg8]
            have hg8a : ga < g8 := by omega
            clear hV2 hg8 b6 K5 HT
            have HC1 := hide (fun (p : Cls (fun W => Below V2.heap.size V2 W)) => calls_cls (C := (fun W => Below V2.heap.size V2 W)) (comps_T r2 HR2V.out.1 A8 B8 N8 b8 b9 M8 L8 T p.w HM8.out (T8.out.at.keep p.ok) HN8.out HL8.out HR2V.out.2) (fun e w' h => ⟨h.1, p.ok.trans (h.2.mono p.ok.size)⟩))
            have HC2 := hide (fun (p : Cls (fun W => Below V2.heap.size V2 W)) => calls_cls (C := (fun W => Below V2.heap.size V2 W)) (comps_T d HD.out A B d.n cp cq m d.lp T p.w HM.out (D8.out.keep p.ok) rfl rfl HTT.out) (fun e w' h => ⟨h.1, p.ok.trans (h.2.mono p.ok.size)⟩))
            have c30 : ∀ p : Cls (fun W => Below V2.heap.size V2 W), p.w.cell? ⟨w.heap.size, 0, none⟩ = some (.slice A d.n cp) := fun p => (X8.out.below p.ok).cell (i := 0) (by show 0 < 3; omega)
            have c31 : ∀ p : Cls (fun W => Below V2.heap.size V2 W), p.w.cell? ⟨w.heap.size, 1, none⟩ = some (.slice B m cq) := fun p => (X8.out.below p.ok).cell (i := 1) (by show 1 < 3; omega)
            have c32 : ∀ p : Cls (fun W => Below V2.heap.size V2 W), p.w.cell? ⟨w.heap.size, 2, none⟩ = some (.int .i64 (d.lp : Int)) := fun p => (X8.out.below p.ok).cell (i := 2) (by show 2 < 3; omega)
            have c40 : ∀ p : Cls (fun W => Below V2.heap.size V2 W), p.w.cell? ⟨g8, 0, none⟩ = some (.slice A8 N8 b8) := fun p => (R8.out.below p.ok).cell (i := 0) (by show 0 < 3; omega)
            have c41 : ∀ p : Cls (fun W => Below V2.heap.size V2 W), p.w.cell? ⟨g8, 1, none⟩ = some (.slice B8 M8 b9) := fun p => (R8.out.below p.ok).cell (i := 1) (by show 1 < 3; omega)
            have c42 : ∀ p : Cls (fun W => Below V2.heap.size V2 W), p.w.cell? ⟨g8, 2, none⟩ = some (.int .i64 (L8 : Int)) := fun p => (R8.out.below p.ok).cell (i := 2) (by show 2 < 3; omega)
            refine wp_region_cls (fun W => Below V2.heap.size V2 W) (by kernel_rfl) (by kernel_rfl) (Below.refl V2.heap.size V2).drew (fun hne => ?_)
            iterate 12 (go_big_quiet_step (((go_at_call 24; exact HC1.out _))))
            clear HC1
            repeat (go_big_quiet_step (((go_at_call 24; exact HC2.out _))))
            refine wpQuiet_nil ?_
            rintro _ ⟨p, rfl⟩
            have K9 := hide (K8.out.below p.ok)
            have T9 := hide (T8.out.keep p.ok)
            have R9 := hide (R8.out.below p.ok)
            clear HC2 c30 c31 c32 c40 c41 c42 K8 T8 R8 D8 X8
            obtain ⟨e0, e1, e2, e3⟩ := box3 R9.out
            obtain ⟨f0, f1, f2, f3⟩ := box3 K9.out.at_
            go_wp2
            go_roundg (gk - 1)
            case measure => have := HKG.out; omega
            case rel =>
              refine ⟨k + 1, A8, B8, N8, b8, M8, b9, L8, by have := HKG.out; omega, by go_num, ?_⟩
              rw [← HR2.out]
              exact ⟨HN8.out, HM8.out, HL8.out, row3 K9.out.at_ rfl _ _ _, .inl (T9.out.set3 K9.out.at_ _ _ _), below3 K9.out.bel hga0 _ _ _⟩
          · have hki : ¬ ((k : Int) < (nm : Int)) := by omega
            clear hkg d0 d1 d2 d3
            go_wp2
            go_ret
            exact ⟨rfl, B5.out.trans (K0.out.bel.mono B5.out.size)⟩
set_option maxRecDepth 100000 in
set_option maxHeartbeats 4000000 in
theorem limits_bad (sg mt : List Int) (lp : Int) (A B C : Option Addr) (n q cp cq nc cc : Nat) (most : Int) (w : World) (hs : IntsAt w A n sg) (hm : IntsAt w B q mt) (hn : n ≤ maxLen) (hq : q ≤ maxLen) (hlp : -9223372036854775808 ≤ lp ∧ lp ≤ 9223372036854775807) (hnc : nc ≤ maxLen) (hv : ¬ Pl.VL sg mt lp) :
    Calls Try.prog 4 #[.agg #[.slice A n cp, .slice B q cq, .int .i64 lp], .slice C nc cc, .int .i64 most] w fun e w' => e = .returned (.bool true) ∧ Below w.heap.size w w' := by
  have HS := hide hs
  have HM := hide hm
  clear hs hm
  have hnc' := hnc
  unfold maxLen at hnc'
  have X0 := hide (row_at (W := w) (g := w.heap.size) (t := 24) (vs := [.slice A n cp, .slice B q cq, .int .i64 lp]) rfl)
  have B0 := hide (show Below w.heap.size w (w.alloc (.cells #[.slice A n cp, .slice B q cq, .int .i64 lp] 24)) from (Below.refl _ _).alloc (Nat.le_refl _) _)
  go_enter Try.func4, Try.ntmps4
  go_wp2_with fail
  refine (awake11 _).mono ?_
  rintro e w1 ⟨rfl, hb1⟩
  have Y0 := hide (X0.out.below hb1)
  have B1 := hide (B0.out.trans (hb1.mono B0.out.size))
  clear X0 B0 hb1
  obtain ⟨d0, d1, d2, d3⟩ := box3 Y0.out
  go_wp2_with fail
  refine (great_any A B n q cp cq lp w1).mono ?_
  rintro e w2 ⟨rfl, hb2⟩
  have Z0 := hide (Y0.out.below hb2)
  have B2 := hide (B1.out.trans (hb2.mono B1.out.size))
  clear Y0 B1 hb2 d0 d1 d2 d3
  obtain ⟨gb, hgb⟩ : ∃ b, b = grt n q lp := ⟨_, rfl⟩
  rw [← hgb]
  clear hgb
  obtain ⟨d0, d1, d2, d3⟩ := box3 Z0.out
  cases gb with
  | true =>
    go_wp2
    go_ret
    exact ⟨rfl, B2.out⟩
  | false =>
    by_cases h3 : (3 : Int) < (nc : Int)
    · go_wp2
      go_ret
      exact ⟨rfl, B2.out⟩
    · by_cases h5 : (5 : Int) < most
      · go_wp2
        go_ret
        exact ⟨rfl, B2.out⟩
      · go_wp2_with fail
        refine (valid_any sg mt lp A B n q cp cq _ (HS.out.keep B2.out) (HM.out.keep B2.out) hn hq hlp).mono ?_
        rintro e w3 ⟨rfl, hb3⟩
        rw [Pl.vb_false hv]
        have B3 := hide (B2.out.trans (hb3.mono B2.out.size))
        clear hb3
        go_wp2
        go_ret
        exact ⟨rfl, B3.out⟩
theorem limits_walk (sg mt : List Int) (lp : Int) (A B C : Option Addr) (n q cp cq nc cc : Nat) (cs : List Int) (most : Int) (w : World) (hs : IntsAt w A n sg) (hm : IntsAt w B q mt) (hc : IntsAt w C nc cs) (hn : n ≤ maxLen) (hq : q ≤ maxLen) (hnc : nc ≤ maxLen) (hlp : -9223372036854775808 ≤ lp ∧ lp ≤ 9223372036854775807) (hmo : -9223372036854775808 ≤ most ∧ most ≤ 9223372036854775807) :
    Calls Try.prog 4 #[.agg #[.slice A n cp, .slice B q cq, .int .i64 lp], .slice C nc cc, .int .i64 most] w fun e w' => e = .returned (.bool true) ∧ Below w.heap.size w w' := by
  by_cases hv : Pl.VL sg mt lp
  · have hl := hs.len
    have hl2 := hm.len
    have hl3 := hv.len
    have en : (Pl.mk sg mt lp).n = n := hl
    have em : nats (Pl.mk sg mt lp).mt = mt := Pl.nats_mk hv.2.1
    have el : ((Pl.mk sg mt lp).lp : Int) = lp := by show ((lp.toNat : Nat) : Int) = lp; have := hv.2.2; omega
    have h := limits_valid (Pl.mk sg mt lp) hv.1 A B C cp cq q nc cc cs most w (by rw [en]; omega) ⟨by rw [en]; exact hs, by rw [en, em, show 4 * n = q by omega]; exact hm⟩ hc hnc hmo
    rw [en, el] at h
    exact h
  · exact limits_bad sg mt lp A B C n q cp cq nc cc most w hs hm hn hq hlp hnc hv
end Go.Proofs.Ytghdiolnonejaaa
end

section
namespace Go.Proofs.Ytghdiolnonejaaa
open Go Go.ChangeShapes Go.WideShapes Go.ChangeAt Go.RowKit Go.Deep
set_option maxRecDepth 100000 in
set_option maxHeartbeats 2000000 in
theorem open_listc {H : Type} {enc : TypeId × Value → H} {w : World} {base : Nat} {spare : Nat → Bool} {held : Bool} {r : Reach} {b0 : Nat} {v : Value} {d : DataW H} {p : List MemPlace} (hval : Value.okWide Try.prog w r b0 22 v) (h : DataW.Trod enc Try.prog w base spare held 22 v d p) :
    ∃ (A : Option Addr) (n c : Nat) (xs : List Int), v = .slice A n c ∧ n ≤ c ∧ c ≤ maxLen ∧ IntsAt w A n xs := by
  obtain ⟨a, len, cap, rfl⟩ := okWide_slice Try.underlying22 hval
  obtain ⟨fuel, hf⟩ := h
  have hf' : DataW.trod enc Try.prog w base spare held fuel 22 [.slice a len cap] = some (d, p) := hf
  have hc : len ≤ cap ∧ cap ≤ maxLen := by
    rcases open_ints Try.underlying22 Try.underlying3 (by kernel_rfl) hf' with ⟨h1, _⟩ | ⟨a', len', cap', zs, h1, _, hl, hm, hsl, _, hc, _⟩
    · obtain ⟨_, rfl, rfl⟩ : a = none ∧ len = 0 ∧ cap = 0 := by simpa using h1
      exact ⟨Nat.le_refl _, Nat.zero_le _⟩
    · obtain ⟨_, rfl, rfl⟩ : a = some a' ∧ len = len' ∧ cap = cap' := by simpa using h1
      exact ⟨by omega, by omega⟩
  obtain ⟨A, n, c, xs, e, _, hx⟩ := ints_of_trod hf'
  injection e with e1 e2 e3
  subst e1
  subst e2
  subst e3
  exact ⟨a, len, cap, xs, rfl, hc.1, hc.2, hx⟩
end Go.Proofs.Ytghdiolnonejaaa
end
