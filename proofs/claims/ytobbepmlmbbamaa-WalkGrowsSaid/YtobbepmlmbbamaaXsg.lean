/-
  The texts Xl, Xm in one.
-/
import Derived.Test.YtobbepmlmbbamaaXk
import Derived.Test.YtobbepmlmbbamaaPla
import Derived.Test.YtobbepmlmbbamaaXh
set_option linter.unusedVariables false
set_option linter.unusedSimpArgs false

section
/-
  The law on signs, in plain Lean: what Apply does to the sum of the signs and to the number of crossings.
-/
namespace Go.Proofs.Ytobbepmlmbbamaa
open Go Go.RowKit

/-- By how much the sum of the signs changes; how many crossings are added. -/
def byK (m : Mv) (s : Int) : Int := if m.kind = 1 then m.sign else if m.kind = 2 then -s else 0
def moreK (m : Mv) : Int := if m.kind = 1 then 1 else if m.kind = 2 then -1 else if m.kind = 3 then 2 else if m.kind = 4 then -2 else 0
def Sml (l : List Int) : Prop := ∀ z, z ∈ l → -1 ≤ z ∧ z ≤ 1
theorem wf_sml {d : Pl.Dg} (hd : Pl.Wf d) : Sml d.sg := fun z hz => by
  obtain ⟨k, hk, rfl⟩ := List.getElem_of_mem hz
  have := hd.sign k hk
  unfold Pl.Dg.s at this
  rw [List.getD_eq_getElem?_getD, List.getElem?_eq_getElem hk] at this
  simp at this
  omega
theorem sml_app {l r : List Int} (h : Sml l) (h' : Sml r) : Sml (l ++ r) := fun z hz => by
  rcases List.mem_append.1 hz with h1 | h1
  · exact h z h1
  · exact h' z h1
theorem shr_sml {l : List Int} (h : Sml l) (gs : List Nat) : Sml (Pl.shrS gs l) := fun z hz => by
  unfold Pl.shrS at hz
  obtain ⟨c, _, rfl⟩ := List.mem_map.1 hz
  rw [List.getD_eq_getElem?_getD]
  cases hc : l[c]? with
  | none => simp
  | some v => exact h v (List.mem_of_getElem? hc)
theorem sgn2_sml (a b : Nat) : -1 ≤ sgn2 a b ∧ sgn2 a b ≤ 1 := by unfold sgn2; split <;> omega
theorem poke_signs (d : Pl.Dg) (x y : Int) (ov : Bool) : sgn2 (un0 d x y ov) (ov0 d x y ov) + sgn2 (un1 d x y ov) (ov1 d x y ov) = 0 := by
  unfold sgn2 un0 ov0 un1 ov1 lnS th0 th1 plc
  cases ov <;> cases fwd d y <;> cases fwd d x <;> decide
/-- THE LAW: at a move that is applied. -/
theorem signs_law {d : Pl.Dg} (hd : Pl.Valid d) (m : Mv) (h : apC d m = 0) :
    (apD d m).sg.sum = d.sg.sum + byK m (apI d m).sign ∧ ((apD d m).sg.length : Int) = d.sg.length + moreK m ∧ Sml (apD d m).sg := by
  obtain ⟨k, x, y, s, o⟩ := m
  have hs := wf_sml hd.wf
  by_cases hk : k < 1 ∨ 5 < k
  · unfold apC at h; rw [if_pos hk] at h; exact absurd h (by decide)
  by_cases hin : inR d.n ⟨k, x, y, s, o⟩
  · have hv : ¬ (Pl.vb (inR d.n ⟨k, x, y, s, o⟩) = false) := by rw [Pl.vb_true hin]; decide
    have e0 : apC d ⟨k, x, y, s, o⟩ = if k = 1 then curlableC d x else if k = 2 then uncC d x.toNat else if k = 3 then pkQ d x y s else if k = 4 then unpC d x.toNat y.toNat else sldC d x.toNat := by unfold apC; rw [if_neg hk, if_neg hv]
    rw [e0] at h
    have hk5 : k = 1 ∨ k = 2 ∨ k = 3 ∨ k = 4 ∨ k = 5 := by omega
    rcases hk5 with rfl | rfl | rfl | rfl | rfl
    · have hsg : s = 1 ∨ s = -1 := by have := hin; unfold inR at this; simp at this; omega
      refine ⟨?_, ?_, ?_⟩
      · show (d.sg ++ [s]).sum = d.sg.sum + s
        simp
      · show ((d.sg ++ [s]).length : Int) = d.sg.length + 1
        simp
      · show Sml (d.sg ++ [s])
        exact sml_app hs (fun z hz => by simp at hz; subst hz; omega)
    · obtain ⟨c, rfl⟩ := Int.eq_ofNat_of_zero_le (show 0 ≤ x by have := hin; unfold inR at this; simp at this; omega)
      have hc : c < d.sg.length := by have := hin; unfold inR at this; simp [Pl.Dg.n] at this; omega
      refine ⟨?_, ?_, ?_⟩
      · show (Pl.shrS [c] d.sg).sum = d.sg.sum + -(d.s c)
        rw [Pl.shrS_one d.sg hc]
        show _ - d.sg.getD c 0 = _ + -(d.sg.getD c 0)
        omega
      · show ((Pl.shrS [c] d.sg).length : Int) = d.sg.length + -1
        have := Pl.left_one hc
        rw [Pl.shrS_len]
        omega
      · show Sml (Pl.shrS [c] d.sg)
        exact shr_sml hs _
    · refine ⟨?_, ?_, ?_⟩
      · show (d.sg ++ [_, _]).sum = d.sg.sum + 0
        have := poke_signs d x y o
        simp
        omega
      · show ((d.sg ++ [_, _]).length : Int) = d.sg.length + 2
        simp
      · show Sml (d.sg ++ [_, _])
        refine sml_app hs (fun z hz => ?_)
        simp at hz
        rcases hz with rfl | rfl <;> exact sgn2_sml _ _
    · obtain ⟨a, rfl⟩ := Int.eq_ofNat_of_zero_le (show 0 ≤ x by have := hin; unfold inR at this; simp at this; omega)
      obtain ⟨b, rfl⟩ := Int.eq_ofNat_of_zero_le (show 0 ≤ y by have := hin; unfold inR at this; simp at this; omega)
      have hab : a < b ∧ b < d.n := by have := hin; unfold inR at this; simp at this; omega
      have h' : unpC d a b = 0 := h
      have eD : apD d ⟨4, (a : Int), (b : Int), s, o⟩ = unpD d a b := rfl
      cases hL : lensI d a b with
      | none => unfold unpC at h'; rw [hL] at h'; exact absurd (show (6 : Int) = 0 from h') (by decide)
      | some i =>
        have eS : (unpD d a b).sg = Pl.shrS [a, b] d.sg := by unfold unpD; rw [hL]; rfl
        obtain ⟨h1, h2, h3⟩ := lens_is hL
        have hi := lens_lt hL
        have hl : lnH a b i < 4 * d.n := by unfold lnH; split <;> omega
        have sg := Pl.lens_signs hd.wf hl h2 h3
        rw [h1] at sg
        have sab : d.s a + d.s b = 0 := by
          unfold lnH lnO at sg
          by_cases h4 : i < 4
          · rw [if_pos h4, if_pos h4, show (4 * a + i) / 4 = a by omega] at sg
            exact sg
          · rw [if_neg h4, if_neg h4, show (4 * b + i - 4) / 4 = b by omega] at sg
            omega
        have hb : b < d.sg.length := hab.2
        rw [eD, eS]
        refine ⟨?_, ?_, ?_⟩
        · show (Pl.shrS [a, b] d.sg).sum = d.sg.sum + 0
          rw [Pl.shrS_two d.sg hab.1 hb]
          unfold Pl.Dg.s at sab
          omega
        · show ((Pl.shrS [a, b] d.sg).length : Int) = d.sg.length + -2
          have := Pl.left_two hab.1 hb
          rw [Pl.shrS_len]
          omega
        · exact shr_sml hs _
    · refine ⟨?_, ?_, ?_⟩
      · show d.sg.sum = d.sg.sum + 0
        omega
      · show (d.sg.length : Int) = d.sg.length + 0
        omega
      · exact hs
  · unfold apC at h
    rw [if_neg hk, if_pos (Pl.vb_false hin)] at h
    exact absurd h (by decide)
end Go.Proofs.Ytobbepmlmbbamaa
end

section
/-
  Walks: the law on signs (MovesSigns).
-/
namespace Go.Proofs.Ytobbepmlmbbamaa
open Go Go.RowKit

theorem small_any (A B : Option Addr) (n q cp cq : Nat) (l : Value) (w : World) : Calls Try.prog 21 #[.agg #[.slice A n cp, .slice B q cq, l]] w fun e w' => (e = .returned (.int .i64 0) ∨ e = .returned (.int .i64 1)) ∧ Below w.heap.size w w' := by
  by_cases h1 : (12 : Int) < (n : Int)
  · go_enter Try.func21, Try.ntmps21
    go_wp2
    go_ret
    exact ⟨.inl rfl, (Below.refl _ _).alloc (Nat.le_refl _) _⟩
  · by_cases h2 : (60 : Int) < (q : Int)
    · go_enter Try.func21, Try.ntmps21
      go_wp2
      go_ret
      exact ⟨.inl rfl, (Below.refl _ _).alloc (Nat.le_refl _) _⟩
    · go_enter Try.func21, Try.ntmps21
      go_wp2
      go_ret
      exact ⟨.inr rfl, (Below.refl _ _).alloc (Nat.le_refl _) _⟩
theorem sm_bd {f : Nat → Int} : ∀ k, (∀ c, c < k → -1 ≤ f c ∧ f c ≤ 1) → -(k : Int) ≤ Pl.sm f k ∧ Pl.sm f k ≤ k
  | 0, _ => ⟨by simp [Pl.sm], by simp [Pl.sm]⟩
  | k + 1, h => by
    have ih := sm_bd k (fun c hc => h c (by omega))
    have := h k (by omega)
    show -((k + 1 : Nat) : Int) ≤ Pl.sm f k + f k ∧ Pl.sm f k + f k ≤ ((k + 1 : Nat) : Int)
    omega
theorem sml_at {l : List Int} (h : Sml l) (c : Nat) : -1 ≤ l.getD c 0 ∧ l.getD c 0 ≤ 1 := by
  rw [List.getD_eq_getElem?_getD]
  cases hc : l[c]? with
  | none => simp
  | some v => exact h v (List.mem_of_getElem? hc)
theorem by_bd {d : Pl.Dg} (hd : Pl.Valid d) (m : Mv) (h : apC d m = 0) : -1 ≤ byK m (apI d m).sign ∧ byK m (apI d m).sign ≤ 1 := by
  obtain ⟨k, x, y, s, o⟩ := m
  by_cases h1 : k = 1
  · subst h1
    have hin : inR d.n ⟨1, x, y, s, o⟩ := by
      by_cases hin : inR d.n ⟨1, x, y, s, o⟩
      · exact hin
      · unfold apC at h; rw [if_neg (show ¬ ((1 : Int) < 1 ∨ 5 < (1 : Int)) by decide), if_pos (Pl.vb_false hin)] at h; exact absurd h (by decide)
    have hsg : s = 1 ∨ s = -1 := by unfold inR at hin; simp at hin; omega
    show -1 ≤ s ∧ s ≤ 1
    omega
  · by_cases h2 : k = 2
    · subst h2
      have := sml_at (wf_sml hd.wf) x.toNat
      show -1 ≤ -(d.sg.getD x.toNat 0) ∧ -(d.sg.getD x.toNat 0) ≤ 1
      omega
    · unfold byK
      simp only [if_neg h1, if_neg h2]
      decide
set_option maxRecDepth 100000 in
set_option maxHeartbeats 4000000 in
theorem signs_valid (d : Pl.Dg) (hd : Pl.Valid d) (A B : Option Addr) (cp cq m : Nat) (k x y s : Int) (o : Bool) (w : World) (hm : m = 4 * d.n) (hg : DgAt w A B d) :
    Calls Try.prog 6 #[.agg #[.slice A d.n cp, .slice B m cq, .int .i64 d.lp], (Mv.mk k x y s o).v] w fun e w' => e = .returned (.bool true) ∧ Below w.heap.size w w' := by
  have hn := hd.wf.few
  have HM := hide hm
  have HG := hide hg
  clear hm hg
  have X0 := hide (show Row ((w.alloc (.cells #[.slice A d.n cp, .slice B m cq, .int .i64 d.lp] 24)).alloc (.cells #[.int .i64 k, .int .i64 x, .int .i64 y, .int .i64 s, .bool o] 28)) w.heap.size 24 [.slice A d.n cp, .slice B m cq, .int .i64 d.lp] from (row_at (vs := [_, _, _]) rfl).alloc _)
  have X1 := hide (show Row ((w.alloc (.cells #[.slice A d.n cp, .slice B m cq, .int .i64 d.lp] 24)).alloc (.cells #[.int .i64 k, .int .i64 x, .int .i64 y, .int .i64 s, .bool o] 28)) (w.heap.size + 1) 28 [.int .i64 k, .int .i64 x, .int .i64 y, .int .i64 s, .bool o] from row_at (vs := [_, _, _, _, _]) (by simp))
  have B0 := hide (show Below w.heap.size w ((w.alloc (.cells #[.slice A d.n cp, .slice B m cq, .int .i64 d.lp] 24)).alloc (.cells #[.int .i64 k, .int .i64 x, .int .i64 y, .int .i64 s, .bool o] 28)) from ((Below.refl _ _).alloc (Nat.le_refl _) _).alloc (by simp) _)
  unfold Mv.v
  go_enter Try.func6, Try.ntmps6
  go_wp2_with fail
  refine (awake_true _).mono ?_
  rintro e w1 ⟨rfl, hb1⟩
  have Y0 := hide (X0.out.below hb1)
  have Y1 := hide (X1.out.below hb1)
  have B1 := hide (B0.out.trans (hb1.mono B0.out.size))
  clear X0 X1 B0 hb1
  obtain ⟨d0, d1, d2, d3⟩ := box3 Y0.out
  go_wp2_with fail
  refine (small_any A B d.n m cp cq (.int .i64 d.lp) w1).mono ?_
  rintro e w2 ⟨he, hb2⟩
  have Z0 := hide (Y0.out.below hb2)
  have Z1 := hide (Y1.out.below hb2)
  have B2 := hide (B1.out.trans (hb2.mono B1.out.size))
  clear Y0 Y1 B1 hb2 d0 d1 d2 d3
  obtain ⟨d0, d1, d2, d3⟩ := box3 Z0.out
  obtain ⟨m0, m1, m2, m3, m4, m5⟩ := box5 Z1.out
  rcases he with rfl | rfl
  · go_wp2
    go_ret
    exact ⟨rfl, B2.out⟩
  · go_wp2_with fail
    refine (apply_any d hd A B cp cq m ⟨k, x, y, s, o⟩ w2 HM.out (HG.out.keep B2.out)).mono ?_
    intro e w3 hres
    have R0 := hide (Z0.out.below hres.2.2)
    have R1 := hide (Z1.out.below hres.2.2)
    have B3 := hide (B2.out.trans (hres.2.2.mono B2.out.size))
    by_cases hc : apC d ⟨k, x, y, s, o⟩ = 0
    · have LAW := hide (signs_law hd ⟨k, x, y, s, o⟩ hc)
      have BD := hide (by_bd hd ⟨k, x, y, s, o⟩ hc)
      obtain ⟨A9, B9, c8, c9, k9, x9, y9, s9, o9, hmv, rfl, hT⟩ := (hres.2.1 hc).split
      have HMV := hide hmv
      have HTs := hide hT.s.row
      clear hc hmv hT hres d0 d1 d2 d3 m0 m1 m2 m3 m4 m5 Z0 Z1 B2
      obtain ⟨r, hr⟩ : ∃ r, r = apD d ⟨k, x, y, s, o⟩ := ⟨_, rfl⟩
      rw [← hr] at HTs LAW ⊢
      clear hr
      obtain ⟨N9, hN9⟩ : ∃ n, n = r.n := ⟨_, rfl⟩
      have HS := hide (show IntsAt w3 A9 N9 r.sg by rw [hN9]; exact HTs.out)
      have HLEN := hide (show r.sg.length = N9 from hN9.symm)
      rw [← hN9]
      clear hN9 HTs
      have hlen9 : (N9 : Int) = d.n + moreK ⟨k, x, y, s, o⟩ := by have := LAW.out.2.1; rw [HLEN.out] at this; exact this
      have hmore : -2 ≤ moreK ⟨k, x, y, s, o⟩ ∧ moreK ⟨k, x, y, s, o⟩ ≤ 2 := by unfold moreK; simp only; (repeat' split) <;> omega
      have hN70 : N9 ≤ 70 := by omega
      have HLN := hide hlen9
      clear hlen9 hmore
      obtain ⟨L9, hL9⟩ : ∃ n, n = r.lp := ⟨_, rfl⟩
      rw [← hL9]
      clear hL9
      have V0 := hide (((Below.refl w3.heap.size w3).alloc (Nat.le_refl _) (.cells #[.slice A9 N9 c8, .slice B9 (4 * N9) c9, .int .i64 (L9 : Int)] 24)).alloc (by simp) (.cells #[.int .i64 k9, .int .i64 x9, .int .i64 y9, .int .i64 s9, .bool o9] 28))
      have P0 := hide (show Row ((w3.alloc (.cells #[.slice A9 N9 c8, .slice B9 (4 * N9) c9, .int .i64 (L9 : Int)] 24)).alloc (.cells #[.int .i64 k9, .int .i64 x9, .int .i64 y9, .int .i64 s9, .bool o9] 28)) w3.heap.size 24 [.slice A9 N9 c8, .slice B9 (4 * N9) c9, .int .i64 (L9 : Int)] from (row_at (vs := [_, _, _]) rfl).alloc _)
      have P1 := hide (show Row ((w3.alloc (.cells #[.slice A9 N9 c8, .slice B9 (4 * N9) c9, .int .i64 (L9 : Int)] 24)).alloc (.cells #[.int .i64 k9, .int .i64 x9, .int .i64 y9, .int .i64 s9, .bool o9] 28)) (w3.heap.size + 1) 28 [.int .i64 k9, .int .i64 x9, .int .i64 y9, .int .i64 s9, .bool o9] from row_at (vs := [_, _, _, _, _]) (by simp))
      go_wp2
      obtain ⟨V, hV⟩ : ∃ V : World, V = ((w3.alloc (.cells #[.slice A9 N9 c8, .slice B9 (4 * N9) c9, .int .i64 (L9 : Int)] 24)).alloc (.cells #[.int .i64 k9, .int .i64 x9, .int .i64 y9, .int .i64 s9, .bool o9] 28)) := ⟨_, rfl⟩
      obtain ⟨go, hgo⟩ : ∃ g, g = w3.heap.size := ⟨_, rfl⟩
      obtain ⟨gb, hgb⟩ : ∃ g, g = w3.heap.size + 1 := ⟨_, rfl⟩
      have Q0 := hide (R0.out.below (show Below w3.heap.size w3 V by rw [hV]; exact V0.out))
      have Q1 := hide (R1.out.below (show Below w3.heap.size w3 V by rw [hV]; exact V0.out))
      have BV := hide (B3.out.trans ((show Below w3.heap.size w3 V by rw [hV]; exact V0.out).mono B3.out.size))
      have HSV := hide (HS.out.keep (show Below w3.heap.size w3 V by rw [hV]; exact V0.out))
      rw [← hV, ← hgo] at P0
      rw [← hV, ← hgb] at P1
      rw [← hgb, ← hgo, ← hV]
      have HDV := hide (HG.out.keep BV.out)
      clear hV hgo hgb V0 R0 R1 B3 HS
      have hsd := wf_sml hd.wf
      have SD := hide (show ∀ c, -1 ≤ d.sg.getD c 0 ∧ d.sg.getD c 0 ≤ 1 from sml_at hsd)
      have SR := hide (show ∀ c, -1 ≤ r.sg.getD c 0 ∧ r.sg.getD c 0 ≤ 1 from sml_at LAW.out.2.2)
      clear hsd
      go_loopg [8, 10] d.n (fun g s8 s10 wx => ∃ q : Nat, q + g = d.n ∧ s10 = .int .i64 (q : Int) ∧ s8 = .int .i64 (Pl.sm (fun c => d.sg.getD c 0) q) ∧ wx = V)
      case atStart => exact ⟨0, by omega, rfl, rfl, rfl⟩
      case round =>
        obtain ⟨q, hkg, rfl, rfl, rfl⟩ := hrel
        have HKG := hide hkg
        obtain ⟨d0, d1, d2, d3⟩ := box3 Q0.out
        have bd := sm_bd (f := fun c => d.sg.getD c 0) q (fun c _ => SD.out c)
        have HST := hide (show Pl.sm (fun c => d.sg.getD c 0) (q + 1) = Pl.sm (fun c => d.sg.getD c 0) q + d.sg.getD q 0 from rfl)
        by_cases hq : q < d.n
        · have hqi : (q : Int) < (d.n : Int) := by omega
          have q0 : (0 : Int) ≤ (q : Int) := by omega
          obtain ⟨b, o', rfl, cs⟩ := HDV.out.s.at_ hq
          have sq := SD.out q
          obtain ⟨a1, ha1⟩ : ∃ a, a = Pl.sm (fun c => d.sg.getD c 0) q := ⟨_, rfl⟩
          obtain ⟨a2, ha2⟩ : ∃ a, a = d.sg.getD q 0 := ⟨_, rfl⟩
          rw [← ha1, ← ha2] at HST
          rw [← ha1] at bd ⊢
          rw [← ha2] at cs sq
          have i1 : -100 ≤ a1 := by omega
          have i2 : a1 ≤ 100 := by omega
          have i3 : -1 ≤ a2 := sq.1
          have i4 : a2 ≤ 1 := sq.2
          clear ha1 ha2 hkg bd sq
          go_wp2
          go_roundg (gk - 1)
          case measure => have := HKG.out; omega
          case rel => exact ⟨q + 1, by have := HKG.out; omega, by go_num, by rw [HST.out], rfl⟩
        · have hqi : ¬ ((q : Int) < (d.n : Int)) := by omega
          have hqn : q = d.sg.length := by show q = d.n; omega
          have bd2 := bd
          obtain ⟨a1, ha1⟩ : ∃ a, a = Pl.sm (fun c => d.sg.getD c 0) q := ⟨_, rfl⟩
          rw [← ha1] at bd ⊢
          have HA := hide (show a1 = d.sg.sum by rw [ha1, hqn, Pl.sm_list])
          have i1 : -100 ≤ a1 := by omega
          have i2 : a1 ≤ 100 := by omega
          clear ha1 hqn bd bd2 HST hkg HKG
          go_wp2
          clear d0 d1 d2 d3
          go_loopg [9, 11] N9 (fun g s9' s11 wx => ∃ q : Nat, q + g = N9 ∧ s11 = .int .i64 (q : Int) ∧ s9' = .int .i64 (Pl.sm (fun c => r.sg.getD c 0) q) ∧ wx = wr)
          case atStart => exact ⟨0, by omega, rfl, rfl, rfl⟩
          case round =>
            obtain ⟨q, hkg, rfl, rfl, rfl⟩ := hrel
            have HKG := hide hkg
            obtain ⟨p0, p1, p2, p3⟩ := box3 P0.out
            have bd := sm_bd (f := fun c => r.sg.getD c 0) q (fun c _ => SR.out c)
            have HST := hide (show Pl.sm (fun c => r.sg.getD c 0) (q + 1) = Pl.sm (fun c => r.sg.getD c 0) q + r.sg.getD q 0 from rfl)
            by_cases hq : q < N9
            · have hqi : (q : Int) < (N9 : Int) := by omega
              have q0 : (0 : Int) ≤ (q : Int) := by omega
              obtain ⟨b, o', rfl, cs⟩ := HSV.out.at_ hq
              have sq := SR.out q
              obtain ⟨a5, ha5⟩ : ∃ a, a = Pl.sm (fun c => r.sg.getD c 0) q := ⟨_, rfl⟩
              obtain ⟨a6, ha6⟩ : ∃ a, a = r.sg.getD q 0 := ⟨_, rfl⟩
              rw [← ha5, ← ha6] at HST
              rw [← ha5] at bd ⊢
              rw [← ha6] at cs sq
              have i3 : -100 ≤ a5 := by omega
              have i4 : a5 ≤ 100 := by omega
              have i5 : -1 ≤ a6 := sq.1
              have i6 : a6 ≤ 1 := sq.2
              clear ha5 ha6 hkg bd sq
              go_wp2
              go_roundg (gk - 1)
              case measure => have := HKG.out; omega
              case rel => exact ⟨q + 1, by have := HKG.out; omega, by go_num, by rw [HST.out], rfl⟩
            · have hqi : ¬ ((q : Int) < (N9 : Int)) := by omega
              have hqn : q = r.sg.length := by rw [HLEN.out]; omega
              obtain ⟨a5, ha5⟩ : ∃ a, a = Pl.sm (fun c => r.sg.getD c 0) q := ⟨_, rfl⟩
              rw [← ha5] at bd ⊢
              have HA5 := hide (show a5 = r.sg.sum by rw [ha5, hqn, Pl.sm_list])
              have EQ := hide (show a5 = a1 + byK ⟨k, x, y, s, o⟩ s9 by
                have h1 := LAW.out.1
                have h2 : (apI d ⟨k, x, y, s, o⟩).sign = s9 := by rw [HMV.out]
                rw [h2] at h1
                rw [HA5.out, HA.out, h1])
              have BD2 := hide (show -1 ≤ byK ⟨k, x, y, s, o⟩ s9 ∧ byK ⟨k, x, y, s, o⟩ s9 ≤ 1 by
                have h1 := BD.out
                have h2 : (apI d ⟨k, x, y, s, o⟩).sign = s9 := by rw [HMV.out]
                rwa [h2] at h1)
              clear ha5 hqn bd HST hkg HKG
              obtain ⟨d0, d1, d2, d3⟩ := box3 Q0.out
              obtain ⟨m0, m1, m2, m3, m4, m5⟩ := box5 Q1.out
              obtain ⟨v0, v1, v2, v3, v4, v5⟩ := box5 P1.out
              by_cases k1 : k = 1
              · subst k1
                have e1 : (a5 == a1 + s) = true := by rw [beq_iff_eq, EQ.out]; rfl
                have e2 : ((N9 : Int) == (d.n : Int) + 1) = true := by rw [beq_iff_eq]; exact HLN.out
                have i3 : -1 ≤ s := BD2.out.1
                have i4 : s ≤ 1 := BD2.out.2
                go_wp2
                go_ret
                exact ⟨rfl, BV.out⟩
              · by_cases k2 : k = 2
                · subst k2
                  have e1 : (a5 == a1 + -s9) = true := by rw [beq_iff_eq, EQ.out]; rfl
                  have e2 : ((N9 : Int) == (d.n : Int) + -1) = true := by rw [beq_iff_eq]; exact HLN.out
                  have e3 : ((N9 : Int) == (d.n : Int) - 1) = true := by rw [beq_iff_eq]; have := HLN.out; exact this
                  have i3 : -1 ≤ -s9 := BD2.out.1
                  have i4 : -s9 ≤ 1 := BD2.out.2
                  have i5 : -1 ≤ s9 := by omega
                  have i6 : s9 ≤ 1 := by omega
                  go_wp2
                  go_ret
                  exact ⟨rfl, BV.out⟩
                · have hby : byK ⟨k, x, y, s, o⟩ s9 = 0 := by unfold byK; simp only [if_neg k1, if_neg k2]
                  have e1 : (a5 == a1) = true := by rw [beq_iff_eq, EQ.out, hby]; omega
                  have t1 : (k == 1) = false := by rw [beq_eq_false_iff_ne]; exact k1
                  have t2 : (k == 2) = false := by rw [beq_eq_false_iff_ne]; exact k2
                  clear hby
                  by_cases k3 : k = 3
                  · subst k3
                    have e2 : ((N9 : Int) == (d.n : Int) + 2) = true := by rw [beq_iff_eq]; exact HLN.out
                    clear k1 k2
                    go_wp2
                    go_ret
                    exact ⟨rfl, BV.out⟩
                  · by_cases k4 : k = 4
                    · subst k4
                      have e2 : ((N9 : Int) == (d.n : Int) + -2) = true := by rw [beq_iff_eq]; exact HLN.out
                      have e3 : ((N9 : Int) == (d.n : Int) - 2) = true := by rw [beq_iff_eq]; have := HLN.out; exact this
                      clear k1 k2 k3
                      go_wp2
                      go_ret
                      exact ⟨rfl, BV.out⟩
                    · have hmo : moreK ⟨k, x, y, s, o⟩ = 0 := by unfold moreK; simp only [if_neg k1, if_neg k2, if_neg k3, if_neg k4]
                      have e2 : ((N9 : Int) == (d.n : Int)) = true := by rw [beq_iff_eq]; have := HLN.out; rw [hmo] at this; omega
                      have t3 : (k == 3) = false := by rw [beq_eq_false_iff_ne]; exact k3
                      have t4 : (k == 4) = false := by rw [beq_eq_false_iff_ne]; exact k4
                      clear hmo k1 k2 k3 k4
                      go_wp2
                      go_ret
                      exact ⟨rfl, BV.out⟩
    · have hE := ResErr.split (hres.1 hc)
      subst hE
      have t1 : (apC d ⟨k, x, y, s, o⟩ != 0) = true := by rw [bne_iff_ne]; exact hc
      clear hc hres
      go_wp2
      go_ret
      exact ⟨rfl, (B3.out.alloc B3.out.size _).alloc (B3.out.alloc B3.out.size _).size _⟩
set_option maxRecDepth 100000 in
set_option maxHeartbeats 4000000 in
theorem signs_bad (sg mt : List Int) (lp : Int) (A B : Option Addr) (n q cp cq : Nat) (k x y s : Int) (o : Bool) (w : World) (hs : IntsAt w A n sg) (hm : IntsAt w B q mt) (hn : n ≤ maxLen) (hq : q ≤ maxLen) (hlp : -9223372036854775808 ≤ lp ∧ lp ≤ 9223372036854775807) (hv : ¬ Pl.VL sg mt lp) :
    Calls Try.prog 6 #[.agg #[.slice A n cp, .slice B q cq, .int .i64 lp], (Mv.mk k x y s o).v] w fun e w' => e = .returned (.bool true) ∧ Below w.heap.size w w' := by
  have X0 := hide (show Row ((w.alloc (.cells #[.slice A n cp, .slice B q cq, .int .i64 lp] 24)).alloc (.cells #[.int .i64 k, .int .i64 x, .int .i64 y, .int .i64 s, .bool o] 28)) w.heap.size 24 [.slice A n cp, .slice B q cq, .int .i64 lp] from (row_at (vs := [_, _, _]) rfl).alloc _)
  have X1 := hide (show Row ((w.alloc (.cells #[.slice A n cp, .slice B q cq, .int .i64 lp] 24)).alloc (.cells #[.int .i64 k, .int .i64 x, .int .i64 y, .int .i64 s, .bool o] 28)) (w.heap.size + 1) 28 [.int .i64 k, .int .i64 x, .int .i64 y, .int .i64 s, .bool o] from row_at (vs := [_, _, _, _, _]) (by simp))
  have B0 := hide (show Below w.heap.size w ((w.alloc (.cells #[.slice A n cp, .slice B q cq, .int .i64 lp] 24)).alloc (.cells #[.int .i64 k, .int .i64 x, .int .i64 y, .int .i64 s, .bool o] 28)) from ((Below.refl _ _).alloc (Nat.le_refl _) _).alloc (by simp) _)
  unfold Mv.v
  go_enter Try.func6, Try.ntmps6
  go_wp2_with fail
  refine (awake_true _).mono ?_
  rintro e w1 ⟨rfl, hb1⟩
  have Y0 := hide (X0.out.below hb1)
  have Y1 := hide (X1.out.below hb1)
  have B1 := hide (B0.out.trans (hb1.mono B0.out.size))
  clear X0 X1 B0 hb1
  obtain ⟨d0, d1, d2, d3⟩ := box3 Y0.out
  go_wp2_with fail
  refine (small_any A B n q cp cq (.int .i64 lp) w1).mono ?_
  rintro e w2 ⟨he, hb2⟩
  have Z0 := hide (Y0.out.below hb2)
  have Z1 := hide (Y1.out.below hb2)
  have B2 := hide (B1.out.trans (hb2.mono B1.out.size))
  clear Y0 Y1 B1 hb2 d0 d1 d2 d3
  obtain ⟨d0, d1, d2, d3⟩ := box3 Z0.out
  obtain ⟨m0, m1, m2, m3, m4, m5⟩ := box5 Z1.out
  rcases he with rfl | rfl
  · go_wp2
    go_ret
    exact ⟨rfl, B2.out⟩
  · go_wp2_with fail
    refine (apply_v sg mt lp A B n q cp cq k x y s o w2 (hs.keep B2.out) (hm.keep B2.out) hn hq hlp hv).mono ?_
    rintro e w3 ⟨hE, hb3⟩
    have B3 := hide (B2.out.trans (hb3.mono B2.out.size))
    have hE' := ResErr.split hE
    subst hE'
    clear hE
    go_wp2
    go_ret
    exact ⟨rfl, (B3.out.alloc B3.out.size _).alloc (B3.out.alloc B3.out.size _).size _⟩
theorem signs_walk (sg mt : List Int) (lp : Int) (A B : Option Addr) (n q cp cq : Nat) (k x y s : Int) (o : Bool) (w : World) (hs : IntsAt w A n sg) (hm : IntsAt w B q mt) (hn : n ≤ maxLen) (hq : q ≤ maxLen) (hlp : -9223372036854775808 ≤ lp ∧ lp ≤ 9223372036854775807) :
    Calls Try.prog 6 #[.agg #[.slice A n cp, .slice B q cq, .int .i64 lp], (Mv.mk k x y s o).v] w fun e w' => e = .returned (.bool true) ∧ Below w.heap.size w w' := by
  by_cases hv : Pl.VL sg mt lp
  · have hl := hs.len
    have hl2 := hm.len
    have hl3 := hv.len
    have en : (Pl.mk sg mt lp).n = n := hl
    have em : nats (Pl.mk sg mt lp).mt = mt := Pl.nats_mk hv.2.1
    have el : ((Pl.mk sg mt lp).lp : Int) = lp := by show ((lp.toNat : Nat) : Int) = lp; have := hv.2.2; omega
    have h := signs_valid (Pl.mk sg mt lp) hv.1 A B cp cq q k x y s o w (by rw [en]; omega) ⟨by rw [en]; exact hs, by rw [en, em, show 4 * n = q by omega]; exact hm⟩
    rw [en, el] at h
    exact h
  · exact signs_bad sg mt lp A B n q cp cq k x y s o w hs hm hn hq hlp hv
end Go.Proofs.Ytobbepmlmbbamaa
end
