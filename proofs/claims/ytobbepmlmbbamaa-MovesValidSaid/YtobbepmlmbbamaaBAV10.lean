/-
  The texts Wr, Ra, Push in one.
-/
import Derived.Test.YtobbepmlmbbamaaBAV09
import Derived.Test.YtobbepmlmbbamaaBAV02
set_option linter.unusedVariables false
set_option linter.unusedSimpArgs false

section
/-
  Walks: the cycle of a half-edge.
-/
namespace Go.Proofs.Ytobbepmlmbbamaa
open Go Go.RowKit

/-- A function value of the program that captured one variable. -/
def fv1 (k : Nat) (c : Value) : Value := .func (.func k) #[] #[c]
/-- A step of a permutation, by a function value, in every world that has grown out of w. -/
def Steps (k : Nat) (c : Value) (N : Nat) (f : Nat → Nat) (w : World) : Prop := ∀ w' h, Below w.heap.size w w' → h < N → Calls Try.prog k #[.int .i64 (h : Int), c] w' fun e w'' => e = .returned (.int .i64 (f h : Nat)) ∧ Below w'.heap.size w' w''
theorem Steps.keep {k : Nat} {c : Value} {N : Nat} {f : Nat → Nat} {w W : World} (h : Steps k c N f w) (hb : Below w.heap.size w W) : Steps k c N f W :=
  fun w' x hb' hx => h w' x (hb.trans (hb'.mono hb.size)) hx
theorem nextF_any (d : Pl.Dg) (B : Option Addr) (cq m g h : Nat) (x0 x2 : Value) (w : World) (hm : m = 4 * d.n) (hd : Pl.Wf d) (hr : Row w g 24 [x0, .slice B m cq, x2]) (hb : IntsAt w B m (nats d.mt)) (hh : h < 4 * d.n) :
    Calls Try.prog 126 #[.int .i64 (h : Int), .pointer (some ⟨g, 0, none⟩)] w fun e w' => e = .returned (.int .i64 (Pl.nx d h : Nat)) ∧ w' = w := by
  have hn := hd.few
  have lt := hd.lt h hh
  obtain ⟨b, o, rfl, hc⟩ := mate_at (by rw [← hm]; exact hb) hh
  obtain ⟨f0, f1, f2, f3⟩ := box3 hr
  have hhm : h < m := by omega
  have HM := hide hm
  clear hm
  obtain ⟨u, hu⟩ : ∃ u, u = d.m h := ⟨_, rfl⟩
  have HU := hide (show Pl.nx d h = Pl.tn u 3 by rw [hu]; rfl)
  rw [← hu] at hc lt
  clear hu
  go_enter Try.func126, Try.ntmps126
  go_wp2_with fail
  refine (turn_back u _ (by omega)).mono ?_
  rintro e w1 ⟨rfl, rfl⟩
  go_wp2
  go_ret
  exact ⟨by rw [HU.out]; rfl, rfl⟩
theorem nextF_steps (d : Pl.Dg) (B : Option Addr) (cq m g : Nat) (x0 x2 : Value) (w : World) (hm : m = 4 * d.n) (hd : Pl.Wf d) (hr : Row w g 24 [x0, .slice B m cq, x2]) (hb : IntsAt w B m (nats d.mt)) :
    Steps 126 (.pointer (some ⟨g, 0, none⟩)) (4 * d.n) (Pl.nx d) w := fun w' h hbl hh =>
  (nextF_any d B cq m g h x0 x2 w' hm hd (hr.below hbl) (hb.keep hbl) hh).mono fun _ _ ⟨he, hw⟩ => ⟨he, by rw [hw]; exact Below.refl _ _⟩

theorem own_one (W : World) (x : Value) : (W.alloc (.cells #[x] 3)).ownsRow W.heap.size 3 1 (.slice (some ⟨W.heap.size, 0, none⟩) 1 1) 1 [x] :=
  ⟨rfl, .inr ⟨W.heap.size, 1, #[x], rfl, Nat.le_refl _, heap_alloc_new W _, Nat.le_refl _, by unfold maxLen; omega, rfl, rfl⟩⟩
theorem it_lt {f : Nat → Nat} {N : Nat} (hf : ∀ x, x < N → f x < N) {h : Nat} (hh : h < N) : ∀ k, Pl.it f k h < N
  | 0 => hh
  | k + 1 => hf _ (it_lt hf hh k)
def CycPost (f : Nat → Nat) (h p : Nat) (w : World) (e : Ending) (w' : World) : Prop :=
  ∃ (A : Option Addr) (c : Nat), e = .returned (.slice A p c) ∧ w'.ownsRow w.heap.size 3 1 (.slice A p c) p ((Pl.cyc f h p).map (fun k : Nat => Value.int .i64 k)) ∧ Below w.heap.size w w'
set_option maxRecDepth 100000 in
set_option maxHeartbeats 2000000 in
theorem cycle_any (c : Value) (N : Nat) (f : Nat → Nat) (h p : Nat) (w : World) (hst : Steps 126 c N f w) (hf : ∀ x, x < N → f x < N) (hh : h < N) (hp : Pl.Per f h p) (hpN : p ≤ N) (hN : N ≤ 1000) :
    Calls Try.prog 133 #[.int .i64 (h : Int), fv1 126 c] w (CycPost f h p w) := by
  unfold fv1
  have HST := hide hst
  have HF := hide hf
  have HP := hide hp
  have hp0 := hp.1
  clear hst hf hp
  have B1 := hide (show Below w.heap.size w (w.alloc (.cells #[.int .i64 (h : Int)] 3)) from (Below.refl _ _).alloc (Nat.le_refl _) _)
  go_enter Try.func133, Try.ntmps133
  go_wp2_with fail
  refine (HST.out _ h B1.out hh).mono ?_
  rintro e w2 ⟨rfl, hb2⟩
  have B2 := hide (B1.out.trans (hb2.mono B1.out.size))
  have O2 := hide (own_keep (own_one w (.int .i64 (h : Int))) hb2 (Nat.le_refl _))
  clear hb2
  go_wp2_with fail
  go_loopg [5, 6] (p - 1) (fun g v i wx => ∃ j : Nat, j + 1 + g = p ∧ i = .int .i64 (Pl.it f (j + 1) h : Nat) ∧ wx.ownsRow w.heap.size 3 1 v (j + 1) ((Pl.cyc f h (j + 1)).map (fun k : Nat => Value.int .i64 k)) ∧ Below w.heap.size w wx)
  case atStart => exact ⟨0, by omega, rfl, O2.out, B2.out⟩
  case round =>
    clear O2 B2 B1
    obtain ⟨j, hjg, rfl, own, hb⟩ := hrel
    have HJ := hide hjg
    have hjp : j + 1 ≤ p := by omega
    have OWN := hide own
    have HB := hide hb
    have hbs := hb.size
    obtain ⟨x, hx⟩ : ∃ x, x = Pl.it f (j + 1) h := ⟨_, rfl⟩
    rw [← hx]
    have HX := hide hx
    have hxN : x < N := by rw [hx]; exact it_lt HF.out hh (j + 1)
    clear hjg own hb hx
    by_cases he : x = h
    · have hjj : ¬ j + 1 < p := fun hlt => HP.out.2.2 (j + 1) (by omega) hlt (by rw [← HX.out, he])
      have t1 : ((x : Int) != (h : Int)) = false := by rw [bne_eq_false_iff_eq]; omega
      have HE := hide he
      obtain rfl : j + 1 = p := by omega
      obtain ⟨A5, c5, rfl⟩ := owns_slice OWN.out
      clear he hjj
      go_wp2
      go_ret
      exact ⟨A5, c5, rfl, OWN.out, HB.out⟩
    · have t1 : ((x : Int) != (h : Int)) = true := by rw [bne_iff_ne]; omega
      have hjj : j + 1 < p := by
        rcases Nat.lt_or_ge (j + 1) p with h1 | h1
        · exact h1
        · have : j + 1 = p := by omega
          exact absurd (by rw [HX.out, this]; exact HP.out.2.1) he
      clear he
      obtain ⟨i0, hi0, hz0, hz1, hz2⟩ := info_parts intInfo
      go_wp2_with (at_builtin; refine wpList_append_lies _ (by rfl) _ _ 22 (by rfl) w.heap.size 3 i0 (.int .i64 0) 1 8 Try.underlying22 hi0 hz0 hz1 hz2 rfl (by omega) _ (j + 1) _ (by rfl) (OWN.out.alloc _) ⟨wr.heap.size, 0, none⟩ 1 1 [.int .i64 (x : Int)] (by rfl) (by rfl) (one_news wr (.int .i64 (x : Int))) (by simp [Value.oneCell']) (by omega) (by unfold maxLen; omega) (by omega) (by simp; omega) (wr.heap.size + 1) (by simp) ?_; intro g3 c3 w3 own3 grow3 at3 lt3; have OWN3 := hide own3; have GR3 := hide grow3; clear own3 grow3 at3)
      have B3 := hide ((HB.out.alloc hbs (.cells #[.int .i64 (x : Int)] 3)).grown GR3.out (by simp; omega) (fun k hk => (OWN.out.lt k hk).1))
      refine (HST.out _ x B3.out hxN).mono ?_
      rintro e w4 ⟨rfl, hb4⟩
      go_wp2_with fail
      go_roundg (gk - 1)
      case measure => have := HJ.out; omega
      case rel =>
        refine ⟨j + 1, by have := HJ.out; omega, ?_, ?_, B3.out.trans (hb4.mono B3.out.size)⟩
        · rw [HX.out]; rfl
        · have := own_keep OWN3.out hb4 (Nat.le_refl _)
          rw [Pl.cyc_succ, List.map_append, ← HX.out]
          exact this
end Go.Proofs.Ytobbepmlmbbamaa
end

section
/-
  Walks: the small functions of the reference of moves; its face of a half-edge; whether a list has a number.
-/
namespace Go.Proofs.Ytobbepmlmbbamaa
open Go Go.RowKit

theorem rturn_any (h k : Nat) (w : World) (hh : h ≤ 1000000) (hk : k ≤ 3) :
    Calls Try.prog 129 #[.int .i64 (h : Int), .int .i64 (k : Int)] w fun e w' => e = .returned (.int .i64 (Pl.tn h k : Nat)) ∧ w = w' := by
  go_enter Try.func129, Try.ntmps129
  go_wp2
  go_ret
  exact ⟨ret_int (by unfold Pl.tn; omega), rfl⟩
theorem rturn3 (h : Nat) (w : World) (hh : h ≤ 1000000) :
    Calls Try.prog 129 #[.int .i64 (h : Int), .int .i64 3] w fun e w' => e = .returned (.int .i64 (Pl.tn h 3 : Nat)) ∧ w = w' := rturn_any h 3 w hh (by omega)
theorem ropp_any (h : Nat) (w : World) (hh : h ≤ 1000000) :
    Calls Try.prog 98 #[.int .i64 (h : Int)] w fun e w' => e = .returned (.int .i64 (Pl.tn h 2 : Nat)) ∧ w = w' := by
  go_enter Try.func98, Try.ntmps98
  go_wp2_with fail
  refine (rturn_any h 2 _ hh (by omega)).mono ?_
  rintro e w1 ⟨rfl, rfl⟩
  go_wp2
  go_ret
  exact ⟨rfl, rfl⟩
/-- 'outgoing' of the reference. -/
theorem rout_any (d : Pl.Dg) (A B : Option Addr) (n cp q cq : Nat) (l : Value) (h : Nat) (w : World) (e : n = d.n) (hh : h < 4 * n) (hn : n ≤ 1000) (hs : IntsAt w A n d.sg) :
    Calls Try.prog 62 #[.agg #[.slice A n cp, .slice B q cq, l], .int .i64 (h : Int)] w fun e w' => e = .returned (.bool (Pl.out d h)) ∧ Below w.heap.size w w' := by
  subst e
  obtain ⟨b, o, rfl, hc⟩ := sign_at hs (c := h / 4) (by omega)
  have hb : Below w.heap.size w (w.alloc (.cells #[.slice (some ⟨b, o, none⟩) d.n cp, .slice B q cq, l] 24)) := (Below.refl _ _).alloc (Nat.le_refl _) _
  have hc2 := cell_below hc hb
  have h4 : h % 4 = 0 ∨ h % 4 = 1 ∨ h % 4 = 2 ∨ h % 4 = 3 := by omega
  go_enter Try.func62, Try.ntmps62
  rcases h4 with h4 | h4 | h4 | h4
  · have E := out_zero (d := d) h4
    go_wp2
    all_goals
      go_ret
      refine ⟨ret_bool ?_, hb⟩
      rw [E]
      first
        | done
        | rfl
        | (simp; done)
        | (simp; omega)
        | simp_all
  · have E := out_one (d := d) h4
    go_wp2
    all_goals
      go_ret
      refine ⟨ret_bool ?_, hb⟩
      rw [E]
      first
        | done
        | rfl
        | (simp; done)
        | (simp; omega)
        | simp_all
  · have E := out_two (d := d) h4
    go_wp2
    all_goals
      go_ret
      refine ⟨ret_bool ?_, hb⟩
      rw [E]
      first
        | done
        | rfl
        | (simp; done)
        | (simp; omega)
        | simp_all
  · have E := out_three (d := d) h4
    go_wp2
    all_goals
      go_ret
      refine ⟨ret_bool ?_, hb⟩
      rw [E]
      first
        | done
        | rfl
        | (simp; done)
        | (simp; omega)
        | simp_all
/-- The next half-edge of a face. -/
theorem rnext_any (d : Pl.Dg) (hd : Pl.Wf d) (A B : Option Addr) (cp cq m : Nat) (l : Value) (h : Nat) (w : World) (hm : m = 4 * d.n) (hb : IntsAt w B m (nats d.mt)) (hh : h < 4 * d.n) :
    Calls Try.prog 104 #[.agg #[.slice A d.n cp, .slice B m cq, l], .int .i64 (h : Int)] w fun e w' => e = .returned (.int .i64 (Pl.nx d h : Nat)) ∧ Below w.heap.size w w' := by
  subst hm
  have hn := hd.few
  have lt := hd.lt h hh
  obtain ⟨b, o, rfl, hc⟩ := mate_at hb hh
  have hbw : Below w.heap.size w (w.alloc (.cells #[.slice A d.n cp, .slice (some ⟨b, o, none⟩) (4 * d.n) cq, l] 24)) := (Below.refl _ _).alloc (Nat.le_refl _) _
  have hc2 := cell_below hc hbw
  obtain ⟨u, hu⟩ : ∃ u, u = d.m h := ⟨_, rfl⟩
  have HU := hide (show Pl.nx d h = Pl.tn u 3 by rw [hu]; rfl)
  rw [← hu] at hc2 lt
  clear hu hc
  go_enter Try.func104, Try.ntmps104
  go_wp2_with fail
  refine (rturn3 u _ (by omega)).mono ?_
  rintro e w1 ⟨rfl, rfl⟩
  go_wp2
  go_ret
  exact ⟨by rw [HU.out]; rfl, hbw⟩
/-- Does the list have the number? -/
theorem rin_any (A : Option Addr) (n c : Nat) (zs : List Int) (x : Int) (w : World) (hs : IntsAt w A n zs) (hn : n ≤ 1000000) :
    Calls Try.prog 130 #[.slice A n c, .int .i64 x] w fun e w' => e = .returned (.bool (decide (x ∈ zs))) ∧ w' = w := by
  have HS := hide hs
  have HL := hide hs.len
  go_enter Try.func130, Try.ntmps130
  go_wp2
  go_loopg [5] n (fun g i wx => ∃ k : Nat, k + g = n ∧ i = .int .i64 k ∧ (∀ j, j < k → Pl.pv zs j ≠ x) ∧ wx = w)
  case atStart => exact ⟨0, by omega, rfl, fun j hj => absurd hj (by omega), rfl⟩
  case round =>
    obtain ⟨k, hkg, rfl, hno, rfl⟩ := hrel
    have HG := hide hkg
    have HN := hide hno
    have hkn : k ≤ n := by omega
    clear hkg hno
    by_cases hlt : k < n
    · obtain ⟨b, o, rfl, hc⟩ := HS.out.at_ hlt
      obtain ⟨u, hu⟩ : ∃ u, u = Pl.pv zs k := ⟨_, rfl⟩
      rw [show zs.getD k 0 = u from hu.symm] at hc
      have HU := hide hu
      clear hu
      by_cases he : u = x
      · have E := hide (show x ∈ zs by rw [← he, HU.out]; exact Pl.pv_mem (by have := HL.out; omega))
        go_wp2
        go_ret
        exact ⟨ret_bool (by simpa using E.out), rfl⟩
      · have t1 : (u == x) = false := by simpa using he
        have HE := hide he
        clear he
        go_wp2
        go_roundg (gk - 1)
        case measure => have := HG.out; omega
        case rel =>
          refine ⟨k + 1, by have := HG.out; omega, by go_num, fun j hj => ?_, rfl⟩
          by_cases e : j = k
          · subst e; rw [← HU.out]; exact HE.out
          · exact HN.out j (by omega)
    · have E := hide (show x ∉ zs from fun hx => by
        obtain ⟨j, hj, e⟩ := Pl.mem_pv hx
        exact HN.out j (by have := HL.out; omega) e)
      go_wp2
      go_ret
      exact ⟨ret_bool (by simpa using E.out), rfl⟩
set_option maxRecDepth 100000 in
set_option maxHeartbeats 2000000 in
/-- The face to the left of a half-edge. -/
theorem rface_any (d : Pl.Dg) (hd : Pl.Wf d) (A B : Option Addr) (cp cq m : Nat) (l : Value) (h p : Nat) (w : World) (hm : m = 4 * d.n) (hb : IntsAt w B m (nats d.mt)) (hh : h < 4 * d.n) (hp : Pl.Per (Pl.nx d) h p) (hpN : p ≤ 4 * d.n) :
    Calls Try.prog 64 #[.agg #[.slice A d.n cp, .slice B m cq, l], .int .i64 (h : Int)] w (fun e w' => ∃ (A5 : Option Addr) (c5 : Nat), e = .returned (.slice A5 p c5) ∧ w'.ownsRow w.heap.size 3 1 (.slice A5 p c5) p ((Pl.cyc (Pl.nx d) h p).map (fun k : Nat => Value.int .i64 k)) ∧ Below w.heap.size w w') := by
  have hn := hd.few
  have HD := hide hd
  have HP := hide hp
  have HM := hide hm
  have HB := hide hb
  have hp0 := hp.1
  have HPN := hide hpN
  have hp4 : p ≤ 256 := by omega
  have hm4 : m ≤ 256 := by omega
  have hb1 : Below w.heap.size w (w.alloc (.cells #[.slice A d.n cp, .slice B m cq, l] 24)) := (Below.refl _ _).alloc (Nat.le_refl _) _
  have B0 := hide hb1
  have X0 := hide (row_at (W := w) (g := w.heap.size) (t := 24) (vs := [.slice A d.n cp, .slice B m cq, l]) rfl)
  clear hp hm hb hd hb1 hpN
  obtain ⟨W1, hW1⟩ : ∃ W1 : World, W1 = (w.alloc (.cells #[.slice A d.n cp, .slice B m cq, l] 24)).alloc (.cells #[.int .i64 (h : Int)] 3) := ⟨_, rfl⟩
  have B1 := hide (show Below w.heap.size w W1 by rw [hW1]; exact B0.out.alloc (by simp) _)
  have X1 := hide (show Row W1 w.heap.size 24 [.slice A d.n cp, .slice B m cq, l] by rw [hW1]; exact X0.out.alloc _)
  have O1 := hide (show W1.ownsRow (w.heap.size + 1) 3 1 (.slice (some ⟨w.heap.size + 1, 0, none⟩) 1 1) 1 [.int .i64 (h : Int)] by
    rw [hW1]
    have := own_one (w.alloc (.cells #[.slice A d.n cp, .slice B m cq, l] 24)) (.int .i64 (h : Int))
    simpa using this)
  obtain ⟨d0, d1, d2, _⟩ := box3 X1.out
  go_enter Try.func64, Try.ntmps64
  rw [hW1] at d0 d1 d2
  go_wp2_with fail
  rw [← hW1]
  clear hW1 d0 d1 d2
  refine (rnext_any d HD.out A B cp cq m l h _ HM.out (HB.out.keep B1.out) hh).mono ?_
  rintro e w2 ⟨rfl, hb2⟩
  have B2 := hide (B1.out.trans (hb2.mono B1.out.size))
  have O2 := hide (own_keep O1.out hb2 (Nat.le_refl _))
  have X2 := hide (X1.out.below hb2)
  clear hb2
  go_wp2_with fail
  go_loopg [5, 6] (p - 1) (fun g v i wx => ∃ j : Nat, j + 1 + g = p ∧ i = .int .i64 (Pl.it (Pl.nx d) (j + 1) h : Nat) ∧ wx.ownsRow (w.heap.size + 1) 3 1 v (j + 1) ((Pl.cyc (Pl.nx d) h (j + 1)).map (fun k : Nat => Value.int .i64 k)) ∧ Below w.heap.size w wx ∧ Row wx w.heap.size 24 [.slice A d.n cp, .slice B m cq, l])
  case atStart => exact ⟨0, by omega, rfl, O2.out, B2.out, X2.out⟩
  case round =>
    clear O2 B2 B1 X2 X1 O1 X0 B0
    obtain ⟨j, hjg, rfl, own, hb, hx0⟩ := hrel
    have HJ := hide hjg
    have hjp : j + 1 ≤ p := by omega
    have OWN := hide own
    have HBL := hide hb
    have X := hide hx0
    have hbs := hb.size
    obtain ⟨x, hx⟩ : ∃ x, x = Pl.it (Pl.nx d) (j + 1) h := ⟨_, rfl⟩
    rw [← hx]
    have HX := hide hx
    have hxN : x < 4 * d.n := by rw [hx]; exact it_lt (fun y hy => HD.out.hm.pb.maps y hy) hh (j + 1)
    clear hjg own hb hx hx0
    by_cases he : x = h
    · have hjj : ¬ j + 1 < p := fun hlt => HP.out.2.2 (j + 1) (by omega) hlt (by rw [← HX.out, he])
      have t1 : ((x : Int) != (h : Int)) = false := by rw [bne_eq_false_iff_eq]; omega
      have HE := hide he
      obtain rfl : j + 1 = p := by omega
      obtain ⟨A5, c5, rfl⟩ := owns_slice OWN.out
      clear he hjj
      go_wp2
      go_ret
      exact ⟨A5, c5, rfl, own_keep OWN.out (Below.refl _ _) (by omega), HBL.out⟩
    · have t1 : ((x : Int) != (h : Int)) = true := by rw [bne_iff_ne]; omega
      have hjj : j + 1 < p := by
        rcases Nat.lt_or_ge (j + 1) p with h1 | h1
        · exact h1
        · have : j + 1 = p := by omega
          exact absurd (by rw [HX.out, this]; exact HP.out.2.1) he
      clear he
      obtain ⟨i0, hi0, hz0, hz1, hz2⟩ := info_parts intInfo
      have hwz1 : w.heap.size + 1 ≤ wr.heap.size := X.out.lt
      go_wp2_with (at_builtin; refine wpList_append_lies _ (by rfl) _ _ 22 (by rfl) (w.heap.size + 1) 3 i0 (.int .i64 0) 1 8 Try.underlying22 hi0 hz0 hz1 hz2 rfl (by omega) _ (j + 1) _ (by rfl) (OWN.out.alloc _) ⟨wr.heap.size, 0, none⟩ 1 1 [.int .i64 (x : Int)] (by rfl) (by rfl) (one_news wr (.int .i64 (x : Int))) (by simp [Value.oneCell']) (by omega) (by unfold maxLen; omega) (by omega) (by simp; omega) (wr.heap.size + 1) (by simp) ?_; intro g3 c3 w3 own3 grow3 at3 lt3; have OWN3 := hide own3; have GR3 := hide grow3; have X3 := hide (Row.grown (X.out.alloc (.cells #[.int .i64 (x : Int)] 3)) grow3 (fun e => by have := (OWN.out.lt _ e.symm).1; omega)); obtain ⟨d0, d1, d2, _⟩ := box3 X3.out; clear own3 grow3 at3)
      have B3 := hide ((HBL.out.alloc hbs (.cells #[.int .i64 (x : Int)] 3)).grown GR3.out (by simp; omega) (fun k hk => by have := (OWN.out.lt k hk).1; omega))
      clear d0 d1 d2
      refine (rnext_any d HD.out A B cp cq m l x _ HM.out (HB.out.keep B3.out) hxN).mono ?_
      rintro e w4 ⟨rfl, hb4⟩
      go_wp2_with fail
      go_roundg (gk - 1)
      case measure => have := HJ.out; omega
      case rel =>
        refine ⟨j + 1, by have := HJ.out; omega, ?_, ?_, B3.out.trans (hb4.mono B3.out.size), X3.out.below hb4⟩
        · rw [HX.out]; rfl
        · have := own_keep OWN3.out hb4 (Nat.le_refl _)
          rw [Pl.cyc_succ, List.map_append, ← HX.out]
          exact this
end Go.Proofs.Ytobbepmlmbbamaa
end

section
/-
  Plain Lean: plane maps stay plane when an edge is given a kink, and when one edge is pushed over another one. No program is named here.
-/
namespace Go.Proofs.Ytobbepmlmbbamaa.Pl
variable {N : Nat} {S : Nat → Prop} {r a : Nat → Nat}

/-- No edges: plane. -/
theorem gen_id (h : Hm N S r a) (hid : ∀ x, S x → a x = x) : Gen S r a 0 := by
  obtain ⟨z, hz⟩ := h.gen
  have hz' := hz
  obtain ⟨v, d, k, f, c, h1, h2, h3, h4, h5, rfl⟩ := hz
  have e1 : d = k := h2.unique (h3.congr (fun _ => Iff.rfl) (fun x y hx _ => ⟨fun e => (free_orb (hid x hx) e).symm, fun e => e ▸ Orb.refl a x⟩))
  have hp : ∀ x y, S x → (Orb (phi r a) x y ↔ Orb r x y) := fun x y hx =>
    ⟨fun e => orb_sub h.pb h.rb.eqv (fun z hz => by unfold phi; rw [hid z hz]; exact Orb.step r z) hx e,
     fun e => orb_sub h.rb h.pb.eqv (fun z hz => by have := Orb.step (phi r a) z; unfold phi at this; rw [hid z hz] at this; exact this) hx e⟩
  have e2 : f = v := h4.unique (h1.congr (fun _ => Iff.rfl) (fun x y hx _ => (hp x y hx).symm))
  have e3 : c = v := h5.unique (h1.congr (fun _ => Iff.rfl) (fun x y hx _ => ⟨fun e => orb_con_left a e, fun e => con_sub h h.rb.eqv (fun z _ => Orb.step r z) (fun z hz => by rw [hid z hz]; exact Orb.refl r z) hx e⟩))
  have : (2 * (c : Int) - v + d - k - f) = 0 := by omega
  rw [this] at hz'
  exact hz'
/-- Two maps that agree on the set. -/
theorem Orb.congr {f g : Nat → Nat} (hm : ∀ x, S x → S (f x)) (h : ∀ x, S x → f x = g x) {x y : Nat} (hx : S x) : Orb f x y ↔ Orb g x y := by
  have key : ∀ k, it f k x = it g k x ∧ S (it f k x) := by
    intro k
    induction k with
    | zero => exact ⟨rfl, hx⟩
    | succ k ih => exact ⟨by show f (it f k x) = g (it g k x); rw [← ih.1, h _ ih.2], hm _ ih.2⟩
  constructor
  · rintro ⟨k, rfl⟩; exact ⟨k, (key k).1.symm⟩
  · rintro ⟨k, rfl⟩; exact ⟨k, (key k).1⟩
theorem Con.congr {f g f' g' : Nat → Nat} (h1 : ∀ x, S x → S (f x)) (h2 : ∀ x, S x → S (g x)) (e1 : ∀ x, S x → f x = f' x) (e2 : ∀ x, S x → g x = g' x) {x y : Nat} (hx : S x) : Con f g x y ↔ Con f' g' x y := by
  constructor
  · intro h
    have : Con f' g' x y ∧ S y := by
      induction h with
      | refl => exact ⟨.refl, hx⟩
      | left _ ih => exact ⟨by rw [e1 _ ih.2]; exact ih.1.left, h1 _ ih.2⟩
      | right _ ih => exact ⟨by rw [e2 _ ih.2]; exact ih.1.right, h2 _ ih.2⟩
    exact this.1
  · intro h
    have : Con f g x y ∧ S y := by
      induction h with
      | refl => exact ⟨.refl, hx⟩
      | left _ ih => exact ⟨by rw [← e1 _ ih.2]; exact ih.1.left, by rw [← e1 _ ih.2]; exact h1 _ ih.2⟩
      | right _ ih => exact ⟨by rw [← e2 _ ih.2]; exact ih.1.right, by rw [← e2 _ ih.2]; exact h2 _ ih.2⟩
    exact this.1
theorem Gen.congr {r' a' : Nat → Nat} {z : Int} (h : Hm N S r a) (e1 : ∀ x, S x → r x = r' x) (e2 : ∀ x, S x → a x = a' x) (hz : Gen S r a z) : Gen S r' a' z := by
  obtain ⟨v, d, k, f, c, h1, h2, h3, h4, h5, rfl⟩ := hz
  exact ⟨v, d, k, f, c, h1.congr (fun _ => Iff.rfl) (fun _ _ hx _ => Orb.congr h.rb.maps e1 hx), h2, h3.congr (fun _ => Iff.rfl) (fun _ _ hx _ => Orb.congr h.ab.maps e2 hx),
    h4.congr (fun _ => Iff.rfl) (fun _ _ hx _ => Orb.congr h.pb.maps (fun x hx => by unfold phi; rw [← e2 x hx, e1 _ (h.ab.maps x hx)]) hx),
    h5.congr (fun _ => Iff.rfl) (fun _ _ hx _ => Con.congr h.rb.maps h.ab.maps e1 e2 hx), rfl⟩
theorem Hm.congr {r' a' : Nat → Nat} (h : Hm N S r a) (e1 : ∀ x, S x → r x = r' x) (e2 : ∀ x, S x → a x = a' x) : Hm N S r' a' :=
  ⟨⟨h.rb.lt, fun x hx => by rw [← e1 x hx]; exact h.rb.maps x hx, fun x y hx hy e => h.rb.inj x y hx hy (by rw [e1 x hx, e1 y hy, e])⟩,
   ⟨h.ab.lt, fun x hx => by rw [← e2 x hx]; exact h.ab.maps x hx, fun x y hx hy e => h.ab.inj x y hx hy (by rw [e2 x hx, e2 y hy, e])⟩,
   fun x hx => by rw [← e2 x hx, ← e2 _ (h.ab.maps x hx)]; exact h.inv x hx⟩

/-- The genus with an edge more, all three cases in one. -/
theorem Gen.edge (h : Hm N S r a) {x y : Nat} {z : Int} (hx : S x) (hy : S y) (hne : x ≠ y) (fx : a x = x) (fy : a y = y) (hz : Gen S r a z) :
    ((Con r a x y → Orb (phi r a) x y) ∧ Gen S r (tr a x y) z) ∨ ((Con r a x y ∧ ¬ Orb (phi r a) x y) ∧ Gen S r (tr a x y) (z + 2)) := by
  by_cases ho : Orb (phi r a) x y
  · exact .inl ⟨fun _ => ho, Gen.within h hx hy hne fx fy ho hz⟩
  · by_cases hc : Con r a x y
    · exact .inr ⟨⟨hc, ho⟩, Gen.handle h hx hy fx fy ho hc hz⟩
    · exact .inl ⟨fun e => absurd e hc, Gen.between h hx hy fx fy hc hz⟩

/-- A DETOUR: x goes to u, and v, in the same face as u, goes to y: as if x went to y. -/
theorem Gen.detour (h : Hm N S r a) {x y u v : Nat} (hx : S x) (hy : S y) (hu : S u) (hv : S v) (hxy : x ≠ y) (huv : u ≠ v) (fx : a x = x) (fy : a y = y) (fu : a u = u) (fv : a v = v)
    (n1 : ¬ Con r a x u) (n2 : ¬ Con r a y u) (ho : Orb (phi r a) v u) {z : Int} (hz : Gen S r (tr a x y) z) : Gen S r (tr (tr a x u) v y) z := by
  have hvu := orb_phi_con ho
  have n3 : ¬ Con r a v y := fun e => n2 ((h.con_symm hv e).trans hvu)
  have n4 : ¬ Con r a x v := fun e => n1 (e.trans hvu)
  have xu : x ≠ u := fun e => n1 (e ▸ .refl)
  have xv : x ≠ v := fun e => n4 (e ▸ .refl)
  have vy : v ≠ y := fun e => n3 (e ▸ .refl)
  have yu : y ≠ u := fun e => n2 (e ▸ .refl)
  obtain ⟨z0, hz0⟩ := h.gen
  have h1 := h.tr hx hu fx fu
  have g1 := Gen.between h hx hu fx fu n1 hz0
  have fv1 : tr a x u v = v := by rw [tr_ne (Ne.symm xv) (Ne.symm huv), fv]
  have fy1 : tr a x u y = y := by rw [tr_ne (Ne.symm hxy) yu, fy]
  have nf : ¬ Orb (phi r a) x u := fun e => n1 (orb_phi_con e)
  -- connected, and in one face, at the same time
  have ec : Con r (tr a x u) v y ↔ Con r a x y := by
    rw [h.con_tr hx hu fx fu hv]
    constructor
    · rintro (e | ⟨e1, _⟩ | ⟨_, e2⟩)
      · exact absurd e n3
      · exact absurd (h.con_symm hv e1) n4
      · exact e2
    · intro e; exact .inr (.inr ⟨hvu, e⟩)
  have eo : Orb (phi r (tr a x u)) v y ↔ Orb (phi r a) x y := by
    rw [phi_tr, h.pb.merge hx hu nf hv]
    constructor
    · rintro (e | ⟨e1, _⟩ | ⟨_, e2⟩)
      · exact absurd (orb_phi_con e) n3
      · exact absurd (h.con_symm hv (orb_phi_con e1)) n4
      · exact e2
    · intro e; exact .inr (.inr ⟨ho, e⟩)
  rcases Gen.edge h hx hy hxy fx fy hz0 with ⟨c1, k1⟩ | ⟨c1, k1⟩ <;> rcases Gen.edge h1 hv hy vy fv1 fy1 g1 with ⟨c2, k2⟩ | ⟨c2, k2⟩
  · rw [hz.unique k1]; exact k2
  · rw [ec, eo] at c2; exact absurd (c1 c2.1) c2.2
  · rw [ec, eo] at c2; exact absurd (c2 c1.1) c1.2
  · rw [hz.unique k1]; exact k2

/-- PULLED APART: where y goes to c and d goes to y', d coming just before c in its face, y may go to y' at once. -/
theorem Flat.pull (h : Hm N S r a) {y y' c d p : Nat} (hy : S y) (hy' : S y') (hc : S c) (hd : S d) (yy : y ≠ y') (yc : y ≠ c) (yd : y ≠ d) (cd : c ≠ d) (y'c : y' ≠ c) (y'd : y' ≠ d)
    (fy : a y = y) (fy' : a y' = y') (fc : a c = c) (fd : a d = d) (e1 : phi r a d = p) (e2 : phi r a p = c) (py : p ≠ y) (pc : p ≠ c)
    (hf : Flat S r (tr (tr a y c) d y')) : Flat S r (tr a y y') := by
  have h1 := h.tr hy hc fy fc
  have fd1 : tr a y c d = d := by rw [tr_ne (Ne.symm yd) (Ne.symm cd), fd]
  have fy1 : tr a y c y' = y' := by rw [tr_ne (Ne.symm yy) y'c, fy']
  obtain ⟨f1, k1⟩ := Flat.del h1 hd hy' (Ne.symm y'd) fd1 fy1 hf
  obtain ⟨f0, k0⟩ := Flat.del h hy hc yc fy fc f1
  have odc : Orb (phi r a) d c := ⟨2, by show phi r a (phi r a d) = c; rw [e1, e2]⟩
  have cdc := orb_phi_con odc
  refine Flat.add h hy hy' yy fy fy' (fun hcon => ?_) f0
  have hdy : Con r (tr a y c) d y' := (h.con_tr hy hc fy fc hd).2 (.inr (.inr ⟨cdc, hcon⟩))
  have ho := k1 hdy
  by_cases hyc : Con r a y c
  · have oyc := k0 hyc
    have sub : ∀ {u v}, S u → Orb (phi r (tr a y c)) u v → Orb (phi r a) u v := by
      intro u v hu e
      rw [phi_tr] at e
      have hg := h.pb.tr hy hc
      have hn := h.pb.part hy hc yc oyc
      have := (hg.merge hy hc hn hu (y := v)).2 (.inl e)
      rwa [tr_tr] at this
    have odc' : Orb (phi r (tr a y c)) d c := by
      refine ⟨2, ?_⟩
      show phi r (tr a y c) (phi r (tr a y c) d) = c
      rw [phi_tr, tr_ne (Ne.symm yd) (Ne.symm cd), e1, tr_ne py pc, e2]
    have o2 : Orb (phi r (tr a y c)) c y' := (h1.pb.symm hd odc').trans ho
    exact oyc.trans (sub hc o2)
  · have nf : ¬ Orb (phi r a) y c := fun e => hyc (orb_phi_con e)
    rw [phi_tr, h.pb.merge hy hc nf hd] at ho
    rcases ho with e | ⟨e3, _⟩ | ⟨_, e4⟩
    · exact absurd (hcon.trans ((h.con_symm hd (orb_phi_con e)).trans cdc)) hyc
    · exact absurd ((h.con_symm hd (orb_phi_con e3)).trans cdc) hyc
    · exact e4

/-- PUSHED: the other way, where y lies in c's face, or is not connected with it. -/
theorem Flat.push (h : Hm N S r a) {y y' c d p : Nat} (hy : S y) (hy' : S y') (hc : S c) (hd : S d) (yy : y ≠ y') (yc : y ≠ c) (yd : y ≠ d) (cd : c ≠ d) (y'c : y' ≠ c) (y'd : y' ≠ d)
    (fy : a y = y) (fy' : a y' = y') (fc : a c = c) (fd : a d = d) (e1 : phi r a d = p) (e2 : phi r a p = c) (py : p ≠ y) (pc : p ≠ c)
    (hn : Orb (phi r (tr a y y')) c y ∨ ¬ Con r (tr a y y') c y) (hf : Flat S r (tr a y y')) : Flat S r (tr (tr a y c) d y') := by
  have h1 := h.tr hy hc fy fc
  have h2 := h.tr hy hy' fy fy'
  have fd1 : tr a y c d = d := by rw [tr_ne (Ne.symm yd) (Ne.symm cd), fd]
  have fy1 : tr a y c y' = y' := by rw [tr_ne (Ne.symm yy) y'c, fy']
  obtain ⟨f0, k0⟩ := Flat.del h hy hy' yy fy fy' hf
  have odc : Orb (phi r a) d c := ⟨2, by show phi r a (phi r a d) = c; rw [e1, e2]⟩
  have cdc := orb_phi_con odc
  have odc' : Orb (phi r (tr a y c)) d c := by
    refine ⟨2, ?_⟩
    show phi r (tr a y c) (phi r (tr a y c) d) = c
    rw [phi_tr, tr_ne (Ne.symm yd) (Ne.symm cd), e1, tr_ne py pc, e2]
  -- what a holds, the map with (y y') holds
  have up : ∀ {u v}, S u → Con r a u v → Con r (tr a y y') u v := fun hu e => (h.con_tr hy hy' fy fy' hu).2 (.inl e)
  have eyy : Con r (tr a y y') y y' := (h.con_tr hy hy' fy fy' hy).2 (.inr (.inl ⟨.refl, .refl⟩))
  by_cases hcy : Con r (tr a y y') c y
  · have hocy := hn.resolve_right (fun e => e hcy)
    by_cases hyy : Con r a y y'
    · -- (i): one orbit of a, parted by (y y')
      have oyy := k0 hyy
      have hno : ¬ Orb (phi r (tr a y y')) y y' := by rw [phi_tr]; exact h.pb.part hy hy' yy oyy
      have ocy : Orb (phi r a) c y := by
        have hg := h.pb.tr hy hy'
        have := (hg.merge hy hy' (h.pb.part hy hy' yy oyy) hc (y := y)).2 (.inl (by rw [← phi_tr]; exact hocy))
        rwa [tr_tr] at this
      have f1 : Flat S r (tr a y c) := Flat.add h hy hc yc fy fc (fun _ => h.pb.symm hc ocy) f0
      refine Flat.add h1 hd hy' (Ne.symm y'd) fd1 fy1 (fun _ => odc'.trans ?_) f1
      -- c and y' in one orbit behind (y c): by the three values
      have key : phi r (tr a y c) = tr (tr (phi r (tr a y y')) y c) c y' := by
        rw [phi_tr, phi_tr]
        funext x
        by_cases x1 : x = y
        · subst x1
          rw [tr_a, tr_ne yc yy, tr_a, tr_ne (Ne.symm yc) (Ne.symm y'c)]
        · by_cases x2 : x = c
          · subst x2
            rw [tr_b, tr_a, tr_ne (Ne.symm yy) y'c, tr_b]
          · by_cases x3 : x = y'
            · subst x3
              rw [tr_ne x1 x2, tr_b, tr_b, tr_a]
            · rw [tr_ne x1 x2, tr_ne x2 x3, tr_ne x1 x2, tr_ne x1 x3]
      have hg2 : Bij N S (tr (phi r (tr a y y')) y c) := h2.pb.tr hy hc
      have hn2 : ¬ Orb (tr (phi r (tr a y y')) y c) c y' := by
        intro e
        have oyc2 : Orb (phi r (tr a y y')) y c := h2.pb.symm hc hocy
        have hn3 := h2.pb.part hy hc yc oyc2
        have := (hg2.merge hy hc hn3 hc (y := y')).2 (.inl e)
        rw [tr_tr] at this
        exact hno (oyc2.trans this)
      rw [key]
      exact hg2.run hy' hn2 hc
    · have nf : ¬ Orb (phi r a) y y' := fun e => hyy (orb_phi_con e)
      rw [phi_tr, h.pb.merge hy hy' nf hc] at hocy
      rcases hocy with e | ⟨e3, e4⟩ | ⟨e3, _⟩
      · -- c in y's orbit
        have f1 : Flat S r (tr a y c) := Flat.add h hy hc yc fy fc (fun _ => h.pb.symm hc e) f0
        refine Flat.add h1 hd hy' (Ne.symm y'd) fd1 fy1 (fun hx => ?_) f1
        rw [h.con_tr hy hc fy fc hd] at hx
        have ecy := orb_phi_con e
        rcases hx with x1 | ⟨_, x2⟩ | ⟨_, x2⟩
        · exact absurd (((h.con_symm hc ecy).trans (h.con_symm hd cdc)).trans x1) hyy
        · exact absurd ((h.con_symm hc ecy).trans x2) hyy
        · exact absurd x2 hyy
      · exact absurd (h.con_symm hy' (orb_phi_con e4)) hyy
      · -- c in the orbit of y'
        have ncy : ¬ Con r a y c := fun e => hyy (e.trans (orb_phi_con e3))
        have f1 : Flat S r (tr a y c) := Flat.add h hy hc yc fy fc (fun e => absurd e ncy) f0
        refine Flat.add h1 hd hy' (Ne.symm y'd) fd1 fy1 (fun _ => ?_) f1
        rw [phi_tr, h.pb.merge hy hc (fun e => ncy (orb_phi_con e)) hd]
        exact .inl (odc.trans e3)
  · have ncy : ¬ Con r a y c := fun e => hcy (h2.con_symm hy (up hy e))
    have f1 : Flat S r (tr a y c) := Flat.add h hy hc yc fy fc (fun e => absurd e ncy) f0
    refine Flat.add h1 hd hy' (Ne.symm y'd) fd1 fy1 (fun hx => ?_) f1
    rw [h.con_tr hy hc fy fc hd] at hx
    rw [phi_tr, h.pb.merge hy hc (fun e => ncy (orb_phi_con e)) hd]
    rcases hx with x1 | ⟨x1, _⟩ | ⟨_, x2⟩
    · have : Con r (tr a y y') c y := (up hc (h.con_symm hd cdc)).trans ((up hd x1).trans (h2.con_symm hy eyy))
      exact absurd this hcy
    · exact absurd ((h.con_symm hd x1).trans cdc) ncy
    · exact .inr (.inr ⟨odc, k0 x2⟩)
end Go.Proofs.Ytobbepmlmbbamaa.Pl
end
