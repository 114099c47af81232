/-
  Walks: the cycle of a half-edge.
-/
import Derived.Test.YtobbepmlmbbamaaWq
import Derived.Test.YtobbepmlmbbamaaCyc
namespace Go.Proofs.Ytobbepmlmbbamaa
open Go Go.RowKit

/-- A function value of the program that captured one variable. -/
def fv1 (k : Nat) (c : Value) : Value := .func (.func k) #[] #[c]
/-- A step of a permutation, by a function value, in every world that has grown out of w. -/
def Steps (k : Nat) (c : Value) (N : Nat) (f : Nat → Nat) (w : World) : Prop := ∀ w' h, Below w.heap.size w w' → h < N → Calls Try.prog k #[.int .i64 (h : Int), c] w' fun e w'' => e = .returned (.int .i64 (f h : Nat)) ∧ Below w'.heap.size w' w''
theorem Steps.keep {k : Nat} {c : Value} {N : Nat} {f : Nat → Nat} {w W : World} (h : Steps k c N f w) (hb : Below w.heap.size w W) : Steps k c N f W :=
  fun w' x hb' hx => h w' x (hb.trans (hb'.mono hb.size)) hx
theorem nextF_any (d : Pl.Dg) (B : Option Addr) (cq m g h : Nat) (x0 x2 : Value) (w : World) (hm : m = 4 * d.n) (hd : Pl.Wf d) (hr : Row w g 24 [x0, .slice B m cq, x2]) (hb : IntsAt w B m (nats d.mt)) (hh : h < 4 * d.n) :
    Calls Try.prog 126 #[.int .i64 (h : Int), .pointer (some ⟨g, 0, none⟩)] w fun e w' => e = .returned (.int .i64 (Pl.nx d h : Nat)) ∧ w' = w := by
  have hn := hd.few
  have lt := hd.lt h hh
  obtain ⟨b, o, rfl, hc⟩ := mate_at (by rw [← hm]; exact hb) hh
  obtain ⟨f0, f1, f2, f3⟩ := box3 hr
  have hhm : h < m := by omega
  have HM := hide hm
  clear hm
  obtain ⟨u, hu⟩ : ∃ u, u = d.m h := ⟨_, rfl⟩
  have HU := hide (show Pl.nx d h = Pl.tn u 3 by rw [hu]; rfl)
  rw [← hu] at hc lt
  clear hu
  go_enter Try.func126, Try.ntmps126
  go_wp2_with fail
  refine (turn_back u _ (by omega)).mono ?_
  rintro e w1 ⟨rfl, rfl⟩
  go_wp2
  go_ret
  exact ⟨by rw [HU.out]; rfl, rfl⟩
theorem nextF_steps (d : Pl.Dg) (B : Option Addr) (cq m g : Nat) (x0 x2 : Value) (w : World) (hm : m = 4 * d.n) (hd : Pl.Wf d) (hr : Row w g 24 [x0, .slice B m cq, x2]) (hb : IntsAt w B m (nats d.mt)) :
    Steps 126 (.pointer (some ⟨g, 0, none⟩)) (4 * d.n) (Pl.nx d) w := fun w' h hbl hh =>
  (nextF_any d B cq m g h x0 x2 w' hm hd (hr.below hbl) (hb.keep hbl) hh).mono fun _ _ ⟨he, hw⟩ => ⟨he, by rw [hw]; exact Below.refl _ _⟩

theorem own_one (W : World) (x : Value) : (W.alloc (.cells #[x] 3)).ownsRow W.heap.size 3 1 (.slice (some ⟨W.heap.size, 0, none⟩) 1 1) 1 [x] :=
  ⟨rfl, .inr ⟨W.heap.size, 1, #[x], rfl, Nat.le_refl _, heap_alloc_new W _, Nat.le_refl _, by unfold maxLen; omega, rfl, rfl⟩⟩
theorem it_lt {f : Nat → Nat} {N : Nat} (hf : ∀ x, x < N → f x < N) {h : Nat} (hh : h < N) : ∀ k, Pl.it f k h < N
  | 0 => hh
  | k + 1 => hf _ (it_lt hf hh k)
def CycPost (f : Nat → Nat) (h p : Nat) (w : World) (e : Ending) (w' : World) : Prop :=
  ∃ (A : Option Addr) (c : Nat), e = .returned (.slice A p c) ∧ w'.ownsRow w.heap.size 3 1 (.slice A p c) p ((Pl.cyc f h p).map (fun k : Nat => Value.int .i64 k)) ∧ Below w.heap.size w w'
set_option maxRecDepth 100000 in
set_option maxHeartbeats 2000000 in
theorem cycle_any (c : Value) (N : Nat) (f : Nat → Nat) (h p : Nat) (w : World) (hst : Steps 126 c N f w) (hf : ∀ x, x < N → f x < N) (hh : h < N) (hp : Pl.Per f h p) (hpN : p ≤ N) (hN : N ≤ 1000) :
    Calls Try.prog 133 #[.int .i64 (h : Int), fv1 126 c] w (CycPost f h p w) := by
  unfold fv1
  have HST := hide hst
  have HF := hide hf
  have HP := hide hp
  have hp0 := hp.1
  clear hst hf hp
  have B1 := hide (show Below w.heap.size w (w.alloc (.cells #[.int .i64 (h : Int)] 3)) from (Below.refl _ _).alloc (Nat.le_refl _) _)
  go_enter Try.func133, Try.ntmps133
  go_wp2_with fail
  refine (HST.out _ h B1.out hh).mono ?_
  rintro e w2 ⟨rfl, hb2⟩
  have B2 := hide (B1.out.trans (hb2.mono B1.out.size))
  have O2 := hide (own_keep (own_one w (.int .i64 (h : Int))) hb2 (Nat.le_refl _))
  clear hb2
  go_wp2_with fail
  go_loopg [5, 6] (p - 1) (fun g v i wx => ∃ j : Nat, j + 1 + g = p ∧ i = .int .i64 (Pl.it f (j + 1) h : Nat) ∧ wx.ownsRow w.heap.size 3 1 v (j + 1) ((Pl.cyc f h (j + 1)).map (fun k : Nat => Value.int .i64 k)) ∧ Below w.heap.size w wx)
  case atStart => exact ⟨0, by omega, rfl, O2.out, B2.out⟩
  case round =>
    clear O2 B2 B1
    obtain ⟨j, hjg, rfl, own, hb⟩ := hrel
    have HJ := hide hjg
    have hjp : j + 1 ≤ p := by omega
    have OWN := hide own
    have HB := hide hb
    have hbs := hb.size
    obtain ⟨x, hx⟩ : ∃ x, x = Pl.it f (j + 1) h := ⟨_, rfl⟩
    rw [← hx]
    have HX := hide hx
    have hxN : x < N := by rw [hx]; exact it_lt HF.out hh (j + 1)
    clear hjg own hb hx
    by_cases he : x = h
    · have hjj : ¬ j + 1 < p := fun hlt => HP.out.2.2 (j + 1) (by omega) hlt (by rw [← HX.out, he])
      have t1 : ((x : Int) != (h : Int)) = false := by rw [bne_eq_false_iff_eq]; omega
      have HE := hide he
      obtain rfl : j + 1 = p := by omega
      obtain ⟨A5, c5, rfl⟩ := owns_slice OWN.out
      clear he hjj
      go_wp2
      go_ret
      exact ⟨A5, c5, rfl, OWN.out, HB.out⟩
    · have t1 : ((x : Int) != (h : Int)) = true := by rw [bne_iff_ne]; omega
      have hjj : j + 1 < p := by
        rcases Nat.lt_or_ge (j + 1) p with h1 | h1
        · exact h1
        · have : j + 1 = p := by omega
          exact absurd (by rw [HX.out, this]; exact HP.out.2.1) he
      clear he
      obtain ⟨i0, hi0, hz0, hz1, hz2⟩ := info_parts intInfo
      go_wp2_with (at_builtin; refine wpList_append_lies _ (by rfl) _ _ 22 (by rfl) w.heap.size 3 i0 (.int .i64 0) 1 8 Try.underlying22 hi0 hz0 hz1 hz2 rfl (by omega) _ (j + 1) _ (by rfl) (OWN.out.alloc _) ⟨wr.heap.size, 0, none⟩ 1 1 [.int .i64 (x : Int)] (by rfl) (by rfl) (one_news wr (.int .i64 (x : Int))) (by simp [Value.oneCell']) (by omega) (by unfold maxLen; omega) (by omega) (by simp; omega) (wr.heap.size + 1) (by simp) ?_; intro g3 c3 w3 own3 grow3 at3 lt3; have OWN3 := hide own3; have GR3 := hide grow3; clear own3 grow3 at3)
      have B3 := hide ((HB.out.alloc hbs (.cells #[.int .i64 (x : Int)] 3)).grown GR3.out (by simp; omega) (fun k hk => (OWN.out.lt k hk).1))
      refine (HST.out _ x B3.out hxN).mono ?_
      rintro e w4 ⟨rfl, hb4⟩
      go_wp2_with fail
      go_roundg (gk - 1)
      case measure => have := HJ.out; omega
      case rel =>
        refine ⟨j + 1, by have := HJ.out; omega, ?_, ?_, B3.out.trans (hb4.mono B3.out.size)⟩
        · rw [HX.out]; rfl
        · have := own_keep OWN3.out hb4 (Nat.le_refl _)
          rw [Pl.cyc_succ, List.map_append, ← HX.out]
          exact this
end Go.Proofs.Ytobbepmlmbbamaa
