/-
  Walks: strings.IndexAny at a blank and a tab, whatever the string; TrimLeft at the same; the small functions of the parser.
-/
import Derived.Test.YtpmegcgmbhhfaaaDoorWa
import Derived.Test.YtpmegcgmbhhfaaaDoorSpec
import Derived.Test.YtpmegcgmbhhfaaaDoorShelf
import Derived.Shelf.Strings.SlTrimAscii
import Derived.Deep.QuietTactic
import Derived.BigQuiet
namespace Go.Proofs.YtpmegcgmbhhfaaaDoor
open Go.RowKit

theorem quiet_add {P : Program} {f : FuncId} {args : Array Value} {w : World} {a n : Nat} {v : Value}
    (h : Calls P f args (w.drewN (a + n)) fun e w' => e = .returned v ∧ ∃ m, w' = (w.drewN (a + n)).drewN m) :
    Calls P f args (w.drewN (a + n)) fun e w'' => e = .returned v ∧ ∃ m, w'' = w.drewN (a + m) :=
  h.mono fun _ _ ⟨he, m, hm⟩ => ⟨he, n + m, by rw [hm, World.drewN_drewN, Nat.add_assoc]⟩
theorem quiet_add_same {P : Program} {f : FuncId} {args : Array Value} {w : World} {a n : Nat} {v : Value}
    (h : Calls P f args (w.drewN (a + n)) fun e w' => e = .returned v ∧ w' = w.drewN (a + n)) :
    Calls P f args (w.drewN (a + n)) fun e w'' => e = .returned v ∧ ∃ m, w'' = w.drewN (a + m) :=
  h.mono fun _ _ ⟨he, hm⟩ => ⟨he, n, hm⟩
theorem quiet_left {P : Program} {f : FuncId} {args : Array Value} {w : World} {n : Nat} {v : Value}
    (h : Calls P f args (w.drewN n) fun e w' => e = .returned v ∧ w.drewN n = w') : Calls P f args (w.drewN n) fun e w'' => e = .returned v ∧ ∃ m, w'' = w.drewN m :=
  h.mono fun _ _ ⟨he, hm⟩ => ⟨he, n, hm.symm⟩

def bt : ByteArray := ⟨#[32, 9]⟩

set_option maxRecDepth 100000 in
set_option maxHeartbeats 1000000 in
theorem indexRune_hi (r : Int) (w : World) (h : 128 ≤ r) (hv : Utf8.valid r = true) (hle : r ≤ 1114111) :
    Calls Tryd.prog 75 #[.string bt, .int .i32 r] w fun e w' => e = .returned (.int .i64 (-1)) ∧ Below w.heap.size w w' := by
  have g1 : decide (0 ≤ r) = true := by simp; omega
  have g2 : decide (r < 128) = false := by simp; omega
  by_cases h3 : r = 65533
  · subst h3
    have n0 := fun ty => run_next_ascii (P := Tryd.prog) w bt 0 ty (by decide) (by decide)
    have n1 := fun ty => run_next_ascii (P := Tryd.prog) w bt 1 ty (by decide) (by decide)
    have n2 := fun ty => run_next_end (P := Tryd.prog) w bt 2 ty (by decide)
    have e0 : bt[0]'(by decide) = 32 := rfl
    have e1 : bt[1]'(by decide) = 9 := rfl
    rw [e0] at n0
    rw [e1] at n1
    clear e0 e1
    go_enter Tryd.func75, Tryd.ntmps75
    go_wp2
    refine wp_loop_rounds 3 ?_
    rw [rounds_succ]
    go_wp2
    rw [rounds_succ]
    go_wp2
    rw [rounds_succ]
    go_wp2
    go_ret
    exact ⟨rfl, (Below.refl _ _).alloc (Nat.le_refl _) _⟩
  · have g3 : (r == 65533) = false := by simp [h3]
    obtain ⟨s1, s2, s3⟩ := encode_facts r hv h
    generalize hrs : Utf8.encode r = rs at s1 s2 s3
    have hv2 : Lib.validRune r = true := by rw [← hv, validRune_eq]; rfl
    have hbt : bt.size = 2 := rfl
    by_cases hz : rs.size = 2
    · have c1 : 128 ≤ (rs[1]'(by omega)).toNat := by have := s3 (by omega); simpa only [hz] using this
      have c2 : ((9 : Int) != ((rs[1]'(by omega)).toNat : Int)) = true := by simp; omega
      have i1 : (1 : Int) < (rs.size : Int) := by omega
      clear s3
      have q1 : bt[1]'(by decide) = 9 := rfl
      go_enter Tryd.func75, Tryd.ntmps75
      go_wp2_with (go_at_call 80; refine (Tryd.utf8_ValidRune _ _).mono ?_; rintro e w' ⟨rfl, hw⟩; rw [hw, hv2])
      go_step3
      go_wp2
      go_loop [9] (fun i => i = .int .i64 1) (fun _ => 0)
      case atStart => simp [hz]
      case round =>
        subst hrel
        go_wp2
        go_step3
        go_wp2
        go_quiet (fail)
        go_wp2
        have kz2 : ∀ x, Lib.indexByte ByteArray.empty.data.toList x = -1 := fun _ => rfl
        go_quiet ((go_at_call 79; exact quiet_add_same (Tryd.strings_IndexByte _ _ _)))
        rw [kz2]
        go_wp2
        simp +zetaDelta only [Exit.inBlock, Exit.then, Exit.noGoto_ret]
        go_ret
        exact ⟨rfl, below_drewN (Below.refl _ _) _⟩
    · have hz' : 3 ≤ rs.size := by omega
      go_enter Tryd.func75, Tryd.ntmps75
      go_wp2_with (go_at_call 80; refine (Tryd.utf8_ValidRune _ _).mono ?_; rintro e w' ⟨rfl, hw⟩; rw [hw, hv2])
      go_step3
      go_wp2
      go_loop [9] (fun i => i = .int .i64 ((rs.size : Int) - 1)) (fun _ => 0)
      case atStart => rfl
      case round =>
        subst hrel
        go_wp2
        go_ret
        exact ⟨rfl, Below.refl _ _⟩
end Go.Proofs.YtpmegcgmbhhfaaaDoor
