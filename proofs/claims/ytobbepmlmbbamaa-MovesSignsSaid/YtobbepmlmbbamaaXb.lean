/-
  Walks: what pushed makes its fields by.
-/
import Derived.Test.YtobbepmlmbbamaaXa
import Derived.Test.YtobbepmlmbbamaaWx
import Derived.Deep.RegionWith
namespace Go.Proofs.Ytobbepmlmbbamaa
open Go Go.RowKit

def lpv (d : Pl.Dg) (h : Nat) : Int := if Pl.out d h then -2 else -1
def oldv (d : Pl.Dg) (x y h : Nat) : Int := (Pl.shf [x, y] (d.m h) : Nat)
theorem loopF_any (d : Pl.Dg) (hd : Pl.Wf d) (A B : Option Addr) (cp cq m g h : Nat) (w : World) (hr : Row w g 24 [.slice A d.n cp, .slice B m cq, .int .i64 (d.lp : Int)]) (hg : DgAt w A B d) (hh : h < 4 * d.n) :
    Calls Try.prog 127 #[.int .i64 (h : Int), .pointer (some ⟨g, 0, none⟩)] w fun e w' => e = .returned (.int .i64 (lpv d h)) ∧ Below w.heap.size w w' := by
  obtain ⟨d0, d1, d2, d3⟩ := box3 hr
  have hn := hd.few
  go_enter Try.func127, Try.ntmps127
  go_wp2_with fail
  refine (out2_n d A B d.n cp m cq (.int .i64 (d.lp : Int)) h _ rfl hh (by omega) hg.s).mono ?_
  rintro e w1 ⟨rfl, hb1⟩
  cases ho : Pl.out d h with
  | true =>
    have E := hide (show lpv d h = -2 by unfold lpv; rw [ho]; rfl)
    clear ho
    go_wp2
    go_ret
    exact ⟨ret_int E.out.symm, hb1⟩
  | false =>
    have E := hide (show lpv d h = -1 by unfold lpv; rw [ho]; rfl)
    clear ho
    go_wp2
    go_ret
    exact ⟨ret_int E.out.symm, hb1⟩
set_option maxRecDepth 100000 in
set_option maxHeartbeats 1000000 in
theorem oldF_any (d : Pl.Dg) (hd : Pl.Wf d) (A B : Option Addr) (cp cq m g gm x y h : Nat) (k sg : Int) (ov : Bool) (w : World) (hm : m = 4 * d.n) (hr : Row w g 24 [.slice A d.n cp, .slice B m cq, .int .i64 (d.lp : Int)]) (hrm : Row w gm 28 [.int .i64 k, .int .i64 (x : Int), .int .i64 (y : Int), .int .i64 sg, .bool ov]) (hg : DgAt w A B d) (hh : h < 4 * d.n) (hxy : x < y) :
    Calls Try.prog 128 #[.int .i64 (h : Int), .pointer (some ⟨g, 0, none⟩), .pointer (some ⟨gm, 0, none⟩)] w fun e w' => e = .returned (.int .i64 (oldv d x y h)) ∧ Below w.heap.size w w' := by
  obtain ⟨d0, d1, d2, d3⟩ := box3 hr
  obtain ⟨m0, m1, m2, m3, m4, m5⟩ := box5 hrm
  have hn := hd.few
  have l1 := hr.lt
  have l2 := hrm.lt
  have hmh : h < m := by omega
  have ih0 : (0 : Int) ≤ (h : Int) := by omega
  have ih1 : (h : Int) < (m : Int) := by omega
  obtain ⟨mb, mo, rfl, cm⟩ := mate_at hg.m hh
  have l3 : mb < w.heap.size := lt_of_cell cm
  have hmm := hd.lt h hh
  have E := hide (show oldv d x y h = (Pl.shf [x, y] (d.m h) : Nat) from rfl)
  obtain ⟨u, hu⟩ : ∃ u, u = d.m h := ⟨_, rfl⟩
  rw [← hu] at cm hmm E
  clear hu
  have HM := hide hm
  have HG := hide hg
  clear hm hg hr hrm
  go_enter Try.func128, Try.ntmps128
  go_wp2_with fail
  go_region_held3 (fun w' => w'.cell? ⟨g, 1, none⟩ = some (.slice (some ⟨mb, mo, none⟩) m cq) ∧ w'.cell? ⟨mb, mo + h, none⟩ = some (.int .i64 (u : Int)) ∧ w'.cell? ⟨gm, 1, none⟩ = some (.int .i64 (x : Int)) ∧ w'.cell? ⟨gm, 2, none⟩ = some (.int .i64 (y : Int)))
    (first | go_keep | assumption | (exact ⟨by simpa [l1] using d1, by simpa [l3] using cm, by simpa [l2] using m1, by simpa [l2] using m2⟩))
    (first
      | (go_at_call 82
         refine Calls.mono (shifted_any [x, y] (some ⟨w.heap.size, 0, none⟩) 2 2 u _ (by exact two_ints w (x : Int) (y : Int)) (by omega) (by omega) (Pl.few_two hxy)) ?_
         rintro e w4 ⟨rfl, rfl⟩))
  all_goals
    go_wp2
    go_ret
    refine ⟨ret_int ?_, ?_⟩
    · rw [E.out]
    · exact ((Below.refl _ _).alloc (Nat.le_refl _) _).drew
end Go.Proofs.Ytobbepmlmbbamaa
