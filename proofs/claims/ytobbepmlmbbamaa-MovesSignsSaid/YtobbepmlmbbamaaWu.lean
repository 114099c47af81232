/-
  Walks: Faces, Graph.
-/
import Derived.Test.YtobbepmlmbbamaaWt
import Derived.Test.YtobbepmlmbbamaaVal
import Derived.Laws.MakeOwn
namespace Go.Proofs.Ytobbepmlmbbamaa
open Go Go.RowKit

theorem mk_self (d : Pl.Dg) : Pl.mk d.sg (nats d.mt) d.lp = d := by
  unfold Pl.mk nats
  rw [List.map_map]
  have : (Int.toNat ∘ fun m : Nat => (m : Int)) = id := by funext x; rfl
  rw [this, List.map_id]
  rfl
theorem vl_of {d : Pl.Dg} : Pl.VL d.sg (nats d.mt) d.lp ↔ Pl.Valid d := by
  constructor
  · intro h; have := h.1; rwa [mk_self] at this
  · intro h; exact ⟨by rw [mk_self]; exact h, fun z hz => by unfold nats at hz; obtain ⟨m, _, rfl⟩ := List.mem_map.1 hz; omega, by omega⟩
theorem valid_yes (d : Pl.Dg) (hd : Pl.Valid d) (A B : Option Addr) (cp cq m : Nat) (w : World) (hm : m = 4 * d.n) (hg : DgAt w A B d) :
    Calls Try.prog 26 #[.agg #[.slice A d.n cp, .slice B m cq, .int .i64 d.lp]] w fun e w' => e = .returned (.bool true) ∧ Below w.heap.size w w' := by
  have hn := hd.wf.few
  have hl := hd.wf.lp
  refine (valid_any d.sg (nats d.mt) d.lp A B d.n m cp cq w hg.s (by rw [hm]; exact hg.m) (by unfold maxLen; omega) (by unfold maxLen; omega) (by omega)).mono ?_
  rintro e w' ⟨h1, h2⟩
  rw [Pl.vb_true (vl_of.2 hd)] at h1
  exact ⟨h1, h2⟩
def FacesPost (d : Pl.Dg) (w : World) (e : Ending) (w' : World) : Prop := CyclesPost (Pl.nx d) (4 * d.n) w e w'
set_option maxRecDepth 100000 in
set_option maxHeartbeats 1000000 in
theorem faces_any (d : Pl.Dg) (hd : Pl.Valid d) (A B : Option Addr) (cp cq m : Nat) (w : World) (hm : m = 4 * d.n) (hg : DgAt w A B d) :
    Calls Try.prog 90 #[.agg #[.slice A d.n cp, .slice B m cq, .int .i64 d.lp]] w (FacesPost d w) := by
  have hn := hd.wf.few
  have HM := hide hm
  have HG := hide hg
  have B0 := hide (show Below w.heap.size w (w.alloc (.cells #[.slice A d.n cp, .slice B m cq, .int .i64 d.lp] 24)) from (Below.refl _ _).alloc (Nat.le_refl _) _)
  have X0 := hide (show Row (w.alloc (.cells #[.slice A d.n cp, .slice B m cq, .int .i64 d.lp] 24)) w.heap.size 24 [.slice A d.n cp, .slice B m cq, .int .i64 d.lp] from Row.new w _ [_, _, _])
  clear hm hg
  have hmf : ∀ (fn : Fn) (first cap : Array Value) (w : World), (Instr.makeFunc fn first cap).run Try.prog w = .ok (.func fn first cap) w := fun _ _ _ _ => rfl
  go_enter Try.func90, Try.ntmps90
  go_wp2_with fail
  refine (valid_yes d hd A B cp cq m _ HM.out (HG.out.keep B0.out)).mono ?_
  rintro e w1 ⟨rfl, hb1⟩
  have B1 := hide (B0.out.trans (hb1.mono B0.out.size))
  have X1 := hide (X0.out.below hb1)
  have ST := hide (nextF_steps d B cq m w.heap.size _ _ w1 HM.out hd.wf X1.out (by rw [HM.out]; exact (HG.out.keep B1.out).m))
  obtain ⟨f0, f1, f2, f3⟩ := box3 X1.out
  clear hb1
  go_wp2_with fail
  have hcc : (m : Int) = ((4 * d.n : Nat) : Int) := by rw [HM.out]
  refine (Calls.mono (P := Try.prog) (by rw [hcc]; exact cycles_any (.pointer (some ⟨w.heap.size, 0, none⟩)) (4 * d.n) (Pl.dart d) (Pl.nx d) w1 ST.out hd.wf.nxb (fun _ h => h) (fun _ h => h) (by omega)) ?_)
  rintro e w2 ⟨A7, c7, fs, bs, vs, rfl, h1, h2, h3, h4, h5, h6⟩
  clear hcc
  have H1 := hide h1
  have H2 := hide h2
  have H3 := hide h3
  have H4 := hide h4
  have B2 := hide (B1.out.trans (h5.mono B1.out.size))
  have H6 := hide (show Far w.heap.size vs from fun v hv g hg => Nat.le_trans B1.out.size (h6 v hv g hg))
  clear h1 h2 h3 h4 h5 h6
  go_wp2
  go_ret
  exact ⟨A7, c7, fs, bs, vs, rfl, H1.out, H2.out, H3.out, H4.out, B2.out, H6.out⟩
end Go.Proofs.Ytobbepmlmbbamaa
