/-
 For every diagram and move, valid or not: MovesApply returns true and leaves its argument as it was. No condition.
-/
import Derived.Test.YtobbepmlmbbamaaRows
import Derived.Test.YtobbepmlmbbamaaCLa
import Derived.Test.YtobbepmlmbbamaaCOpen
import Derived.Test.YtobbepmlmbbamaaCXn
import Derived.Deep.DeepHandedRow
import Derived.WalkKit
import Derived.ProofKit
import Derived.OpenShut
set_option linter.unusedVariables false
set_option linter.unusedSimpArgs false
namespace Go.Proofs.Ytobbepmlmbbamaa.pMovesApply
open Go.ChangeShapes Go.WideShapes Go.ChangeAt Go.RowKit
theorem own : ownKnob Try.prog.godebug = none := by kernel_rfl
theorem laidOut : laidOutB Try.prog = true := by kernel_rfl
set_option maxRecDepth 100000 in
set_option maxHeartbeats 2000000 in
theorem lifted (os : Os) (started : os.Started) (H : Type) (enc : TypeId × Value → H) :
 ReturnsInHanded {} Try.checked os 4 .any (Rows.movesApplySpec.pre6 enc Try.prog Try.f4 Rows.movesApplyRow.domain false) (Rows.movesApplySpec.post enc Try.prog Try.f4 false true false false) := by
 refine returnsInHanded_of_change (C := Try.checked) own started (by kernel_rfl) Try.func4
  (ChangeSpec.witness6 (enc := enc) (C := Try.checked) false ⟨#[], #[.agg #[.slice none 0 0, .slice none 0 0, .int .i64 0], .agg #[.int .i64 0, .int .i64 0, .int .i64 0, .int .i64 0, .bool false]], []⟩ 8 (by kernel_rfl) (by kernel_rfl) (by kernel_rfl) (by kernel_rfl)) ?_
 intro W base args ds gs before hval0 hW hcnd _
 have hval : ∀ (j : Nat) t v, Try.f4.params[j]? = some t → args[j]? = some v → Value.okWide Try.prog W .any base t v:=hval0
 have hW':=hW
 obtain ⟨p, q, hA0, hV, rfl, hfz, hnd⟩ := hW
 have hA : DataW.TrodAll enc Try.prog W 0 (fun _ => true) true Try.f4.params.toList args.toList ds p:=hA0
 rw [Try.params4] at hA hval
 obtain ⟨v0, v1, d0, d1, p0, p1, hargs, rfl, rfl, h0, h1⟩ := trodAll_two hA
 obtain rfl : args = #[v0, v1] := by cases args; simp_all
 obtain ⟨rfl, rfl⟩ := trodVars_none hV
 obtain ⟨A, B, n, q', cp, cq, sg, mt, lp, rfl, hn, hq, hs, hm, hlp⟩ := open_dg (hval 0 _ v0 rfl rfl) h0
 obtain ⟨k, x, y, sn, o, rfl⟩ := open_mv (hval 1 _ v1 rfl rfl) h1
 clear hA0 hval0
 simp only [List.append_nil] at hW'
 have hlt : ∀ z ∈ p0 ++ p1, z.block < W.heap.size:=fun z hz => hW'.lt z hz
 refine (mapply_walk sg mt lp A B n q' cp cq k x y sn o W hs hm hn hq hlp).mono fun e W' ⟨he, hb⟩ => ?_
 subst he
 exact ⟨_, rfl, post_of_below (pa := p0 ++ p1) (pv := []) hW' (fun _ _ _ => (trodAll_cons_mk (shut_bool Try.underlying4 _) trodAll_mk0))
  (fun sp hsp => trodAll_mk2 (WideElems.Trod_stays laidOut (by kernel_rfl) (of_decide_eq_true (by kernel_rfl)) h0 (fun z hz => hb.same (hlt z (List.mem_append_left _ hz))) (fun z hz => hsp z (by simp [hz])))
    (WideElems.Trod_stays laidOut (by kernel_rfl) (of_decide_eq_true (by kernel_rfl)) h1 (fun z hz => hb.same (hlt z (List.mem_append_right _ hz))) (fun z hz => hsp z (by simp [hz])))) (fun _ _ => rfl) (by simp) hb
  (ok_one (by kernel_rfl) rfl (okWide_bool_mk Try.underlying4 _))⟩
theorem over : Rows.movesApplyRow.holds Try.pinned (OpenSpec.ofChange Rows.movesApplySpec) :=
 OpenClaim.holds_of_wide 4 Try.f4 rfl rfl rfl rfl rfl rfl rfl ⟨rfl, rfl, rfl, rfl, rfl⟩ rfl rfl rfl rfl rfl (by kernel_rfl) Try.func4 (by kernel_rfl)
  (of_decide_eq_true (by kernel_rfl)) (by unfold Func.isWrapper; first | (rw [if_pos (by decide +kernel)]; kernel_rfl) | (rw [if_neg (by decide +kernel)]; exact ⟨rfl, rfl⟩))
  (fun os started H enc _ => lifted os started H enc)
theorem proved : Rows.MovesApplySaid :=
 over
#print axioms proved
end Go.Proofs.Ytobbepmlmbbamaa.pMovesApply
