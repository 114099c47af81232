/-
 For every diagram,valid or not: MovesAll returns true and leaves its argument as it was. No condition.
-/
import Derived.Test.YtobbepmlmbbamaaE05
import Derived.Test.YtobbepmlmbbamaaE36
import Derived.Test.YtobbepmlmbbamaaE37
import Derived.Test.YtobbepmlmbbamaaRows
import Derived.Deep.DeepHandedRow
import Derived.WalkKit
import Derived.ProofKit
import Derived.OpenShut
set_option linter.unusedVariables false
set_option linter.unusedSimpArgs false
namespace Go.Proofs.Ytobbepmlmbbamaa.pMovesAll
open Go.ChangeShapes Go.WideShapes Go.ChangeAt Go.RowKit
theorem own:ownKnob Try.prog.godebug = none := by kernel_rfl
theorem laidOut:laidOutB Try.prog = true := by kernel_rfl
set_option maxRecDepth 100000 in
set_option maxHeartbeats 2000000 in
theorem lifted (os:Os) (started:os.Started) (H:Type) (enc:TypeId × Value → H) :
 ReturnsInHanded {} Try.checked os 9 .any (Rows.movesAllSpec.pre6 enc Try.prog Try.f9 Rows.movesAllRow.domain false) (Rows.movesAllSpec.post enc Try.prog Try.f9 false true false false) := by
 refine returnsInHanded_of_change (C := Try.checked) own started (by kernel_rfl) Try.func9
  (ChangeSpec.witness6 (enc := enc) (C := Try.checked) false ⟨#[],#[.agg #[.slice none 0 0,.slice none 0 0,.int .i64 0]],[]⟩ 8 (by kernel_rfl) (by kernel_rfl) (by kernel_rfl) (by kernel_rfl)) ?_
 intro W base args ds gs before hval0 hW hcnd _
 have hval:∀ (j:Nat) t v,Try.f9.params[j]? = some t → args[j]? = some v → Value.okWide Try.prog W .any base t v:=hval0
 have hW':=hW
 obtain ⟨p,q,hA0,hV,rfl,hfz,hnd⟩:=hW
 have hA:DataW.TrodAll enc Try.prog W 0 (fun _ => true) true Try.f9.params.toList args.toList ds p:=hA0
 rw [Try.params9] at hA hval
 obtain ⟨v0,d0,hargs,rfl,h0⟩:=trodAll_one hA
 obtain rfl:args = #[v0] := by cases args; simp_all
 obtain ⟨rfl,rfl⟩:=trodVars_none hV
 obtain ⟨A,B,n,q',cp,cq,sg,mt,lp,rfl,hn,hq,hs,hm,hlp⟩:=open_dg (hval 0 _ v0 rfl rfl) h0
 clear hA0 hval0
 simp only [List.append_nil] at hW'
 have hlt:∀ z ∈ p,z.block < W.heap.size:=fun z hz => hW'.lt z hz
 refine (mall_walk sg mt lp A B n q' cp cq W hs hm hn hq hlp).mono fun e W' ⟨he,hb⟩ => ?_
 subst he
 exact ⟨_,rfl,post_of_below (pa := p) (pv := []) hW' (fun _ _ _ => trodAll_mk1 (shut_bool Try.underlying4 _))
  (fun sp hsp => trodAll_mk1 (WideElems.Trod_stays laidOut (by kernel_rfl) (of_decide_eq_true (by kernel_rfl)) h0 (fun z hz => hb.same (hlt z hz)) (fun z hz => hsp z (by simp [hz])))) (fun _ _ => rfl) (by simp) hb
  (ok_one (by kernel_rfl) rfl (okWide_bool_mk Try.underlying4 _))⟩
theorem over:Rows.movesAllRow.holds Try.pinned (OpenSpec.ofChange Rows.movesAllSpec) :=
 OpenClaim.holds_of_wide 9 Try.f9 rfl rfl rfl rfl rfl rfl rfl ⟨rfl,rfl,rfl,rfl,rfl⟩ rfl rfl rfl rfl rfl (by kernel_rfl) Try.func9 (by kernel_rfl)
  (of_decide_eq_true (by kernel_rfl)) (by unfold Func.isWrapper; first | (rw [if_pos (by decide +kernel)]; kernel_rfl) | (rw [if_neg (by decide +kernel)]; exact ⟨rfl,rfl⟩))
  (fun os started H enc _ => lifted os started H enc)
theorem proved:Rows.MovesAllSaid :=
 over
#print axioms proved
end Go.Proofs.Ytobbepmlmbbamaa.pMovesAll
