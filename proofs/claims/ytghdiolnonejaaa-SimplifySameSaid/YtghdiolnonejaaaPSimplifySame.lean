/-
 For all arguments: SimplifySame returns true and leaves its arguments as they were. No condition. (Printed by wip/mw/gen/law.py.)
-/
import Derived.Test.YtghdiolnonejaaaT08
import Derived.Test.YtghdiolnonejaaaT10
import Derived.Test.YtghdiolnonejaaaT11
import Derived.Test.YtghdiolnonejaaaRows
import Derived.Deep.DeepHandedRow
import Derived.WalkKit
import Derived.ProofKit
import Derived.OpenShut
set_option linter.unusedVariables false
set_option linter.unusedSimpArgs false
namespace Go.Proofs.Ytghdiolnonejaaa.pSimplifySame
open Go.ChangeShapes Go.WideShapes Go.ChangeAt Go.RowKit
theorem own:ownKnob Try.prog.godebug = none := by kernel_rfl
theorem laidOut:laidOutB Try.prog = true := by kernel_rfl
set_option maxRecDepth 100000 in
set_option maxHeartbeats 2000000 in
theorem lifted (os:Os) (started:os.Started) (H:Type) (enc:TypeId × Value → H) :
 ReturnsInHanded {} Try.checked os 7 .any (Rows.simplifySameSpec.pre6 enc Try.prog Try.f7 Rows.simplifySameRow.domain false) (Rows.simplifySameSpec.post enc Try.prog Try.f7 false true false false) := by
 refine returnsInHanded_of_change (C := Try.checked) own started (by kernel_rfl) Try.func7
  (ChangeSpec.witness6 (enc := enc) (C := Try.checked) false ⟨#[],#[.agg #[.slice none 0 0,.slice none 0 0,.int .i64 0],.slice none 0 0],[]⟩ 8 (by kernel_rfl) (by kernel_rfl) (by kernel_rfl) (by kernel_rfl)) ?_
 intro W base args ds gs before hval0 hW hcnd _
 have hval:∀ (j:Nat) t v,Try.f7.params[j]? = some t → args[j]? = some v → Value.okWide Try.prog W .any base t v:=hval0
 have hW':=hW
 obtain ⟨p,q,hA0,hV,rfl,hfz,hnd⟩:=hW
 have hA:DataW.TrodAll enc Try.prog W 0 (fun _ => true) true Try.f7.params.toList args.toList ds p:=hA0
 rw [Try.params7] at hA hval
 obtain ⟨v0,vs0,d0,ds0,p0,q0,hargs,rfl,rfl,h0,r0⟩:=trodAll_cons hA
 obtain ⟨v1,vs1,d1,ds1,p1,q1,rfl,rfl,rfl,h1,r1⟩:=trodAll_cons r0
 obtain ⟨rfl,rfl,rfl⟩:=trodAll_nil r1
 obtain rfl:args = #[v0,v1] := by cases args; simp_all
 obtain ⟨rfl,rfl⟩:=trodVars_none hV
 obtain ⟨A0,B0,n0,qq0,cp0,cq0,sg0,mt0,lp0,rfl,hn0,hq0,hs0,hm0,hlp0⟩:=open_dg (hval 0 _ v0 rfl rfl) h0
 obtain ⟨A1,n1,c1,xs1,rfl,hn1,hx1⟩:=open_list (hval 1 _ v1 rfl rfl) h1
 clear hA0 hval0
 have hlt:∀ z ∈ p0 ++ (p1 ++ []),z.block < W.heap.size:=fun z hz => hW'.lt z (by simpa using hz)
 refine (ssame_walk sg0 mt0 xs1 lp0 A0 B0 A1 n0 qq0 cp0 cq0 n1 c1 W hs0 hm0 hx1 hn0 hq0 hn1 hlp0).mono fun e W' ⟨he,hb⟩ => ?_
 subst he
 exact ⟨_,rfl,post_of_below (pa := p0 ++ (p1 ++ [])) (pv := []) hW' (fun _ _ _ => (trodAll_cons_mk (shut_bool Try.underlying4 _) trodAll_mk0))
  (fun sp hsp => (trodAll_cons_mk (WideElems.Trod_stays laidOut (by kernel_rfl) (of_decide_eq_true (by kernel_rfl)) h0 (fun z hz => hb.same (hlt z (by simp [hz]))) (fun z hz => hsp z (by simp [hz]))) (trodAll_cons_mk (WideElems.Trod_stays laidOut (by kernel_rfl) (of_decide_eq_true (by kernel_rfl)) h1 (fun z hz => hb.same (hlt z (by simp [hz]))) (fun z hz => hsp z (by simp [hz]))) trodAll_mk0))) (fun _ _ => rfl) (by simp) hb
  (ok_one (by kernel_rfl) rfl (okWide_bool_mk Try.underlying4 _))⟩
theorem over:Rows.simplifySameRow.holds Try.pinned (OpenSpec.ofChange Rows.simplifySameSpec) :=
 OpenClaim.holds_of_wide 7 Try.f7 rfl rfl rfl rfl rfl rfl rfl ⟨rfl,rfl,rfl,rfl,rfl⟩ rfl rfl rfl rfl rfl (by kernel_rfl) Try.func7 (by kernel_rfl)
  (of_decide_eq_true (by kernel_rfl)) (by unfold Func.isWrapper; first | (rw [if_pos (by decide +kernel)]; kernel_rfl) | (rw [if_neg (by decide +kernel)]; exact ⟨rfl,rfl⟩))
  (fun os started H enc _ => lifted os started H enc)
theorem proved:Rows.SimplifySameSaid :=
 over
#print axioms proved
end Go.Proofs.Ytghdiolnonejaaa.pSimplifySame
