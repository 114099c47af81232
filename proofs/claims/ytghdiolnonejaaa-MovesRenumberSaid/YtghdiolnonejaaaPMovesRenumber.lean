/-
 For all arguments: MovesRenumber returns true and leaves its arguments as they were. No condition. (Printed by wip/mw/gen/law.py.)
-/
import Derived.Test.YtghdiolnonejaaaR05
import Derived.Test.YtghdiolnonejaaaR12
import Derived.Test.YtghdiolnonejaaaR18
import Derived.Test.YtghdiolnonejaaaRows
import Derived.Deep.DeepHandedRow
import Derived.WalkKit
import Derived.ProofKit
import Derived.OpenShut
set_option linter.unusedVariables false
set_option linter.unusedSimpArgs false
namespace Go.Proofs.Ytghdiolnonejaaa.pMovesRenumber
open Go.ChangeShapes Go.WideShapes Go.ChangeAt Go.RowKit
theorem own:ownKnob Try.prog.godebug = none := by kernel_rfl
theorem laidOut:laidOutB Try.prog = true := by kernel_rfl
set_option maxRecDepth 100000 in
set_option maxHeartbeats 2000000 in
theorem lifted (os:Os) (started:os.Started) (H:Type) (enc:TypeId × Value → H) :
 ReturnsInHanded {} Try.checked os 8 .any (Rows.movesRenumberSpec.pre6 enc Try.prog Try.f8 Rows.movesRenumberRow.domain false) (Rows.movesRenumberSpec.post enc Try.prog Try.f8 false true false false) := by
 refine returnsInHanded_of_change (C := Try.checked) own started (by kernel_rfl) Try.func8
  (ChangeSpec.witness6 (enc := enc) (C := Try.checked) false ⟨#[],#[.agg #[.slice none 0 0,.slice none 0 0,.int .i64 0],.agg #[.int .i64 0,.int .i64 0,.int .i64 0,.int .i64 0,.bool false],.int .u8 0],[]⟩ 8 (by kernel_rfl) (by kernel_rfl) (by kernel_rfl) (by kernel_rfl)) ?_
 intro W base args ds gs before hval0 hW hcnd _
 have hval:∀ (j:Nat) t v,Try.f8.params[j]? = some t → args[j]? = some v → Value.okWide Try.prog W .any base t v:=hval0
 have hW':=hW
 obtain ⟨p,q,hA0,hV,rfl,hfz,hnd⟩:=hW
 have hA:DataW.TrodAll enc Try.prog W 0 (fun _ => true) true Try.f8.params.toList args.toList ds p:=hA0
 rw [Try.params8] at hA hval
 obtain ⟨v0,vs0,d0,ds0,p0,q0,hargs,rfl,rfl,h0,r0⟩:=trodAll_cons hA
 obtain ⟨v1,vs1,d1,ds1,p1,q1,rfl,rfl,rfl,h1,r1⟩:=trodAll_cons r0
 obtain ⟨v2,vs2,d2,ds2,p2,q2,rfl,rfl,rfl,h2,r2⟩:=trodAll_cons r1
 obtain ⟨rfl,rfl,rfl⟩:=trodAll_nil r2
 obtain rfl:args = #[v0,v1,v2] := by cases args; simp_all
 obtain ⟨rfl,rfl⟩:=trodVars_none hV
 obtain ⟨A0,B0,n0,qq0,cp0,cq0,sg0,mt0,lp0,rfl,hn0,hq0,hs0,hm0,hlp0⟩:=open_dg (hval 0 _ v0 rfl rfl) h0
 obtain ⟨k1,x1,y1,s1,o1,rfl⟩:=open_mv (hval 1 _ v1 rfl rfl) h1
 obtain ⟨a2,rfl,_,_,w2⟩:=open_int Try.underlying5 (hval 2 _ v2 rfl rfl) h2
 obtain ⟨k2,rfl,hk2⟩:∃ k:Nat,a2 = (k:Int) ∧ k < 256 := by
  have h:=u8_of w2
  exact ⟨a2.toNat,by omega,by omega⟩
 clear hA0 hval0
 have hlt:∀ z ∈ p0 ++ (p1 ++ (p2 ++ [])),z.block < W.heap.size:=fun z hz => hW'.lt z (by simpa using hz)
 refine (renum_walk sg0 mt0 lp0 A0 B0 n0 qq0 cp0 cq0 k1 x1 y1 s1 o1 k2 hk2 W hs0 hm0 hn0 hq0 hlp0).mono fun e W' ⟨he,hb⟩ => ?_
 subst he
 exact ⟨_,rfl,post_of_below (pa := p0 ++ (p1 ++ (p2 ++ []))) (pv := []) hW' (fun _ _ _ => (trodAll_cons_mk (shut_bool Try.underlying4 _) trodAll_mk0))
  (fun sp hsp => (trodAll_cons_mk (WideElems.Trod_stays laidOut (by kernel_rfl) (of_decide_eq_true (by kernel_rfl)) h0 (fun z hz => hb.same (hlt z (by simp [hz]))) (fun z hz => hsp z (by simp [hz]))) (trodAll_cons_mk (WideElems.Trod_stays laidOut (by kernel_rfl) (of_decide_eq_true (by kernel_rfl)) h1 (fun z hz => hb.same (hlt z (by simp [hz]))) (fun z hz => hsp z (by simp [hz]))) (trodAll_cons_mk (WideElems.Trod_stays laidOut (by kernel_rfl) (of_decide_eq_true (by kernel_rfl)) h2 (fun z hz => hb.same (hlt z (by simp [hz]))) (fun z hz => hsp z (by simp [hz]))) trodAll_mk0)))) (fun _ _ => rfl) (by simp) hb
  (ok_one (by kernel_rfl) rfl (okWide_bool_mk Try.underlying4 _))⟩
theorem over:Rows.movesRenumberRow.holds Try.pinned (OpenSpec.ofChange Rows.movesRenumberSpec) :=
 OpenClaim.holds_of_wide 8 Try.f8 rfl rfl rfl rfl rfl rfl rfl ⟨rfl,rfl,rfl,rfl,rfl⟩ rfl rfl rfl rfl rfl (by kernel_rfl) Try.func8 (by kernel_rfl)
  (of_decide_eq_true (by kernel_rfl)) (by unfold Func.isWrapper; first | (rw [if_pos (by decide +kernel)]; kernel_rfl) | (rw [if_neg (by decide +kernel)]; exact ⟨rfl,rfl⟩))
  (fun os started H enc _ => lifted os started H enc)
theorem proved:Rows.MovesRenumberSaid :=
 over
#print axioms proved
end Go.Proofs.Ytghdiolnonejaaa.pMovesRenumber
