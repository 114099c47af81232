/-
 For all arguments, BraidMirrors returns true and leaves its arguments as they were. No condition; the five variables of strconv and math/bits that its row lists are tied to the program's text by the card.
-/
import Derived.Test.YtcaoblilkgajoaaDoorCards
import Derived.Test.YtcaoblilkgajoaaDoorTie
import Derived.Test.YtcaoblilkgajoaaDoorG18
import Derived.Test.YtcaoblilkgajoaaDoorG15
import Derived.Test.YtcaoblilkgajoaaDoorG16
import Derived.Deep.DeepHandedRow
import Derived.Lib.LaidTab
set_option linter.unusedVariables false
set_option linter.unusedSimpArgs false
namespace Go.Proofs.YtcaoblilkgajoaaDoor.pBraidMirrors
open Go.ChangeShapes Go.WideShapes Go.ChangeAt Go.RowKit
theorem own : ownKnob Tryd.prog.godebug = none := by kernel_rfl
theorem laidOut : laidOutB Tryd.prog = true := by kernel_rfl
theorem size_pos {W : World} {o : Nat} {v : Value} (h : W.cell? ⟨0, o, none⟩ = some v) : 0 < W.heap.size := by
 rcases Nat.eq_zero_or_pos W.heap.size with h0 | h0
 ·exfalso
  have e : W.heap[0]? = none := Array.getElem?_eq_none (by omega)
  unfold World.cell? at h
  simp [e] at h
 ·exact h0
set_option maxRecDepth 100000 in
theorem contract (H : Type) (enc : TypeId × Value → H) (W : World) (base : Nat) (args : Array Value) (ds gs : List (DataW H)) (before : List MemPlace)
 (hval : ∀ (j : Nat) t v, Tryd.f6.params[j]? = some t → args[j]? = some v → Value.okWide Tryd.prog W .any base t v)
 (hW : DataW.Whole enc Tryd.prog Tryd.f6.params.toList Rows.braidMirrorsSpec.vars false W args.toList ds gs before) (hsh : W.ShapedOpen Tryd.prog) (hL : laidMet Tryd.prog Rows.braidMirrorsRow.laid W) :
 Calls Tryd.prog 6 args W fun e W' => ∃ v, e = .returned v ∧ Rows.braidMirrorsSpec.post enc Tryd.prog Tryd.f6 false true false false W args v W' := by
 have hW' := hW
 obtain ⟨p, q, hA0, hV, rfl, hfz, hnd⟩ := hW
 have hA : DataW.TrodAll enc Tryd.prog W 0 (fun _ => true) true Tryd.f6.params.toList args.toList ds p := hA0
 rw [Tryd.params6] at hA hval
 obtain ⟨v0, d0, hargs, rfl, h0⟩ := trodAll_one hA
 obtain rfl : args = #[v0] := by cases args; simp_all
 obtain ⟨rfl, rfl⟩ := trodVars_none hV
 obtain ⟨s0, A0, n0, c0, ws0, rfl, hn0, hI0, hlo0, hhi0⟩ := open_br (hval 0 _ v0 rfl rfl) h0
 obtain ⟨m, hm⟩ := Tryd.laysM145.s1_3 W hsh
 simp only [List.append_nil] at hW'
 have hlt : ∀ z ∈ p, z.block < W.heap.size := fun z hz => hW'.lt z (by first | exact hz | simpa [List.append_assoc] using hz)
 have hg : GV W := gv_of ⟨m, hm⟩ hL
 refine (braidMirrors_walk s0 ws0 A0 n0 c0 W hI0 hn0 hg (size_pos hm)).mono fun e W' ⟨he, hb⟩ => ?_
 subst he
 exact ⟨_, rfl, post_of_below (pa := p) (pv := []) hW' (fun _ _ _ => trodAll_mk1 (shut_bool Tryd.underlying4 _))
  (fun sp hsp => trodAll_mk1 (WideElems.Trod_stays laidOut (by kernel_rfl) (of_decide_eq_true (by kernel_rfl)) h0 (fun z hz => hb.same (hlt z hz)) (fun z hz => hsp z (by simp [hz])))) (fun _ _ => rfl) (by simp) hb
  (ok_one (by kernel_rfl) rfl (okWide_bool_mk Tryd.underlying4 _))⟩
/-- A WORLD FOR THE WITNESS: the settled one, the five listed variables holding what their initialisers lay. -/
noncomputable def putCells (h : Array Obj) (g : Nat) (cs : Array Value) : Array Obj := h.modify g fun
 | .cells _ t frozen => .cells cs t frozen
 | o => o
noncomputable def laidWorld (os : Os) : World :=
 let n := (World.settled Tryd.prog os).heap.size
 let w0 := World.holding Tryd.prog os ⟨#[.cells #[.string ⟨#[118, 97, 108, 117, 101, 32, 111, 117, 116, 32, 111, 102, 32, 114, 97, 110, 103, 101]⟩] 144, .cells #[.string ⟨#[105, 110, 118, 97, 108, 105, 100, 32, 115, 121, 110, 116, 97, 120]⟩] 144], #[], []⟩
 let h1 := putCells w0.heap 4 #[.int .u8 0, .int .u8 1, .int .u8 28, .int .u8 2, .int .u8 29, .int .u8 14, .int .u8 24, .int .u8 3, .int .u8 30, .int .u8 22, .int .u8 20, .int .u8 15, .int .u8 25, .int .u8 17, .int .u8 4, .int .u8 8, .int .u8 31, .int .u8 27, .int .u8 13, .int .u8 23, .int .u8 21, .int .u8 19, .int .u8 16, .int .u8 7, .int .u8 26, .int .u8 12, .int .u8 18, .int .u8 6, .int .u8 11, .int .u8 5, .int .u8 10, .int .u8 9]
 let h2 := putCells h1 5 #[.int .u8 0, .int .u8 1, .int .u8 56, .int .u8 2, .int .u8 57, .int .u8 49, .int .u8 28, .int .u8 3, .int .u8 61, .int .u8 58, .int .u8 42, .int .u8 50, .int .u8 38, .int .u8 29, .int .u8 17, .int .u8 4, .int .u8 62, .int .u8 47, .int .u8 59, .int .u8 36, .int .u8 45, .int .u8 43, .int .u8 51, .int .u8 22, .int .u8 53, .int .u8 39, .int .u8 33, .int .u8 30, .int .u8 24, .int .u8 18, .int .u8 12, .int .u8 5, .int .u8 63, .int .u8 55, .int .u8 48, .int .u8 27, .int .u8 60, .int .u8 41, .int .u8 37, .int .u8 16, .int .u8 46, .int .u8 35, .int .u8 44, .int .u8 21, .int .u8 52, .int .u8 32, .int .u8 23, .int .u8 11, .int .u8 54, .int .u8 26, .int .u8 40, .int .u8 15, .int .u8 34, .int .u8 20, .int .u8 31, .int .u8 10, .int .u8 25, .int .u8 14, .int .u8 19, .int .u8 9, .int .u8 13, .int .u8 8, .int .u8 7, .int .u8 6]
 let h3 := putCells h2 3 #[.int .u64 1, .int .u64 10, .int .u64 100, .int .u64 1000, .int .u64 10000, .int .u64 100000, .int .u64 1000000, .int .u64 10000000, .int .u64 100000000, .int .u64 1000000000, .int .u64 10000000000, .int .u64 100000000000, .int .u64 1000000000000, .int .u64 10000000000000, .int .u64 100000000000000, .int .u64 1000000000000000, .int .u64 10000000000000000, .int .u64 100000000000000000, .int .u64 1000000000000000000, .int .u64 10000000000000000000]
 let h4 := putCells h3 2 #[.iface 142 (.pointer (some ⟨n, 0, none⟩))]
 let h5 := putCells h4 1 #[.iface 142 (.pointer (some ⟨n + 1, 0, none⟩))]
 { w0 with heap := h5 }
set_option maxRecDepth 1000000 in
theorem laid_met (os : Os) : laidMet Tryd.prog Rows.braidMirrorsRow.laid ((laidWorld os).forCall (fun _ _ => 0) ⟨#[], #[.agg #[.int .i64 0, .slice none 0 0]], []⟩).memory :=
 laidMet_of_run' 10 (by kernel_rfl) (by kernel_rfl)
theorem reads (os : Os) {H : Type} (enc : TypeId × Value → H) : ∃ places, DataW.whole enc Tryd.prog ((laidWorld os).forCall (fun _ _ => 0) ⟨#[], #[.agg #[.int .i64 0, .slice none 0 0]], []⟩).memory Tryd.f6.params.toList Rows.braidMirrorsSpec.vars false (#[.agg #[.int .i64 0, .slice none 0 0]] : Array Value).toList 8 = some ([.agg [.lit (.int .i64 0), .nil]], [], places) :=
 ⟨[], by kernel_rfl⟩
set_option maxRecDepth 100000 in
theorem lifted (os : Os) (started : os.Started) (H : Type) (enc : TypeId × Value → H) (F : Stop.Interp) :
 ReturnsInHanded {} Tryd.checked os 6 .any ((OpenSpec.ofChange Rows.braidMirrorsSpec).preRow enc Tryd.prog Tryd.f6 Rows.braidMirrorsRow.domain false Rows.braidMirrorsRow.laid) (((OpenSpec.ofChange Rows.braidMirrorsSpec).at F).post enc Tryd.prog Tryd.f6 false true false false) := by
 obtain ⟨places, hx⟩ := reads os enc
 refine returnsInHanded_of_row (C := Tryd.checked) (s := OpenSpec.ofChange Rows.braidMirrorsSpec) own started (by kernel_rfl) Tryd.func6
  (witness_row_at (enc := enc) (C := Tryd.checked) false (laidWorld os) #[.agg #[.int .i64 0, .slice none 0 0]] rfl (by kernel_rfl) (by kernel_rfl) (by kernel_rfl)
    (OpenSpec.preRow_of_cond 8 hx (by kernel_rfl) (fun k hk => by cases hk) (by kernel_rfl) (laid_met os))) ?_
 intro W base args ds gs before hval hW _ _ _ hL hsh _
 exact contract H enc W base args ds gs before hval hW hsh hL
theorem said : Rows.BraidMirrorsSaid :=
 OpenClaim.holds_of_cond 6 Tryd.f6 rfl rfl rfl rfl rfl rfl rfl ⟨rfl, rfl, rfl, rfl, rfl⟩ rfl rfl rfl rfl rfl (by kernel_rfl) Tryd.func6 (by kernel_rfl)
  (of_decide_eq_true (by kernel_rfl)) (by unfold Func.isWrapper; rw [if_neg (of_decide_eq_false (by kernel_rfl))]; exact ⟨rfl, rfl⟩)
  (fun os started H enc _ F => by rw [OpenClaim.pre_eq_preRow]; exact lifted os started H enc F)
theorem plain (f : FuncId) (fn : Func) (hf : Tryd.pinned.checked.prog.funcNamed "unravel/unravellaw33.BraidMirrors" = some f) (hfn : Tryd.pinned.checked.prog.funcs[f]? = some fn) :
 true = Tryd.pinned.checked.prog.looks [] ∧ ∀ (j : Nat) t, fn.params[j]? = some t → Tryd.pinned.checked.prog.wantsStandIn t = false := by
 obtain rfl : f = 6 := Option.some.inj ((show Tryd.prog.funcNamed "unravel/unravellaw33.BraidMirrors" = some 6 by kernel_rfl).symm.trans hf) |>.symm
 obtain rfl : fn = Tryd.f6 := (Option.some.inj (Tryd.func6.symm.trans hfn)).symm
 refine ⟨by kernel_rfl, fun j t ht => ?_⟩
 rw [Tryd.params6] at ht
 have hm : t = 24 := by simpa using Array.mem_of_getElem? ht
 subst hm
 exact (show Tryd.prog.wantsStandIn 24 = false by kernel_rfl)
theorem card : Rows.BraidMirrorsCardSaid :=
 Claim7.holds_tied_plain_at .later [] _ _ _ _ said (fun _ h => by cases h) (by kernel_rfl) (fun _ h => by cases h) braidMirrors_row_tie rfl ⟨rfl, rfl⟩ (by kernel_rfl) rfl plain (by kernel_rfl)
end Go.Proofs.YtcaoblilkgajoaaDoor.pBraidMirrors
