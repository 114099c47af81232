/-
 The texts Jm.
-/
import Derived.Test.YtghdiolnonejaaaGreatDoorS01
import Derived.Test.YtghdiolnonejaaaGreatDoorS02
import Derived.Test.YtghdiolnonejaaaGreatDoorS03
import Derived.Test.YtghdiolnonejaaaGreatDoorU14
import Derived.Test.YtghdiolnonejaaaGreatDoorU15
import Derived.Test.YtghdiolnonejaaaGreatDoorU31
import Derived.Test.YtghdiolnonejaaaGreatDoorU34
import Derived.BigQuiet
import Derived.Deep.AppendLies
import Derived.Deep.CutBlock
import Derived.Deep.CutRange
import Derived.Deep.DeepCutAuto
import Derived.Deep.DrawnRows
import Derived.Deep.Light
import Derived.Deep.LoopGhost
import Derived.Deep.QuietTactic
import Derived.Deep.RegionHeld3
import Derived.Deep.RegionLaw
import Derived.Deep.RegionWith
import Derived.Laws.AppendOwn
import Derived.Laws.MakeOwn
import Derived.Laws.OwnMore
import Derived.Laws.Rows
import Derived.Laws.Slices
import Derived.Lib.ItoaLen
import Derived.Lib.ItoaNum
import Derived.Lib.SmallJoins
import Derived.Maps.AppendAt
import Derived.Maps.OwnSet
import Derived.Outline
import Derived.RegionTactic
import Derived.Shelf.Spec.SlicesGrow
import Derived.StillTailTactics
import Derived.StringKeys
import Derived.Test.YtghdiolnonejaaaGreatDoorRows
import Derived.Test.YtghdiolnonejaaaGreatDoorShelf
import Derived.WalkKit
import Derived.WalkLawsBesides
import Derived.WalkMore
import Derived.WalkSpells
set_option linter.unusedVariables false
set_option linter.unusedSimpArgs false
section
namespace Go.Proofs.YtghdiolnonejaaaGreatDoor
open Go Go.RowKit
attribute [local go_sem ↓] Go.wp_at_zero Go.wp_at_succ
theorem plainElem_int_inv {P:Program} {e:TypeId} (he:P.underlying e = some (.int .i64)) {v:Value} {z:DataW Unit × List MemPlace} (h:plainElem P e v = some z):∃ x,v = .int .i64 x := by
 unfold plainElem at h
 rw [he] at h
 cases v <;> simp at h
 rename_i k x
 cases k <;> simp at h
 exact ⟨_,rfl⟩
set_option maxRecDepth 100000 in
theorem box2q {W:World} {g:Nat} {t:TypeId} {a b:Value} (h:Row W g t [a,b]):W.cell? ⟨g,0,none⟩ = some a ∧ W.cell? ⟨g,1,none⟩ = some b ∧ ∀ o,W.frozen? ⟨g,o,none⟩ = false :=
 ⟨h.cell (i := 0) (by simp),h.cell (i := 1) (by simp),h.free⟩
set_option maxRecDepth 100000 in
theorem MapQ.look {W:World} {b:Nat} {ks:List (List UInt8)} (h:MapQ W b ks) (s:ByteArray) (hs:s.size ≤ maxLen) :
 ∃ x,(Instr.lookup 94 (.map (some b)) (.string s) true).run Tryz.prog W = .ok (.tuple #[.int .i64 x,.bool (Pl.vb (s.data.toList ∈ ks))]) W := by
 obtain ⟨n,D,h1,h2,h3,h4⟩:=h
 obtain ⟨v,ps,hrun,hv⟩:=h1.look_ok skKey Tryz.underlying94 (Tryz.zeroValue3 W) (plainElem_int Tryz.underlying3 (by decide)) (WideMaps.keyOf_string_mk Tryz.underlying9 hs)
 rw [h4] at hrun
 obtain ⟨x,rfl⟩:=plainElem_int_inv Tryz.underlying3 hv
 exact ⟨x,hrun⟩
structure AddO (b0 gt gm:Nat) (v v':Value) (W W':World):Prop where
 bel:Below b0 W W'
 kp:∀ g,g < W.heap.size → g ≠ gt → g ≠ gm → v.ownBlock ≠ some g → W'.heap[g]? = W.heap[g]?
 nb:∀ g,g < W.heap.size → v.ownBlock ≠ some g → v'.ownBlock ≠ some g
def AddPost (b0 gt gm:Nat) (v:Value) (zs:List Nm) (ks:List (List UInt8)) (z:Nm) (key:List UInt8) (w:World) (e:Ending) (w':World):Prop :=
 (key ∈ ks → e = .returned (.bool false) ∧ Below w.heap.size w w') ∧
 (key ∉ ks → e = .returned (.bool true) ∧ ∃ v',TbL b0 gt gm v' (zs ++ [z]) (ks ++ [key]) w' ∧ AddO b0 gt gm v v' w w')
theorem add_end {w w1 w2 w3:World} {b0 gt gm N gn cn:Nat} {v:Value} {zs:List Nm} {ks:List (List UInt8)} {key:List UInt8} {z:Nm} {X:Obj}
 (T1:TbL b0 gt gm v zs ks w1) (B1:Below w.heap.size w w1) (hb0:b0 ≤ w.heap.size) (G2:w1.drew.grownBy w2 (some gm)) (Q2:MapQ w2 gm (ks ++ [key]))
 (G3:(w2.alloc X).drew.grownBy w3 v.ownBlock) (own3:w3.ownsRow b0 98 10 (.slice (some ⟨gn,0,none⟩) (N + 1) cn) (N + 1) (nms zs ++ z.v)) (hN:N = zs.length) (at3:v.ownBlock = some gn ∨ gn = w2.heap.size + 1) (hT:DgT w z.A z.B z.a.d) :
 TbL b0 gt gm (.slice (some ⟨gn,0,none⟩) (N + 1) cn) (zs ++ [z]) (ks ++ [key]) (w3.setCell ⟨gt,0,none⟩ (.slice (some ⟨gn,0,none⟩) (N + 1) cn)) ∧ AddO b0 gt gm v (.slice (some ⟨gn,0,none⟩) (N + 1) cn) w (w3.setCell ⟨gt,0,none⟩ (.slice (some ⟨gn,0,none⟩) (N + 1) cn)) := by
 have s01:=B1.size
 have s12:w1.heap.size ≤ w2.heap.size:=G2.size
 have s23:w2.heap.size + 1 ≤ w3.heap.size:=by
  have:=G3.size
  have e:(w2.alloc X).drew.heap.size = w2.heap.size + 1:=World.size_alloc w2 X
  omega
 have hv:=ownsRow_block T1.own
 have hbx:w1.heap[gt]? = some (.cells #[v,.map (some gm)] 96 (0,0)):=T1.box
 have hgtl:=T1.box.lt
 have hgml:=T1.mp.lt
 have hlt:=T1.lt
 have hlm:=T1.lm
 have ne1:gt ≠ gm:=fun e => by
  obtain ⟨es,cl,h2⟩:=T1.mp.obj
  rw [← e,hbx] at h2
  injection h2 with h2
  cases h2
 have ne2:v.ownBlock ≠ some gt:=fun e => by
  obtain ⟨cs,fr,h2⟩:=hv gt e
  rw [hbx] at h2
  injection h2 with h2
  injection h2 with _ h2
  exact absurd h2 (by decide)
 have ne3:v.ownBlock ≠ some gm:=fun e => by
  obtain ⟨cs,fr,h2⟩:=hv gm e
  obtain ⟨es,cl,h3⟩:=T1.mp.obj
  rw [h3] at h2
  injection h2 with h2
  cases h2
 have hvl:∀ g,v.ownBlock = some g → g < w1.heap.size:=fun g hg => by
  obtain ⟨cs,fr,h2⟩:=hv g hg
  exact lt_of_heap h2
 have F3:∀ g,g < w2.heap.size → v.ownBlock ≠ some g → w3.heap[g]? = w2.heap[g]?:=fun g hg n3 => by
  rw [G3.block g (show g < (w2.alloc X).heap.size by rw [World.size_alloc]; omega) (fun e => n3 e.symm)]
  show (w2.alloc X).heap[g]? = _
  rw [Below.heap_alloc _ _ _ hg]
 have F:∀ g,g < w1.heap.size → g ≠ gt → g ≠ gm → v.ownBlock ≠ some g → (w3.setCell ⟨gt,0,none⟩ (.slice (some ⟨gn,0,none⟩) (N + 1) cn)).heap[g]? = w1.heap[g]?:=fun g hg n1 n2 n3 => by
  rw [Below.heap_setCell _ _ _ _ (show g ≠ (⟨gt,0,none⟩:Addr).block from n1),F3 g (by omega) n3,G2.block g hg (fun e => n2 (by injection e))]
  rfl
 have K:∀ t,t ≠ 96 → t ≠ 98 → KpT t w1 (w3.setCell ⟨gt,0,none⟩ (.slice (some ⟨gn,0,none⟩) (N + 1) cn)):=fun t h1 h2 g cs fr hg => by
  refine (F g (lt_of_heap hg) (fun e => ?_) (fun e => ?_) (fun e => ?_)).trans hg
  ·rw [e,hbx] at hg
   injection hg with hg
   injection hg with _ hg
   exact h1 hg.symm
  ·obtain ⟨es,cl,h3⟩:=T1.mp.obj
   rw [e,h3] at hg
   injection hg with hg
   cases hg
  ·obtain ⟨cs',fr',h3⟩:=hv g e
   rw [hg] at h3
   injection h3 with h3
   injection h3 with _ h3
   exact h2 h3
 have hgn:(Value.slice (some ⟨gn,0,none⟩) (N + 1) cn).ownBlock = some gn:=rfl
 have ne4:gn ≠ gt:=fun e => by
  rcases at3 with h | h
  ·exact ne2 (by rw [h,e])
  ·omega
 have bx3:Row w3 gt 96 [v,.map (some gm)]:=(F3 gt (by omega) ne2).trans ((G2.block gt hgtl (fun e => ne1 (by injection e))).trans hbx)
 have bel4:Below b0 w (w3.setCell ⟨gt,0,none⟩ (.slice (some ⟨gn,0,none⟩) (N + 1) cn)) :=
  ((((((B1.mono hb0).drew.grown G2 (show b0 ≤ w1.drew.heap.size from by show b0 ≤ w1.heap.size; omega) (fun k hk => by injection hk with hk; omega)).alloc (by omega) X).drew).grown G3 (show b0 ≤ (w2.alloc X).heap.size by rw [World.size_alloc]; omega) (fun k hk => (T1.own.lt k hk).1)).setCell (show b0 ≤ (⟨gt,0,none⟩:Addr).block from hlt) _)
 refine ⟨⟨?_,?_,fun y hy => ?_,?_,hlt,hlm⟩,bel4,fun g hg n1 n2 n3 => ?_,fun g hg n3 => ?_⟩
 ·exact bx3.set 0 _
 ·rw [nms_app,List.length_append,List.length_singleton,← hN]
  exact ownsRow_setCell_other own3 (by rw [hgn]; intro e; injection e with e; exact ne4 e) _
 ·rcases List.mem_append.1 hy with hy | hy
  ·exact (T1.nt y hy).kp (K _ (by decide) (by decide))
  ·rw [List.mem_singleton.1 hy]
   exact (hT.keep B1).kp (K _ (by decide) (by decide))
 ·refine Q2.same ?_
  rw [Below.heap_setCell _ _ _ _ (show gm ≠ (⟨gt,0,none⟩:Addr).block from fun e => ne1 e.symm),F3 gm (by omega) ne3]
 ·rw [F g (by omega) n1 n2 n3]
  exact B1.block g hg
 ·rw [hgn]
  intro e
  injection e with e
  rcases at3 with h | h
  ·exact n3 (by rw [h,e])
  ·omega
set_option maxRecDepth 100000 in
set_option maxHeartbeats 4000000 in
theorem add_any (b0 gt gm:Nat) (v:Value) (zs:List Nm) (ks:List (List UInt8)) (z:Nm) (A B:Option Addr) (n cp m cq:Nat) (lp k x y s:Int) (o:Bool) (fr ds:Int) (sk:ByteArray) (w:World)
 (h:TbL b0 gt gm v zs ks w) (hz:z.v = [.slice A n cp,.slice B m cq,.int .i64 lp,.int .i64 k,.int .i64 x,.int .i64 y,.int .i64 s,.bool o,.int .i64 fr,.int .i64 ds]) (hT:DgT w z.A z.B z.a.d) (hb0:b0 ≤ w.heap.size) (hzs:zs.length < 100000) (hks:ks.length < 1000000) (hsk:sk.size ≤ 180000) (hfr:(Lit.int .i64 fr).wf = true) :
 Calls Tryz.prog 64 #[.pointer (some ⟨gt,0,none⟩),.agg #[.slice A n cp,.slice B m cq,.int .i64 lp,.int .i64 k,.int .i64 x,.int .i64 y,.int .i64 s,.bool o,.int .i64 fr,.int .i64 ds],.string sk] w (AddPost b0 gt gm v zs ks z sk.data.toList w) := by
 have H0:=hide h
 have HZ:=hide hz
 have HT:=hide hT
 have HF:=hide hfr
 obtain ⟨aL,cL,rfl⟩:=owns_slice h.own
 obtain ⟨N,hN⟩:∃ n,n = zs.length := ⟨_,rfl⟩
 have b1:=(Below.refl w.heap.size w).alloc (Nat.le_refl _) (.cells #[.slice A n cp,.slice B m cq,.int .i64 lp,.int .i64 k,.int .i64 x,.int .i64 y,.int .i64 s,.bool o,.int .i64 fr,.int .i64 ds] 98)
 have X1:=hide (row_at (W := w) (g := w.heap.size) (t := 98) (vs := [.slice A n cp,.slice B m cq,.int .i64 lp,.int .i64 k,.int .i64 x,.int .i64 y,.int .i64 s,.bool o,.int .i64 fr,.int .i64 ds]) rfl)
 have T1:=hide (h.below b1)
 have B1:=hide b1
 have S1:=hide (World.size_alloc w (.cells #[.slice A n cp,.slice B m cq,.int .i64 lp,.int .i64 k,.int .i64 x,.int .i64 y,.int .i64 s,.bool o,.int .i64 fr,.int .i64 ds] 98))
 rw [← hN] at hzs ⊢
 have HN:=hide hN
 clear h hz hT hfr b1 hN
 go_enter Tryz.func64,Tryz.ntmps64
 go_upto_region 1 with fail
 obtain ⟨w1,hw1⟩:∃ W:World,W = w.alloc (.cells #[.slice A n cp,.slice B m cq,.int .i64 lp,.int .i64 k,.int .i64 x,.int .i64 y,.int .i64 s,.bool o,.int .i64 fr,.int .i64 ds] 98) := ⟨_,rfl⟩
 rw [← hw1] at X1 T1 B1 S1 ⊢
 clear hw1
 obtain ⟨q0,q1,q2⟩:=box2q T1.out.box
 rw [← HN.out] at q0
 obtain ⟨c0,c1,c2,c3,c4,c5,c6,c7,c8,c9,cf⟩:=box10 X1.out
 obtain ⟨xv,hlook⟩:=T1.out.mp.look sk (by unfold maxLen; omega)
 by_cases hk:sk.data.toList ∈ ks
 ·rw [Pl.vb_true hk] at hlook
  have HK:=hide hk
  clear hk
  go_wp2
  go_ret
  exact ⟨fun _ => ⟨rfl,B1.out⟩,fun h => absurd HK.out h⟩
 ·rw [Pl.vb_false hk] at hlook
  have HK:=hide hk
  clear hk
  go_upto_region 4 with fail
  obtain ⟨w2,r2,qd,kd,gd⟩:=MapQ.upd (W := w1.drew) T1.out.mp.drew (sk := sk) (z := fr) (by unfold maxLen; omega) (by unfold maxLen; omega) HF.out
  have Q2:=hide qd
  have K2:=hide kd
  have G2:=hide gd
  clear qd kd gd hlook
  go_region
  go_upto_region 5 with fail
  obtain ⟨i0,hi0,hx0,hx1,hx2⟩:=info_parts nodeInfoS
  have K1:∀ t,KpT t w1 w2:=fun t => K2.out t
  have BX2:=hide (T1.out.box.kp (K1 _))
  have XX2:=hide (X1.out.kp (K1 _))
  have OW2:=hide (own_kp T1.out.own (K1 _))
  have NE:=hide (show some gt ≠ (Value.slice aL N cL).ownBlock from fun e => by
   obtain ⟨cs,fr,h2⟩:=ownsRow_block T1.out.own gt (by rw [← HN.out]; exact e.symm)
   have h3:=T1.out.box
   unfold Row at h3
   rw [h3] at h2
   injection h2 with h2
   injection h2 with _ h2
   exact absurd h2 (by decide))
  rw [← HN.out] at OW2
  have hgt2:gt < w2.heap.size:=BX2.out.lt
  have hw2:w.heap.size < w2.heap.size:=XX2.out.lt
  have RR:∀ (X:Obj),Row (w2.alloc X).drew gt 96 [.slice aL N cL,.map (some gm)]:=fun X => by
   have:=BX2.out
   rw [← HN.out] at this
   exact (this.alloc X).drew
  have RH:=hide RR
  clear K1 q0 q1 q2 c0 c1 c2 c3 c4 c5 c6 c7 c8 c9 cf RR
  have RB:=BX2.out
  rw [← HN.out] at RB
  obtain ⟨q0,q1,q2⟩:=box2q RB
  obtain ⟨c0,c1,c2,c3,c4,c5,c6,c7,c8,c9,cf⟩:=box10 XX2.out
  clear RB
  have lb:b0 ≤ (w2.alloc (.cells #[.slice A n cp,.slice B m cq,.int .i64 lp,.int .i64 k,.int .i64 x,.int .i64 y,.int .i64 s,.bool o,.int .i64 fr,.int .i64 ds] 98)).drew.heap.size:=by show b0 ≤ (w2.alloc _).heap.size; rw [World.size_alloc]; omega
  have lsz:(w2.alloc (.cells #[.slice A n cp,.slice B m cq,.int .i64 lp,.int .i64 k,.int .i64 x,.int .i64 y,.int .i64 s,.bool o,.int .i64 fr,.int .i64 ds] 98)).drew.heap.size = w2.heap.size + 1:=by show (w2.alloc _).heap.size = _; rw [World.size_alloc]
  have LB:=hide lb
  have LSZ:=hide lsz
  have ONES:=hide (show ∀ u ∈ ([.slice A n cp,.slice B m cq,.int .i64 lp,.int .i64 k,.int .i64 x,.int .i64 y,.int .i64 s,.bool o,.int .i64 fr,.int .i64 ds]:List Value),u.oneCell' = true by simp [Value.oneCell'])
  have OWA:=hide ((OW2.out.alloc (.cells #[.slice A n cp,.slice B m cq,.int .i64 lp,.int .i64 k,.int .i64 x,.int .i64 y,.int .i64 s,.bool o,.int .i64 fr,.int .i64 ds] 98)).drew)
  clear lb lsz
  have mx1:N + 1 ≤ maxLen:=by unfold maxLen; omega
  have mx2:(N + 1) * 112 ≤ 140737488355328:=by omega
  go_region_law
   ((refine step_append_lies _ (by rfl) _ _ 93 (by rfl) b0 98 i0 _ 10 112 Tryz.underlying93 hi0 hx0 hx1 hx2 rfl (by omega) (.slice aL N cL) N (nms zs) (by rfl) OWA.out ⟨w2.heap.size,0,none⟩ 1 1 [.slice A n cp,.slice B m cq,.int .i64 lp,.int .i64 k,.int .i64 x,.int .i64 y,.int .i64 s,.bool o,.int .i64 fr,.int .i64 ds] (by rfl) (by rfl) (World.news_of_block (cs := #[.slice A n cp,.slice B m cq,.int .i64 lp,.int .i64 k,.int .i64 x,.int .i64 y,.int .i64 s,.bool o,.int .i64 fr,.int .i64 ds]) (t := 98) (fr := (0,0)) (heap_alloc_new w2 _)) ONES.out (by omega) mx1 mx2 LB.out (w2.heap.size + 1) LSZ.out ?_; intro gn cn w3 own3 gr3 at3 lt3; have bx3 := (RH.out _).grown gr3 NE.out; obtain ⟨r0,r1,r2⟩:=box2q bx3; have hl3 := bx3.lt))
  all_goals (go_wp2; go_ret)
  all_goals (
   refine ⟨fun h => absurd h HK.out,fun _ => ⟨rfl,.slice (some ⟨gn,0,none⟩) (N + 1) cn,?_⟩⟩
   have T1':=T1.out
   rw [← HN.out] at T1'
   exact add_end T1' B1.out hb0 G2.out Q2.out gr3 (by rw [HZ.out]; exact own3) HN.out at3 HT.out)
end Go.Proofs.YtghdiolnonejaaaGreatDoor
end
