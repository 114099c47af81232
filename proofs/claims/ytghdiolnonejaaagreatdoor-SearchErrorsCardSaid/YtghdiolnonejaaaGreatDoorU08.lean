/-
 The texts Xv.
-/
import Derived.Test.YtghdiolnonejaaaGreatDoorS00
import Derived.Test.YtghdiolnonejaaaGreatDoorS02
import Derived.Test.YtghdiolnonejaaaGreatDoorS03
import Derived.Test.YtghdiolnonejaaaGreatDoorS04
import Derived.Test.YtghdiolnonejaaaGreatDoorS06
import Derived.Test.YtghdiolnonejaaaGreatDoorU00
import Derived.Test.YtghdiolnonejaaaGreatDoorU03
import Derived.Test.YtghdiolnonejaaaGreatDoorU04
import Derived.Test.YtghdiolnonejaaaGreatDoorU06
import Derived.BigQuiet
import Derived.Deep.AppendLies
import Derived.Deep.CutBlock
import Derived.Deep.DeepCutAuto
import Derived.Deep.DrawnRows
import Derived.Deep.Light
import Derived.Deep.LoopGhost
import Derived.Deep.QuietTactic
import Derived.Deep.RegionHeld3
import Derived.Deep.RegionLaw
import Derived.Deep.RegionWith
import Derived.Laws.AppendOwn
import Derived.Laws.MakeOwn
import Derived.Laws.OwnMore
import Derived.Laws.Rows
import Derived.Maps.AppendAt
import Derived.Outline
import Derived.RegionTactic
import Derived.Shelf.Spec.SlicesGrow
import Derived.StillTailTactics
import Derived.Test.YtghdiolnonejaaaGreatDoorRows
import Derived.Test.YtghdiolnonejaaaGreatDoorShelf
import Derived.WalkKit
import Derived.WalkLawsBesides
import Derived.WalkSpells
set_option linter.unusedVariables false
set_option linter.unusedSimpArgs false
section
namespace Go.Proofs.YtghdiolnonejaaaGreatDoor
open Go Go.RowKit
attribute [local go_sem ↓] Go.wp_at_zero Go.wp_at_succ
theorem mvs_apps (ms r:List Mv):mvs (ms ++ r) = mvs ms ++ mvs r := by unfold mvs; rw [List.flatMap_append]
structure AL (w:World) (dv:List Value) (b:Nat) (v:Value) (ms:List Mv) (W:World):Prop where
 d:Row W w.heap.size 24 dv
 o:W.ownsRow b 43 5 v ms.length (mvs ms)
 bel:Below w.heap.size w W
 lo:w.heap.size < b
 lo2:b ≤ W.heap.size
section
variable {w W W' W2:World} {dv:List Value} {b:Nat} {v v':Value} {ms r:List Mv}
theorem AL.below (h:AL w dv b v ms W) (hb:Below W.heap.size W W'):AL w dv b v ms W' :=
 ⟨h.d.below hb,own_below h.o hb,h.bel.trans (hb.mono h.bel.size),h.lo,Nat.le_trans h.lo2 hb.size⟩
theorem AL.far (h:AL w dv b v ms W):some w.heap.size ≠ v.ownBlock := fun e => by have := (h.o.lt _ e.symm).1; have := h.lo; omega
theorem AL.app (h:AL w dv b v ms W) (own:W2.ownsRow b 43 5 v' (ms.length + r.length) (mvs ms ++ mvs r)) (gr:W.grownBy W2 v.ownBlock):AL w dv b v' (ms ++ r) W2 := by
 refine ⟨h.d.grown gr h.far,?_,h.bel.grown gr h.bel.size (fun k hk => by have := (h.o.lt k hk).1; have := h.lo; omega),h.lo,Nat.le_trans h.lo2 gr.size⟩
 rw [mvs_apps,List.length_append]
 exact own
end
theorem cu_le {d:Pl.Dg} (hn:d.n ≤ 64):(sel d (cuC (4 * d.n + 1))).length ≤ 1028 := by
 have a:=cuL_len d (4 * d.n + 1)
 rw [cu_sel d _ (Nat.le_refl _)] at a
 omega
theorem un_le {d:Pl.Dg} (hn:d.n ≤ 64):(sel d (unC d.n)).length ≤ 64 := by
 have a:=unL_len d d.n
 rw [un_sel d _ (Nat.le_refl _)] at a
 omega
theorem up_le {d:Pl.Dg} (hn:d.n ≤ 64):(sel d (upNX d.n d.n)).length ≤ 4096 := by
 have a:=upX_len hn d.n
 rw [up_sel d _] at a
 omega
theorem pk_all {d:Pl.Dg} (hn:d.n ≤ 64) {F P:List Nat} (hF:∀ x y,x < 4 * d.n → y < 4 * d.n → (F.getD x 0 = F.getD y 0 ↔ Pl.Orb (Pl.nx d) x y)) (hP:∀ x y,x < d.n → y < d.n → (P.getD x 0 = P.getD y 0 ↔ Pl.Comp d x y)) :
 (if 64 < d.n + 2 then [] else pkX d F P (4 * d.n + 2)) = sel d (pkNX d.n (4 * d.n + 2)) ∧ (sel d (pkNX d.n (4 * d.n + 2))).length ≤ 399384 := by
 have a:=pkX_len hn F P (4 * d.n + 2)
 rw [pkX_sel hF hP _ (Nat.le_refl _)] at a
 refine ⟨?_,by omega⟩
 split
 ·rename_i h
  rw [pk_full h]
 ·exact pkX_sel hF hP _ (Nat.le_refl _)
set_option maxRecDepth 100000 in
set_option maxHeartbeats 8000000 in
theorem All_any (d:Pl.Dg) (hd:Pl.Valid d) (A B:Option Addr) (cp cq m:Nat) (w:World) (hm:m = 4 * d.n) (hg:DgAt w A B d) :
 Calls Tryz.prog 99 #[.agg #[.slice A d.n cp,.slice B m cq,.int .i64 d.lp]] w fun e w' => ∃ v,e = .returned v ∧ MovesIn w.heap.size w' v (allL d) ∧ Below w.heap.size w w' := by
 have HM:=hide hm
 have HG:=hide hg
 have HW:=hide (Pl.Valid.iff.1 hd).1
 have hn:=hd.wf.few
 clear hg hm
 have R0:=hide (row_at (W := w) (g := w.heap.size) (t := 24) (vs := [.slice A d.n cp,.slice B m cq,.int .i64 (d.lp:Int)]) rfl)
 have B0:=hide (show Below w.heap.size w (w.alloc (.cells #[.slice A d.n cp,.slice B m cq,.int .i64 (d.lp:Int)] 24)) from (Below.refl _ _).alloc (Nat.le_refl _) _)
 go_enter Tryz.func99,Tryz.ntmps99
 go_wp2_with fail
 refine (valid_yes d hd A B cp cq m _ HM.out (HG.out.keep B0.out)).mono ?_
 rintro e w1 ⟨rfl,hb1⟩
 have R1:=hide (R0.out.below hb1)
 have B1:=hide (B0.out.trans (hb1.mono B0.out.size))
 clear hb1
 obtain ⟨d0,d1,d2,d3⟩:=box3 R1.out
 go_wp2_with fail
 refine (curls_any d HW.out A B cp cq m _ HM.out (HG.out.keep B1.out)).mono ?_
 rintro e w2 ⟨v2,rfl,⟨b,hlb,hlb2,own2⟩,hb2⟩
 have hw1:w.heap.size < w1.heap.size:=R1.out.lt
 have Q2:=hide (show AL w [.slice A d.n cp,.slice B m cq,.int .i64 (d.lp:Int)] b v2 (sel d (cuC (4 * d.n + 1))) w2 from
  ⟨R1.out.below hb2,by rw [HM.out] at own2; rw [cu_sel d _ (Nat.le_refl _)] at own2; exact own2,B1.out.trans (hb2.mono B1.out.size),by omega,hlb2⟩)
 clear hb2 own2 R1 B1 R0 B0 d0 d1 d2 d3
 obtain ⟨d0,d1,d2,d3⟩:=box3 Q2.out.d
 go_wp2_with fail
 refine (uncurls_any d HW.out A B cp cq m _ HM.out (HG.out.keep Q2.out.bel)).mono ?_
 rintro e w3 ⟨v3,rfl,hv3,hb3⟩
 rw [un_sel d _ (Nat.le_refl _)] at hv3
 obtain ⟨A3,c3,rfl,src3⟩:=hv3.at.src
 have Q3:=hide (Q2.out.below hb3)
 have S3:=hide src3
 have lcu:=cu_le (d := d) hn
 have lun:=un_le (d := d) hn
 have lup:=up_le (d := d) hn
 have B3:(sel d (cuC (4 * d.n + 1))).length + (sel d (unC d.n)).length ≤ maxLen:=by unfold maxLen; omega
 have C3:((sel d (cuC (4 * d.n + 1))).length + (sel d (unC d.n)).length) * 40 ≤ 140737488355328:=by omega
 have D3:b ≤ w3.heap.size:=Q3.out.lo2
 obtain ⟨n0,hn0,hz0,hz1,hz2⟩:=info_parts moveInfo
 clear hb3 hv3 src3 d0 d1 d2 d3 Q2
 go_wp2_with (at_builtin; refine wpList_append_src _ (by rfl) _ _ 27 (by rfl) b 43 n0 (.agg #[.int .i64 0,.int .i64 0,.int .i64 0,.int .i64 0,.bool false]) 40 Tryz.underlying27 hn0 hz0 hz1 hz2 rfl v2 _ _ (by rfl) Q3.out.o A3 _ c3 _ (by rfl) S3.out B3 C3 D3 ?_; intro v4 w4 own4 grow4; obtain ⟨d0,d1,d2,d3⟩:=box3 (Q3.out.app own4 grow4).d; have Q4 := hide (Q3.out.app own4 grow4); clear own4 grow4)
 clear Q3 S3 B3 C3 D3
 refine (survey_any d hd A B cp cq m _ HM.out (HG.out.keep Q4.out.bel)).mono ?_
 rintro e w5 ⟨L,R,cl,cr,F,P,he,hsh,hF,hP,hb5⟩
 have Q5:=hide (Q4.out.below hb5)
 have HSH:=hide hsh
 obtain ⟨pe,pl⟩:=pk_all hn hF hP
 have PE:=hide pe
 rw [← HM.out] at he
 unfold sheetV at he
 subst he
 have hb5s:=hb5.size
 clear hb5 hsh hF hP pe d0 d1 d2 d3 Q4
 obtain ⟨d0,d1,d2,d3⟩:=box3 Q5.out.d
 go_wp2_with fail
 refine (pokes_any d HW.out F P A B L R cp cq cl cr m _ HM.out HSH.out).mono ?_
 rintro e w6 ⟨v6,rfl,hv6,hb6⟩
 rw [HM.out,PE.out] at hv6
 obtain ⟨A6,c6,rfl,src6⟩:=hv6.at.src
 have Q6:=hide (Q5.out.below hb6)
 have S6:=hide src6
 have B6:(sel d (cuC (4 * d.n + 1)) ++ sel d (unC d.n)).length + (sel d (pkNX d.n (4 * d.n + 2))).length ≤ maxLen:=by unfold maxLen; rw [List.length_append]; omega
 have C6:((sel d (cuC (4 * d.n + 1)) ++ sel d (unC d.n)).length + (sel d (pkNX d.n (4 * d.n + 2))).length) * 40 ≤ 140737488355328:=by rw [List.length_append]; omega
 have D6:b ≤ w6.heap.size:=Q6.out.lo2
 clear hb6 hv6 src6 d0 d1 d2 d3 Q5 HSH PE
 go_wp2_with (at_builtin; refine wpList_append_src _ (by rfl) _ _ 27 (by rfl) b 43 n0 (.agg #[.int .i64 0,.int .i64 0,.int .i64 0,.int .i64 0,.bool false]) 40 Tryz.underlying27 hn0 hz0 hz1 hz2 rfl v4 _ _ (by rfl) Q6.out.o A6 _ c6 _ (by rfl) S6.out B6 C6 D6 ?_; intro v7 w7 own7 grow7; obtain ⟨d0,d1,d2,d3⟩:=box3 (Q6.out.app own7 grow7).d; have Q7 := hide (Q6.out.app own7 grow7); clear own7 grow7)
 clear Q6 S6 B6 C6 D6
 refine (unpokes_any d HW.out A B cp cq m _ HM.out (HG.out.keep Q7.out.bel)).mono ?_
 rintro e w8 ⟨v8,rfl,hv8,hb8⟩
 rw [up_sel] at hv8
 obtain ⟨A8,c8,rfl,src8⟩:=hv8.at.src
 have Q8:=hide (Q7.out.below hb8)
 have S8:=hide src8
 have B8:(sel d (cuC (4 * d.n + 1)) ++ sel d (unC d.n) ++ sel d (pkNX d.n (4 * d.n + 2))).length + (sel d (upNX d.n d.n)).length ≤ maxLen:=by unfold maxLen; simp only [List.length_append]; omega
 have C8:((sel d (cuC (4 * d.n + 1)) ++ sel d (unC d.n) ++ sel d (pkNX d.n (4 * d.n + 2))).length + (sel d (upNX d.n d.n)).length) * 40 ≤ 140737488355328:=by simp only [List.length_append]; omega
 have D8:b ≤ w8.heap.size:=Q8.out.lo2
 clear hb8 hv8 src8 d0 d1 d2 d3 Q7
 go_wp2_with (at_builtin; refine wpList_append_src _ (by rfl) _ _ 27 (by rfl) b 43 n0 (.agg #[.int .i64 0,.int .i64 0,.int .i64 0,.int .i64 0,.bool false]) 40 Tryz.underlying27 hn0 hz0 hz1 hz2 rfl v7 _ _ (by rfl) Q8.out.o A8 _ c8 _ (by rfl) S8.out B8 C8 D8 ?_; intro v9 w9 own9 grow9; obtain ⟨d0,d1,d2,d3⟩:=box3 (Q8.out.app own9 grow9).d; have Q9 := hide (Q8.out.app own9 grow9); clear own9 grow9)
 clear Q8 S8 B8 C8 D8
 refine (slides_any d HW.out A B cp cq m _ HM.out (HG.out.keep Q9.out.bel)).mono ?_
 rintro e w10 ⟨v10,rfl,hv10,hb10⟩
 rw [HM.out] at hv10
 have lsl:=slL_len d (4 * d.n)
 obtain ⟨A10,c10,rfl,src10⟩:=hv10.src
 have Q10:=hide (Q9.out.below hb10)
 have S10:=hide src10
 have B10:(sel d (cuC (4 * d.n + 1)) ++ sel d (unC d.n) ++ sel d (pkNX d.n (4 * d.n + 2)) ++ sel d (upNX d.n d.n)).length + (slL d (4 * d.n)).length ≤ maxLen:=by unfold maxLen; simp only [List.length_append]; omega
 have C10:((sel d (cuC (4 * d.n + 1)) ++ sel d (unC d.n) ++ sel d (pkNX d.n (4 * d.n + 2)) ++ sel d (upNX d.n d.n)).length + (slL d (4 * d.n)).length) * 40 ≤ 140737488355328:=by simp only [List.length_append]; omega
 have D10:b ≤ w10.heap.size:=Q10.out.lo2
 clear hb10 hv10 src10 d0 d1 d2 d3 Q9
 go_wp2_with (at_builtin; refine wpList_append_src _ (by rfl) _ _ 27 (by rfl) b 43 n0 (.agg #[.int .i64 0,.int .i64 0,.int .i64 0,.int .i64 0,.bool false]) 40 Tryz.underlying27 hn0 hz0 hz1 hz2 rfl v9 _ _ (by rfl) Q10.out.o A10 _ c10 _ (by rfl) S10.out B10 C10 D10 ?_; intro v11 w11 own11 grow11; obtain ⟨d0,d1,d2,d3⟩:=box3 (Q10.out.app own11 grow11).d; have Q11 := hide (Q10.out.app own11 grow11); clear own11 grow11)
 go_ret
 exact ⟨v11,rfl,⟨b,by have := Q11.out.lo; omega,Q11.out.lo2,Q11.out.o⟩,Q11.out.bel⟩
end Go.Proofs.YtghdiolnonejaaaGreatDoor
end
