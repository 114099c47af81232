/-
 The texts Mb.
-/
import Derived.Test.YtghdiolnonejaaaGreatDoorS00
import Derived.Test.YtghdiolnonejaaaGreatDoorS01
import Derived.Test.YtghdiolnonejaaaGreatDoorS02
import Derived.Test.YtghdiolnonejaaaGreatDoorS03
import Derived.Test.YtghdiolnonejaaaGreatDoorS04
import Derived.Test.YtghdiolnonejaaaGreatDoorS07
import Derived.Test.YtghdiolnonejaaaGreatDoorU00
import Derived.Test.YtghdiolnonejaaaGreatDoorU06
import Derived.Test.YtghdiolnonejaaaGreatDoorU12
import Derived.Test.YtghdiolnonejaaaGreatDoorU14
import Derived.Test.YtghdiolnonejaaaGreatDoorU16
import Derived.BigQuiet
import Derived.Deep.AppendLies
import Derived.Deep.CutBlock
import Derived.Deep.DeepCutAuto
import Derived.Deep.DrawnRows
import Derived.Deep.Light
import Derived.Deep.LoopGhost
import Derived.Deep.QuietTactic
import Derived.Deep.RegionHeld3
import Derived.Deep.RegionLaw
import Derived.Deep.RegionWith
import Derived.Laws.AppendOwn
import Derived.Laws.MakeOwn
import Derived.Laws.OwnMore
import Derived.Laws.Rows
import Derived.Laws.Slices
import Derived.Maps.AppendAt
import Derived.Outline
import Derived.RegionTactic
import Derived.Shelf.Spec.SlicesGrow
import Derived.StillTailTactics
import Derived.Test.YtghdiolnonejaaaGreatDoorRows
import Derived.Test.YtghdiolnonejaaaGreatDoorShelf
import Derived.WalkKit
import Derived.WalkLawsBesides
import Derived.WalkSpells
set_option linter.unusedVariables false
set_option linter.unusedSimpArgs false
section
namespace Go.Proofs.YtghdiolnonejaaaGreatDoor
open Go Go.RowKit
attribute [local go_sem ↓] Go.wp_at_zero Go.wp_at_succ
theorem dn_valid {d:Pl.Dg} (hd:Pl.Valid d):Pl.Valid (dnD d) := by
 suffices h:∀ n,∀ d:Pl.Dg,Pl.Valid d → d.n ≤ n → Pl.Valid (dnD d) from h d.n d hd (Nat.le_refl _)
 intro n
 induction n with
 | zero =>
   intro d hd h0
   rw [(dn_stop (rem_flat (by omega))).1]; exact hd
 | succ n ih =>
   intro d hd hn
   cases hr:remL d with
   | nil => rw [(dn_stop hr).1]; exact hd
   | cons z l =>
     have hz:z ∈ remL d:=by rw [hr]; exact List.mem_cons_self
     have hl:=rem_less hd hz
     rw [(dn_next hd hr).1]
     exact ih _ (ap_ok hd (rem_ok hz).1).1 (by omega)
def DownPost (r:Pl.Dg) (l:List Mv) (w:World) (e:Ending) (w':World):Prop := ∃ (A9 B9:Option Addr) (c8 c9:Nat) (v:Value),e = .returned (.tuple #[.agg #[.slice A9 r.n c8,.slice B9 (4 * r.n) c9,.int .i64 r.lp],v,.int .i64 0]) ∧ DgAt w' A9 B9 r ∧ MovesIn w.heap.size w' v l ∧ Below w.heap.size w w'
theorem descend_n (d:Pl.Dg) (hd:Pl.Valid d) (A B:Option Addr) (n cp cq m lp:Nat) (w:World) (hn:n = d.n) (hl:lp = d.lp) (hm:m = 4 * d.n) (hg:DgAt w A B d) :
 Calls Tryz.prog 22 #[.agg #[.slice A n cp,.slice B m cq,.int .i64 (lp:Int)]] w (DnPost A B d w) := by
 subst hn
 subst hl
 exact descend_any d hd A B cp cq m w hm hg
set_option maxRecDepth 100000 in
set_option maxHeartbeats 4000000 in
theorem Down_any (d:Pl.Dg) (hd:Pl.Valid d) (A B:Option Addr) (cp cq m:Nat) (w:World) (hm:m = 4 * d.n) (hg:DgAt w A B d) :
 Calls Tryz.prog 9 #[.agg #[.slice A d.n cp,.slice B m cq,.int .i64 d.lp]] w (DownPost (dnD d) (dnM d) w) := by
 have HM:=hide hm
 have HG:=hide hg
 have hdn:=hd.wf.few
 clear hm hg
 have X0:=hide ((row_at (W := w) (g := w.heap.size) (t := 24) (vs := [.slice A d.n cp,.slice B m cq,.int .i64 (d.lp:Int)]) rfl).alloc (.cells #[.slice none 0 0,.slice none 0 0,.int .i64 0] 24))
 have S0:=hide (row_at (W := w.alloc (.cells #[.slice A d.n cp,.slice B m cq,.int .i64 (d.lp:Int)] 24)) (g := w.heap.size + 1) (t := 24) (vs := [.slice none 0 0,.slice none 0 0,.int .i64 0]) (by simp))
 have B0:=hide (show Below w.heap.size w ((w.alloc (.cells #[.slice A d.n cp,.slice B m cq,.int .i64 (d.lp:Int)] 24)).alloc (.cells #[.slice none 0 0,.slice none 0 0,.int .i64 0] 24)) from ((Below.refl _ _).alloc (Nat.le_refl _) _).alloc (by simp) _)
 go_enter Tryz.func9,Tryz.ntmps9
 go_wp2_with fail
 refine (valid_yes d hd A B cp cq m _ HM.out (HG.out.keep B0.out)).mono ?_
 rintro e w1 ⟨rfl,hb1⟩
 have X1:=hide (X0.out.below hb1)
 have S1:=hide (S0.out.below hb1)
 have B1:=hide (B0.out.trans (hb1.mono B0.out.size))
 clear hb1 X0 S0 B0
 obtain ⟨d0,d1,d2,d3⟩:=box3 X1.out
 go_wp2_with fail
 refine (clone_all d A B cp cq m _ HM.out (HG.out.keep B1.out) hdn).mono ?_
 rintro e w2 ⟨A9,B9,c8,c9,rfl,hT,hb2⟩
 have S2:=hide (S1.out.below hb2)
 have B2:=hide (B1.out.trans (hb2.mono B1.out.size))
 have HT:=hide hT
 clear hb2 X1 S1 B1 hT d0 d1 d2 d3
 go_wp2_with fail
 refine (descend_n d hd A9 B9 d.n c8 c9 m d.lp _ rfl rfl HM.out HT.out.at).mono ?_
 rintro e w3 ⟨A8,B8,b8,b9,v,rfl,hg8,hv8,hb3⟩
 have hs2:=S2.out.lt
 have hT8:DgT w3 A8 B8 (dnD d):=by
  rcases hg8 with h | ⟨h1,h2,h3⟩
  ·exact h
  ·rw [h1,h2,h3]; exact HT.out.keep hb3
 have hv:=dn_valid hd
 have hrn:=hv.wf.few
 have hrl:=hv.wf.lp
 obtain ⟨N8,hN8⟩:∃ n,n = (dnD d).n := ⟨_,rfl⟩
 obtain ⟨M8,hM8⟩:∃ n,n = 4 * (dnD d).n := ⟨_,rfl⟩
 obtain ⟨L8,hL8⟩:∃ n,n = (dnD d).lp := ⟨_,rfl⟩
 rw [← hM8,← hN8,← hL8]
 rw [← hN8] at hrn
 rw [← hL8] at hrl
 have HN8:=hide hN8
 have HM8:=hide hM8
 have HL8:=hide hL8
 have b4:=(Below.refl w3.heap.size w3).alloc (Nat.le_refl _) (.cells #[.slice A8 N8 b8,.slice B8 M8 b9,.int .i64 (L8:Int)] 24)
 have S3:=hide ((S2.out.below hb3).below b4)
 have R3:=hide (row_at (W := w3) (g := w3.heap.size) (t := 24) (vs := [.slice A8 N8 b8,.slice B8 M8 b9,.int .i64 (L8:Int)]) rfl)
 have T3:=hide hT8
 have B3:=hide (B2.out.trans (hb3.mono B2.out.size))
 obtain ⟨b,hb1,hb2,own⟩:=hv8
 obtain ⟨A7,c7,hs7⟩:=owns_slice own
 subst hs7
 have OW:=hide own
 have S3':=hide (S2.out.below hb3)
 have hw3:w.heap.size + 1 < w3.heap.size:=(S2.out.below hb3).lt
 have hw2:w.heap.size + 1 < b:=by omega
 clear hb3 own hg8 hT8 hN8 hM8 hL8 b4 HT S2 B2 hv
 obtain ⟨e0,e1,e2,e3⟩:=box3 R3.out
 obtain ⟨f0,f1,f2,f3⟩:=box3 S3'.out
 go_wp2
 have RR:=row3 S3'.out rfl (.slice A8 N8 b8) (.slice B8 M8 b9) (.int .i64 (L8:Int))
 have BB:=below3 B3.out (show w.heap.size ≤ w.heap.size + 1 by omega) (.slice A8 N8 b8) (.slice B8 M8 b9) (.int .i64 (L8:Int))
 have OO:=ownsRow_setCell_below (ownsRow_setCell_below (ownsRow_setCell_below OW.out (a := ⟨w.heap.size + 1,0,none⟩) (by show w.heap.size + 1 < _; omega) (.slice A8 N8 b8)) (a := ⟨w.heap.size + 1,1,none⟩) (by show w.heap.size + 1 < _; omega) (.slice B8 M8 b9)) (a := ⟨w.heap.size + 1,2,none⟩) (by show w.heap.size + 1 < _; omega) (.int .i64 (L8:Int))
 have TT:=T3.out.set3 S3'.out (.slice A8 N8 b8) (.slice B8 M8 b9) (.int .i64 (L8:Int))
 refine bodyPost_ret (v := .tuple #[.agg #[.slice A8 N8 b8,.slice B8 M8 b9,.int .i64 (L8:Int)],.slice A7 (dnM d).length c7,.int .i64 0]) ?_ rfl ?_
 ·obtain ⟨r0,r1,r2,r3⟩:=box3 (RR.alloc (.cells #[.slice A8 N8 b8,.slice B8 M8 b9,.int .i64 (L8:Int)] 24))
  simp [results,Tryz.results9,go_sem,r0,r1,r2]
 ·refine ⟨A8,B8,b8,b9,_,by rw [HN8.out,HM8.out,HL8.out],(TT.al _).at,⟨b,by omega,by simp; omega,OO.alloc _⟩,BB.alloc BB.size _⟩
end Go.Proofs.YtghdiolnonejaaaGreatDoor
end
