/-
 The texts Xx, Dn.
-/
import Derived.Test.YtghdiolnonejaaaGreatDoorS00
import Derived.Test.YtghdiolnonejaaaGreatDoorS01
import Derived.Test.YtghdiolnonejaaaGreatDoorS02
import Derived.Test.YtghdiolnonejaaaGreatDoorS03
import Derived.Test.YtghdiolnonejaaaGreatDoorS04
import Derived.Test.YtghdiolnonejaaaGreatDoorS05
import Derived.Test.YtghdiolnonejaaaGreatDoorS07
import Derived.Test.YtghdiolnonejaaaGreatDoorU00
import Derived.Test.YtghdiolnonejaaaGreatDoorU04
import Derived.Test.YtghdiolnonejaaaGreatDoorU06
import Derived.Test.YtghdiolnonejaaaGreatDoorU08
import Derived.Test.YtghdiolnonejaaaGreatDoorU09
import Derived.BigQuiet
import Derived.Deep.AppendLies
import Derived.Deep.CutBlock
import Derived.Deep.DeepCutAuto
import Derived.Deep.DrawnRows
import Derived.Deep.Light
import Derived.Deep.LoopGhost
import Derived.Deep.QuietTactic
import Derived.Deep.RegionHeld3
import Derived.Deep.RegionLaw
import Derived.Deep.RegionWith
import Derived.Laws.AppendOwn
import Derived.Laws.MakeOwn
import Derived.Laws.OwnMore
import Derived.Laws.Rows
import Derived.Maps.AppendAt
import Derived.Outline
import Derived.RegionTactic
import Derived.Shelf.Spec.SlicesGrow
import Derived.StillTailTactics
import Derived.Test.YtghdiolnonejaaaGreatDoorRows
import Derived.Test.YtghdiolnonejaaaGreatDoorShelf
import Derived.WalkKit
import Derived.WalkLawsBesides
import Derived.WalkSpells
set_option linter.unusedVariables false
set_option linter.unusedSimpArgs false
section
namespace Go.Proofs.YtghdiolnonejaaaGreatDoor
open Go Go.RowKit
attribute [local go_sem ↓] Go.wp_at_zero Go.wp_at_succ
theorem mv_get:∀ (ms:List Mv) (j:Nat) (z:Mv),ms[j]? = some z → ∀ (i:Nat) (u:Value),z.cells[i]? = some u → (mvs ms)[j * 5 + i]? = some u
 | [],j,z,h,_,_,_ => by cases h
 | m :: ms, 0, z, h, i, u, hu => by
   obtain rfl:m = z := by simpa using h
   have hi:i < m.cells.length:=(List.getElem?_eq_some_iff.1 hu).1
   show (m.cells ++ mvs ms)[0 * 5 + i]? = some u
   rw [Nat.zero_mul,Nat.zero_add,List.getElem?_append_left hi,hu]
 | m :: ms, j + 1, z, h, i, u, hu => by
   have ih:=mv_get ms j z (by simpa using h) i u hu
   show (m.cells ++ mvs ms)[(j + 1) * 5 + i]? = some u
   have e:m.cells.length = 5:=rfl
   rw [List.getElem?_append_right (by rw [e]; omega),e,← ih]
   congr 1
   omega
theorem mv_val {w:World} {v:Value} {ms:List Mv} (h:MovesAt w v ms):∃ (A:Option Addr) (c:Nat),v = .slice A ms.length c ∧ (0 < ms.length → ∃ g,A = some ⟨g,0,none⟩ ∧ g < w.heap.size ∧ ∀ (j:Nat) (z:Mv),ms[j]? = some z → ∀ (i:Nat) (u:Value),z.cells[i]? = some u → w.cell? ⟨g,j * 5 + i,none⟩ = some u) := by
 obtain ⟨base,h⟩:=h
 obtain ⟨A,c,rfl⟩:=owns_slice h
 refine ⟨A,c,rfl,fun hp => ?_⟩
 obtain ⟨g,cap,e,_,hg⟩:=World.ownsRow.form h hp
 injection e with e1 _ _
 subst e1
 refine ⟨g,rfl,hg,fun j z hz i u hu => ?_⟩
 have hj:j < ms.length:=(List.getElem?_eq_some_iff.1 hz).1
 have hi:i < 5:=(List.getElem?_eq_some_iff.1 hu).1
 rw [World.ownsRow.cellAt h (j * 5 + i) (by omega)]
 exact mv_get ms j z hz i u hu
def MovesV (w:World) (A:Option Addr) (n:Nat) (ms:List Mv):Prop := n = ms.length ∧ (0 < n → ∃ g,A = some ⟨g,0,none⟩ ∧ g < w.heap.size ∧ ∀ (j:Nat) (z:Mv),ms[j]? = some z → ∀ (i:Nat) (u:Value),z.cells[i]? = some u → w.cell? ⟨g,j * 5 + i,none⟩ = some u)
theorem MovesV.keep {w w':World} {A:Option Addr} {n:Nat} {ms:List Mv} (h:MovesV w A n ms) (hb:Below w.heap.size w w'):MovesV w' A n ms :=
 ⟨h.1,fun hp => let ⟨g,e,hl,hc⟩:=h.2 hp; ⟨g,e,Nat.lt_of_lt_of_le hl hb.size,fun j z hz i u hu => cell_below (hc j z hz i u hu) hb⟩⟩
theorem MovesAt.mv {w:World} {v:Value} {ms:List Mv} (h:MovesAt w v ms):∃ (A:Option Addr) (c:Nat),v = .slice A ms.length c ∧ MovesV w A ms.length ms := by
 obtain ⟨A,c,e,h2⟩:=mv_val h
 exact ⟨A,c,e,rfl,h2⟩
theorem MovesV.at_ {w:World} {A:Option Addr} {n j:Nat} {ms:List Mv} (h:MovesV w A n ms) (hj:j < n):∃ g k x y s o,A = some ⟨g,0,none⟩ ∧ g < w.heap.size ∧ ms[j]? = some ⟨k,x,y,s,o⟩ ∧ w.cell? ⟨g,j * 5,none⟩ = some (.int .i64 k) ∧ w.cell? ⟨g,j * 5 + 1,none⟩ = some (.int .i64 x) ∧ w.cell? ⟨g,j * 5 + 2,none⟩ = some (.int .i64 y) ∧ w.cell? ⟨g,j * 5 + 3,none⟩ = some (.int .i64 s) ∧ w.cell? ⟨g,j * 5 + 4,none⟩ = some (.bool o) := by
 obtain ⟨g,e,hl,hc⟩:=h.2 (by omega)
 obtain ⟨z,hz⟩:∃ z,ms[j]? = some z := ⟨_,List.getElem?_eq_getElem (by rw [← h.1]; exact hj)⟩
 obtain ⟨k,x,y,s,o⟩:=z
 exact ⟨g,k,x,y,s,o,e,hl,hz,hc j _ hz 0 _ rfl,hc j _ hz 1 _ rfl,hc j _ hz 2 _ rfl,hc j _ hz 3 _ rfl,hc j _ hz 4 _ rfl⟩
def eqM (a b:Mv):Bool := a.kind == b.kind && a.x == b.x && a.y == b.y && a.sign == b.sign && a.over == b.over
set_option maxRecDepth 100000 in
set_option maxHeartbeats 4000000 in
theorem Removing_any (d:Pl.Dg) (hd:Pl.Valid d) (A B:Option Addr) (cp cq m:Nat) (w:World) (hm:m = 4 * d.n) (hg:DgAt w A B d) :
 Calls Tryz.prog 29 #[.agg #[.slice A d.n cp,.slice B m cq,.int .i64 d.lp]] w fun e w' => ∃ v,e = .returned v ∧ MovesIn w.heap.size w' v (remL d) ∧ Below w.heap.size w w' := by
 have HM:=hide hm
 have HG:=hide hg
 have HW:=hide (Pl.Valid.iff.1 hd).1
 have hn:=hd.wf.few
 clear hg hm
 have R0:=hide (row_at (W := w) (g := w.heap.size) (t := 24) (vs := [.slice A d.n cp,.slice B m cq,.int .i64 (d.lp:Int)]) rfl)
 have B0:=hide (show Below w.heap.size w (w.alloc (.cells #[.slice A d.n cp,.slice B m cq,.int .i64 (d.lp:Int)] 24)) from (Below.refl _ _).alloc (Nat.le_refl _) _)
 go_enter Tryz.func29,Tryz.ntmps29
 go_wp2_with fail
 refine (valid_yes d hd A B cp cq m _ HM.out (HG.out.keep B0.out)).mono ?_
 rintro e w1 ⟨rfl,hb1⟩
 have R1:=hide (R0.out.below hb1)
 have B1:=hide (B0.out.trans (hb1.mono B0.out.size))
 clear hb1
 obtain ⟨d0,d1,d2,d3⟩:=box3 R1.out
 go_wp2_with fail
 have lun:=un_le (d := d) hn
 have lup:=up_le (d := d) hn
 have B3:(sel d (unC d.n)).length + (sel d (upNX d.n d.n)).length ≤ maxLen:=by unfold maxLen; omega
 have C3:((sel d (unC d.n)).length + (sel d (upNX d.n d.n)).length) * 40 ≤ 140737488355328:=by omega
 obtain ⟨n0,hn0,hz0,hz1,hz2⟩:=info_parts moveInfo
 have hw1:w.heap.size < w1.heap.size:=R1.out.lt
 have HG1:=hide (show DgAt w1.drew A B d from ⟨(HG.out.keep B1.out).s,(HG.out.keep B1.out).m⟩)
 go_region_law
  (first
    | (refine step_append_src _ ?_ (.tmp 7) (.tmp 9) 27 ?_ b 43 n0 (.agg #[.int .i64 0, .int .i64 0, .int .i64 0, .int .i64 0, .bool false]) 40 Tryz.underlying27 hn0 hz0 hz1 hz2 rfl v3 _ _ ?_ Q4.out.o A4 _ c4 _ ?_ S4.out B3 C3 Q4.out.lo2 ?_
       ·rfl
       ·rfl
       ·rfl
       ·rfl
       intro v5 w5 own5 grow5
       have Q5:=hide (Q4.out.app own5 grow5)
       clear own5 grow5)
    | (go_simp
       go_wp2_with (first
        | ((go_at_call 55); refine Calls.mono (uncurls_any d HW.out A B cp cq m _ HM.out HG1.out) ?_; rintro e w3 ⟨v3,rfl,⟨b,hlb,hlb2,own3⟩,hb3⟩; rw [un_sel d _ (Nat.le_refl _)] at own3; have Q3 := hide (show AL w [.slice A d.n cp,.slice B m cq,.int .i64 (d.lp:Int)] b v3 (sel d (unC d.n)) w3 from ⟨R1.out.drew.below hb3,own3,B1.out.drew.trans (hb3.mono B1.out.size),Nat.lt_of_lt_of_le hw1 hlb,hlb2⟩); obtain ⟨e0,e1,e2,e3⟩:=box3 Q3.out.d; clear own3 hb3)
        | ((go_at_call 56); refine Calls.mono (unpokes_any d HW.out A B cp cq m _ HM.out (HG.out.keep Q3.out.bel)) ?_; rintro e w4 ⟨v4,rfl,hv4,hb4⟩; rw [up_sel] at hv4; obtain ⟨A4,c4,rfl,src4⟩:=hv4.at.src; have Q4 := hide (Q3.out.below hb4); have S4 := hide src4; clear hb4 hv4 src4))))
 all_goals
  go_wp2
  go_ret
  exact ⟨v5,rfl,⟨b,by have := Q5.out.lo; omega,Q5.out.lo2,Q5.out.o⟩,Q5.out.bel⟩
end Go.Proofs.YtghdiolnonejaaaGreatDoor
end
section
namespace Go.Proofs.YtghdiolnonejaaaGreatDoor
open Go Go.RowKit
noncomputable def dn:Nat → Pl.Dg → Pl.Dg × List Mv
 | 0,d => (d,[])
 | k + 1, d => match remL d with
   | [] => (d,[])
   | z :: _ => ((dn k (apD d z)).1,z :: (dn k (apD d z)).2)
noncomputable def dnD (d:Pl.Dg):Pl.Dg := (dn d.n d).1
noncomputable def dnM (d:Pl.Dg):List Mv := (dn d.n d).2
theorem dn_none {d:Pl.Dg} (h:remL d = []):∀ k,dn k d = (d,[])
 | 0 => rfl
 | k + 1 => by unfold dn; rw [h]
theorem dn_some {d:Pl.Dg} {z:Mv} {l:List Mv} (h:remL d = z :: l) (k:Nat):dn (k + 1) d = ((dn k (apD d z)).1,z :: (dn k (apD d z)).2) := by
 rw [dn,h]
theorem rem_ok {d:Pl.Dg} {z:Mv} (h:z ∈ remL d):apC d z = 0 ∧ (z.kind = 2 ∨ z.kind = 4) := by
 unfold remL at h
 rcases List.mem_append.1 h with h | h
 ·exact ⟨(mem_sel.1 h).2,.inl (un_kind h)⟩
 ·exact ⟨(mem_sel.1 h).2,.inr (up_kind h)⟩
theorem rem_less {d:Pl.Dg} (hd:Pl.Valid d) {z:Mv} (h:z ∈ remL d):(apD d z).n + 1 ≤ d.n := by
 obtain ⟨h1,h2⟩:=rem_ok h
 have e:((apD d z).n:Int) = (d.n:Int) + moreK z:=(signs_law hd z h1).2.1
 obtain ⟨a,ha⟩:∃ a,a = (apD d z).n := ⟨_,rfl⟩
 obtain ⟨b,hb⟩:∃ b,b = d.n := ⟨_,rfl⟩
 rw [← ha,← hb] at e ⊢
 unfold moreK at e
 rcases h2 with h2 | h2 <;> simp [h2] at e <;> omega
theorem rem_flat {d:Pl.Dg} (hn:d.n = 0):remL d = [] := by
 unfold remL
 rw [hn]
 rfl
theorem dn_more {d:Pl.Dg} (hd:Pl.Valid d):∀ k,d.n ≤ k → dn k d = dn d.n d := by
 suffices h:∀ n,∀ d:Pl.Dg,Pl.Valid d → d.n ≤ n → ∀ k j,d.n ≤ k → d.n ≤ j → dn k d = dn j d from fun k hk => h d.n d hd (Nat.le_refl _) k d.n hk (Nat.le_refl _)
 intro n
 induction n with
 | zero =>
   intro d hd h0 k j _ _
   have e:=rem_flat (d := d) (by omega)
   rw [dn_none e,dn_none e]
 | succ n ih =>
   intro d hd hn k j hk hj
   cases hr:remL d with
   | nil => rw [dn_none hr,dn_none hr]
   | cons z l =>
     have hz:z ∈ remL d:=by rw [hr]; exact List.mem_cons_self
     have hl:=rem_less hd hz
     have hv:=(ap_ok hd (rem_ok hz).1).1
     obtain ⟨k',rfl⟩:∃ k',k = k' + 1 := ⟨k - 1,by omega⟩
     obtain ⟨j',rfl⟩:∃ j',j = j' + 1 := ⟨j - 1,by omega⟩
     rw [dn_some hr,dn_some hr,ih _ hv (by omega) k' j' (by omega) (by omega)]
theorem dn_next {d:Pl.Dg} (hd:Pl.Valid d) {z:Mv} {l:List Mv} (h:remL d = z :: l):dnD d = dnD (apD d z) ∧ dnM d = z :: dnM (apD d z) := by
 have hz:z ∈ remL d:=by rw [h]; exact List.mem_cons_self
 have hl:=rem_less hd hz
 have hv:=(ap_ok hd (rem_ok hz).1).1
 obtain ⟨k,hk⟩:∃ k,d.n = k + 1 := ⟨d.n - 1,by omega⟩
 unfold dnD dnM
 rw [hk,dn_some h,dn_more hv k (by omega)]
 exact ⟨rfl,rfl⟩
theorem dn_stop {d:Pl.Dg} (h:remL d = []):dnD d = d ∧ dnM d = [] := by
 unfold dnD dnM
 rw [dn_none h]
 exact ⟨rfl,rfl⟩
end Go.Proofs.YtghdiolnonejaaaGreatDoor
end
