/-
 The texts Vg, Vj.
-/
import Derived.Test.YtghdiolnonejaaaGreatDoorS00
import Derived.Test.YtghdiolnonejaaaGreatDoorS02
import Derived.Test.YtghdiolnonejaaaGreatDoorS03
import Derived.Test.YtghdiolnonejaaaGreatDoorS04
import Derived.Test.YtghdiolnonejaaaGreatDoorS07
import Derived.Test.YtghdiolnonejaaaGreatDoorU01
import Derived.Test.YtghdiolnonejaaaGreatDoorU05
import Derived.Test.YtghdiolnonejaaaGreatDoorU21
import Derived.Test.YtghdiolnonejaaaGreatDoorU23
import Derived.BigQuiet
import Derived.Deep.AppendLies
import Derived.Deep.CutBlock
import Derived.Deep.CutRange
import Derived.Deep.DeepCutAuto
import Derived.Deep.DrawnRows
import Derived.Deep.Light
import Derived.Deep.LoopGhost
import Derived.Deep.QuietTactic
import Derived.Deep.RegionHeld3
import Derived.Deep.RegionLaw
import Derived.Deep.RegionWith
import Derived.Laws.AppendOwn
import Derived.Laws.MakeOwn
import Derived.Laws.OwnMore
import Derived.Laws.Rows
import Derived.Laws.Slices
import Derived.Maps.AppendAt
import Derived.Outline
import Derived.RegionTactic
import Derived.Shelf.Spec.SlicesGrow
import Derived.StillTailTactics
import Derived.Test.YtghdiolnonejaaaGreatDoorRows
import Derived.Test.YtghdiolnonejaaaGreatDoorShelf
import Derived.WalkKit
import Derived.WalkLawsBesides
import Derived.WalkSpells
set_option linter.unusedVariables false
set_option linter.unusedSimpArgs false
section
namespace Go.Proofs.YtghdiolnonejaaaGreatDoor
open Go Go.RowKit
attribute [local go_sem ↓] Go.wp_at_zero Go.wp_at_succ
theorem PL.setB3 {w W:World} {d:Pl.Dg} {ls:List Int} {P:Nat} {A:Option Addr} {vs dv:List Value} {j:Nat} {vL:Value} {cs:List Value} {ps:List Pl.Pc} (h:PL w d ls P A vs dv j vL cs ps W) {g:Nat} {us:List Value} (hr:Row W g 146 us) (hg:w.heap.size < g) (hne:vL.ownBlock ≠ some g) (y0 y1 y2:Value) :
 PL w d ls P A vs dv j vL cs ps (((W.setCell ⟨g,0,none⟩ y0).setCell ⟨g,1,none⟩ y1).setCell ⟨g,2,none⟩ y2) :=
 ((h.setB hr hg hne 0 y0).setB (hr.set 0 y0) hg hne 1 y1).setB ((hr.set 0 y0).set 1 y1) hg hne 2 y2
theorem IntT.store3 {W:World} {v:Value} {xs:List Int} (h:IntT W v xs) {g:Nat} {us:List Value} (hr:Row W g 146 us) (y0 y1 y2:Value) :
 IntT (((W.setCell ⟨g,0,none⟩ y0).setCell ⟨g,1,none⟩ y1).setCell ⟨g,2,none⟩ y2) v xs :=
 ((h.store hr (by decide) y0).store (hr.set 0 y0) (by decide) y1).store ((hr.set 0 y0).set 1 y1) (by decide) y2
theorem own_natT {W:World} {base:Nat} {v:Value} {l:List Nat} (h:W.ownsRow base 3 1 v l.length (l.map (fun k:Nat => Value.int .i64 k))):IntT W v (nats l) := by
 refine own_intT (base := base) ?_
 rw [map_nats]
 have e:(nats l).length = l.length:=by unfold nats; simp
 rw [e]
 exact h
structure PI (w:World) (d:Pl.Dg) (ls:List Int) (P:Nat) (A:Option Addr) (vs dv:List Value) (j:Nat) (vL:Value) (cs:List Value) (ps:List Pl.Pc) (g6 k:Nat) (vC vO:Value) (x:Int) (W:World):Prop where
 p:PL w d ls P A vs dv j vL cs ps W
 r:Row W g6 146 [vC,vO,.int .i64 x]
 b:PBox d (Gl ls d.n j) k W vC vO x
 lo:w.heap.size < g6
 ne:vL.ownBlock ≠ some g6
section
variable {w W W':World} {d:Pl.Dg} {ls:List Int} {P:Nat} {A:Option Addr} {vs dv:List Value} {j g6 k:Nat} {vL vC vO:Value} {x:Int} {cs:List Value} {ps:List Pl.Pc}
theorem PI.below (h:PI w d ls P A vs dv j vL cs ps g6 k vC vO x W) (hb:Below W.heap.size W W'):PI w d ls P A vs dv j vL cs ps g6 k vC vO x W' :=
 ⟨h.p.below hb,h.r.below hb,h.b.below hb,h.lo,h.ne⟩
theorem PI.put (h:PI w d ls P A vs dv j vL cs ps g6 k vC vO x W) {p:Pl.Pc} {vC' vO':Value} (hp:PcV W vC' vO' 1 p) (hl:Pl.Lst5 d ((Gl ls d.n j).take (k + 1)) p) :
 PI w d ls P A vs dv j vL cs ps g6 (k + 1) vC' vO' 1 (((W.setCell ⟨g6,0,none⟩ vC').setCell ⟨g6,1,none⟩ vO').setCell ⟨g6,2,none⟩ (.int .i64 1)) :=
 ⟨h.p.setB3 h.r h.lo h.ne _ _ _,row3 h.r rfl _ _ _,.inr ⟨p,⟨hp.c.store3 h.r _ _ _,hp.o.store3 h.r _ _ _,hp.r⟩,hl,by omega,by omega⟩,h.lo,h.ne⟩
theorem PI.more (h:PI w d ls P A vs dv j vL cs ps g6 k vC vO x W) {p:Pl.Pc} (hp:PcV W vC vO x p) (hl:Pl.Lst5 d ((Gl ls d.n j).take (k + 1)) ⟨p.code,p.order,x + 1⟩) (h0:0 ≤ x) (h1:x ≤ k) :
 PI w d ls P A vs dv j vL cs ps g6 (k + 1) vC vO (x + 1) (W.setCell ⟨g6,2,none⟩ (.int .i64 (x + 1))) :=
 ⟨h.p.setB h.r h.lo h.ne _ _,h.r.set 2 (.int .i64 (x + 1)),.inr ⟨⟨p.code,p.order,x + 1⟩,⟨hp.c.store h.r (by decide) _,hp.o.store h.r (by decide) _,rfl⟩,hl,by omega,by omega⟩,h.lo,h.ne⟩
theorem PI.skip (h:PI w d ls P A vs dv j vL cs ps g6 k vC vO x W) {p:Pl.Pc} (hp:PcV W vC vO x p) (hl:Pl.Lst5 d ((Gl ls d.n j).take (k + 1)) ⟨p.code,p.order,x⟩) (h0:0 ≤ x) (h1:x ≤ k) :
 PI w d ls P A vs dv j vL cs ps g6 (k + 1) vC vO x W :=
 ⟨h.p,h.r,.inr ⟨⟨p.code,p.order,x⟩,⟨hp.c,hp.o,rfl⟩,hl,by omega,by omega⟩,h.lo,h.ne⟩
end
theorem gl_comp {d:Pl.Dg} {ls:List Int} {P:Nat} (h:Pl.LB d ls P) (hp:∀ a,a < d.n → 0 ≤ Pl.pv ls a) {j a b:Nat} (ha:a ∈ Gl ls d.n j) (hb:b ∈ Gl ls d.n j):a < d.n ∧ Pl.Comp d a b := by
 rw [mem_Gl] at ha hb
 exact ⟨ha.1,h.conn a b ha.1 hb.1 (hp a ha.1) (by rw [ha.2,hb.2])⟩
theorem gl_at {P j:Nat} (ls:List Int) (n:Nat) (hj:j < P):((List.range P).map (Gl ls n))[j]? = some (Gl ls n j) := by
 rw [List.getElem?_map,List.getElem?_range hj]; rfl
end Go.Proofs.YtghdiolnonejaaaGreatDoor
end
section
namespace Go.Proofs.YtghdiolnonejaaaGreatDoor
open Go Go.RowKit
attribute [local go_sem ↓] Go.wp_at_zero Go.wp_at_succ
theorem cmp_kle {p q:Pl.Pc} (hp:p.code.length = 5 * p.order.length) (hq:q.code.length = 5 * q.order.length):cmpP p q < 0 ↔ ¬ Pl.leP q p := by
 unfold cmpP Pl.leP Pl.kle
 by_cases h:p.order.length = q.order.length
 ·rw [if_pos h]
  have:=Pl.lx_neg p.code q.code
  constructor
  ·rintro h1 (h2 | ⟨_,h2⟩) <;> omega
  ·intro h1
   rcases Int.lt_or_le (Pl.lx p.code q.code) 0 with h2 | h2
   ·exact h2
   ·exact absurd (.inr ⟨by omega,by omega⟩) h1
 ·rw [if_neg h]
  constructor
  ·rintro h1 (h2 | ⟨h2,_⟩) <;> omega
  ·intro h1
   rcases Nat.lt_or_ge p.order.length q.order.length with h2 | h2
   ·omega
   ·exact absurd (.inl (by omega)) h1
theorem PcsV.at_ {W:World}:∀ {cs:List Value} {ps:List Pl.Pc},PcsV W cs ps → ∀ {j:Nat} {p:Pl.Pc},ps[j]? = some p → ∃ vC vO x,PcV W vC vO x p ∧ cs[j * 3]? = some vC ∧ cs[j * 3 + 1]? = some vO ∧ cs[j * 3 + 2]? = some (.int .i64 x)
 | [],[],_,j,p,h => by simp at h
 | vC :: vO :: .int .i64 x :: r, q :: ps, hv, 0, p, h => by
   obtain rfl:q = p := by simpa using h
   exact ⟨vC,vO,x,hv.1,rfl,rfl,rfl⟩
 | vC :: vO :: .int .i64 x :: r, q :: ps, hv, j + 1, p, h => by
   obtain ⟨a,b,y,h1,h2,h3,h4⟩:=PcsV.at_ hv.2 (j := j) (p := p) (by simpa using h)
   refine ⟨a,b,y,h1,?_,?_,?_⟩
   ·rw [show (j + 1) * 3 = j * 3 + 3 by omega]; exact h2
   ·rw [show (j + 1) * 3 + 1 = j * 3 + 1 + 3 by omega]; exact h3
   ·rw [show (j + 1) * 3 + 2 = j * 3 + 2 + 3 by omega]; exact h4
theorem PcsV.put {W:World} {vC vO:Value} {x:Int} {p:Pl.Pc} (hp:PcV W vC vO x p):∀ {cs:List Value} {ps:List Pl.Pc},PcsV W cs ps → ∀ (j:Nat),j < ps.length → PcsV W (((cs.set (j * 3) vC).set (j * 3 + 1) vO).set (j * 3 + 2) (.int .i64 x)) (ps.set j p)
 | [],[],_,j,h => by simp at h
 | vC' :: vO' :: .int .i64 x' :: r,q :: ps,hv,0,h => ⟨hp,hv.2⟩
 | vC' :: vO' :: .int .i64 x' :: r, q :: ps, hv, j + 1, h => by
   have ih:=PcsV.put hp hv.2 j (by simpa using h)
   rw [show (j + 1) * 3 = j * 3 + 3 by omega,show j * 3 + 3 + 1 = (j * 3 + 1) + 3 by omega,show j * 3 + 3 + 2 = (j * 3 + 2) + 3 by omega]
   exact ⟨hv.1,ih⟩
end Go.Proofs.YtghdiolnonejaaaGreatDoor
end
