/-
 The texts Rl, Rza, Pex, Lbq.
-/
import Derived.Test.YtghdiolnonejaaaGreatDoorS00
import Derived.Test.YtghdiolnonejaaaGreatDoorS01
import Derived.Test.YtghdiolnonejaaaGreatDoorS02
import Derived.Test.YtghdiolnonejaaaGreatDoorS03
import Derived.Test.YtghdiolnonejaaaGreatDoorU01
import Derived.Test.YtghdiolnonejaaaGreatDoorU02
import Derived.Test.YtghdiolnonejaaaGreatDoorU05
import Derived.BigQuiet
import Derived.Deep.AppendLies
import Derived.Deep.CutBlock
import Derived.Deep.DeepCutAuto
import Derived.Deep.DrawnRows
import Derived.Deep.Light
import Derived.Deep.LoopGhost
import Derived.Deep.QuietTactic
import Derived.Deep.RegionHeld3
import Derived.Deep.RegionLaw
import Derived.Deep.RegionWith
import Derived.Laws.AppendOwn
import Derived.Laws.MakeOwn
import Derived.Laws.OwnMore
import Derived.Laws.Rows
import Derived.Maps.AppendAt
import Derived.Outline
import Derived.RegionTactic
import Derived.Shelf.Spec.SlicesGrow
import Derived.StillTailTactics
import Derived.Test.YtghdiolnonejaaaGreatDoorRows
import Derived.Test.YtghdiolnonejaaaGreatDoorShelf
import Derived.WalkKit
import Derived.WalkLawsBesides
import Derived.WalkSpells
set_option linter.unusedVariables false
set_option linter.unusedSimpArgs false
section
namespace Go.Proofs.YtghdiolnonejaaaGreatDoor
open Go Go.RowKit
theorem own_row_ne {W:World} {base b n:Nat} {t:TypeId} {v:Value} {xs vs:List Value} (h:W.ownsRow base 3 1 v n xs) (hr:Row W b t vs) (ht:3 ≠ t):some b ≠ v.ownBlock := by
 intro e
 obtain ⟨cs,fr,h3⟩:=ownsRow_block h b e.symm
 rw [hr] at h3
 injection h3 with h3
 injection h3 with _ h4
 exact ht h4.symm
structure RK (base:Nat) (w:World) (vS vM:Value) (n q:Nat) (lp:Int) (mv:List Value) (ss:List Int) (l:List Nat) (W:World):Prop where
 d:Row W w.heap.size 24 [vS,vM,.int .i64 lp]
 m:Row W (w.heap.size + 1) 43 mv
 rd:∃ vs,Row W (w.heap.size + 1 + 1) 24 vs ∧ vs.length = 3
 rm:∃ us,Row W (w.heap.size + 1 + 1 + 1) 43 us ∧ us.length = 5
 s:W.ownsRow base 3 1 vS n (ss.map (.int .i64))
 o:W.ownsRow base 3 1 vM q (l.map (fun k:Nat => Value.int .i64 k))
 ne:∀ k,vS.ownBlock = some k → vM.ownBlock ≠ some k
 bel:Below base w W
 le:base ≤ w.heap.size
section
variable {base:Nat} {w W W' W2:World} {vS vM v':Value} {n q:Nat} {lp:Int} {mv:List Value} {ss:List Int} {l:List Nat}
end
end Go.Proofs.YtghdiolnonejaaaGreatDoor
end
section
namespace Go.Proofs.YtghdiolnonejaaaGreatDoor
open Go Go.RowKit
attribute [local go_sem ↓] Go.wp_at_zero Go.wp_at_succ
def fE (E:Nat → Nat) (x k:Nat):Bool := (List.range k).any (fun j => E (2 * j) == x || E (2 * j + 1) == x)
end Go.Proofs.YtghdiolnonejaaaGreatDoor
end
section
namespace Go.Proofs.YtghdiolnonejaaaGreatDoor.Pl
variable {d:Dg}
theorem lst_ex (d:Dg):∀ (l:List Nat),l ≠ [] → ∃ p,Lst5 d l p := by
 have key:∀ (l m:List Nat) (p:Pc),Lst5 d m p → ∃ p,Lst5 d (m ++ l) p:=by
  intro l
  induction l with
  | nil => exact fun m p h => ⟨p,by rw [List.append_nil]; exact h⟩
  | cons q l ih =>
    intro m p h
    have e:m ++ q :: l = (m ++ [q]) ++ l:=by simp
    rw [e]
    by_cases hq:lx (code d q) p.code < 0
    ·exact ih _ _ (h.less hq 1)
    ·exact ih _ _ (h.more hq 1)
 intro l hl
 cases l with
 | nil => exact absurd rfl hl
 | cons r l => exact key l [r] _ (Lst5.one r 1)
open Classical in
theorem pc_ex (hd:Wf d) {r:Nat} (hr:r < d.n):∃ p,PcOk d p ∧ ∀ c,c ∈ p.order ↔ Comp d r c := by
 obtain ⟨l,hl⟩:∃ l,l = (List.range d.n).filter (fun c => decide (Comp d r c)) := ⟨_,rfl⟩
 have hm:∀ c,c ∈ l ↔ c < d.n ∧ Comp d r c:=fun c => by rw [hl,List.mem_filter,List.mem_range,decide_eq_true_iff]
 have h0:r ∈ l:=(hm r).2 ⟨hr,(ord_mem hd hr r).1 (ord_ok hd hr).root⟩
 obtain ⟨p,hp⟩:=lst_ex d l (List.ne_nil_of_mem h0)
 refine ⟨p,hp.ok hd hr hm,fun c => ?_⟩
 obtain ⟨q,h1,_,h3⟩:=hp.is
 obtain ⟨hq,hc⟩:=(hm q).1 h1
 rw [h3,ord_mem hd hq]
 exact ⟨fun e => hc.trans e,fun e => (comp_symm hd hr hc).trans e⟩
theorem pcs_up (hd:Wf d):∀ k,k ≤ d.n → ∃ ps:List Pc,(∀ p,p ∈ ps → PcOk d p) ∧ (ps.flatMap Pc.order).Nodup ∧ ∀ c,c < k → ∃ p,p ∈ ps ∧ c ∈ p.order
 | 0,_ => ⟨[],fun p h => absurd h (by simp),by simp,fun c h => absurd h (by omega)⟩
 | k + 1, hk => by
   obtain ⟨ps,h1,h2,h3⟩:=pcs_up hd k (by omega)
   by_cases e:∃ p,p ∈ ps ∧ k ∈ p.order
   ·refine ⟨ps,h1,h2,fun c hc => ?_⟩
    by_cases e2:c = k
    ·rw [e2]; exact e
    ·exact h3 c (by omega)
   ·obtain ⟨p,hp,hm⟩:=pc_ex hd (show k < d.n by omega)
    refine ⟨ps ++ [p],fun q hq => ?_,?_,fun c hc => ?_⟩
    ·rcases List.mem_append.1 hq with hq | hq
     ·exact h1 q hq
     ·rw [List.mem_singleton.1 hq]; exact hp
    ·rw [List.flatMap_append,List.nodup_append]
     refine ⟨h2,?_,fun x hx y hy exy => ?_⟩
     ·obtain ⟨r,hr,_,ho,_⟩:=hp
      simp only [List.flatMap_cons,List.flatMap_nil,List.append_nil]
      rw [ho]
      exact (ord_ok hd hr).nd
     ·subst exy
      obtain ⟨q,hq,hxq⟩:=List.mem_flatMap.1 hx
      have hy':x ∈ p.order:=by simpa using hy
      have c1:=(hm x).1 hy'
      obtain ⟨r,hr,_,ho,_⟩:=h1 q hq
      rw [ho,ord_mem hd hr] at hxq
      refine e ⟨q,hq,?_⟩
      rw [ho,ord_mem hd hr]
      exact hxq.trans (comp_symm hd (show k < d.n by omega) c1)
    ·by_cases e2:c = k
     ·refine ⟨p,by simp,?_⟩
      rw [e2,hm]
      exact (ord_mem hd (show k < d.n by omega) k).1 (ord_ok hd (show k < d.n by omega)).root
     ·obtain ⟨q,hq,hc2⟩:=h3 c (by omega)
      exact ⟨q,by simp [hq],hc2⟩
open Classical in
theorem code_ex (hd:Wf d):∃ ps,Pcs d ps ∧ Srt ps := by
 obtain ⟨ps,h1,h2,h3⟩:=pcs_up hd d.n (Nat.le_refl _)
 obtain ⟨qs,hqs⟩:∃ qs,qs = ps.mergeSort (fun p q => decide (kle p.code q.code)) := ⟨_,rfl⟩
 have hp:qs.Perm ps:=by rw [hqs]; exact List.mergeSort_perm _ _
 refine ⟨qs,⟨fun p hq => h1 p (hp.mem_iff.1 hq),(hp.flatMap_right _).nodup_iff.2 h2,fun c hc => ?_⟩,?_⟩
 ·obtain ⟨p,hp1,hp2⟩:=h3 c hc
  exact ⟨p,hp.mem_iff.2 hp1,hp2⟩
 ·have := List.pairwise_mergeSort (le := fun p q : Pc => decide (kle p.code q.code)) (fun a b c h g => by rw [decide_eq_true_iff] at h g ⊢; exact kle_trans h g) (fun a b => by
   rw [Bool.or_eq_true,decide_eq_true_iff,decide_eq_true_iff]
   exact kle_total _ _) ps
  rw [← hqs] at this
  exact this.imp (fun h => by rw [decide_eq_true_iff] at h; exact h)
end Go.Proofs.YtghdiolnonejaaaGreatDoor.Pl
end
section
namespace Go.Proofs.YtghdiolnonejaaaGreatDoor.Pl
open Classical in
noncomputable def cl (p:Nat → Prop):List Nat → Nat
 | [] => 0
 | x :: l => (if p x then 1 else 0) + cl p l
open Classical in
theorem cl_append (p:Nat → Prop):∀ l m:List Nat,cl p (l ++ m) = cl p l + cl p m
 | [],m => by simp [cl]
 | x :: l, m => by
   have:=cl_append p l m
   show (if p x then 1 else 0) + cl p (l ++ m) = (if p x then 1 else 0) + cl p l + cl p m
   omega
open Classical in
theorem cl_le (p:Nat → Prop):∀ l:List Nat,cl p l ≤ l.length
 | [] => Nat.le_refl _
 | x :: l => by
   have:=cl_le p l
   show (if p x then 1 else 0) + cl p l ≤ l.length + 1
   split <;> omega
open Classical in
theorem cl_pos {p:Nat → Prop} {x:Nat} (h:p x):cl p [x] = 1 := by show (if p x then 1 else 0) + 0 = 1; rw [if_pos h]
open Classical in
theorem cl_neg {p:Nat → Prop} {x:Nat} (h:¬ p x):cl p [x] = 0 := by show (if p x then 1 else 0) + 0 = 0; rw [if_neg h]
theorem cl_take {p:Nat → Prop} {l:List Nat} {i:Nat} (hi:i < l.length):cl p (l.take (i + 1)) = cl p (l.take i) + cl p [l.getD i 0] := by
 rw [List.take_succ_eq_append_getElem hi,cl_append,List.getD_eq_getElem?_getD,List.getElem?_eq_getElem hi]
 rfl
open Classical in
noncomputable def hds (d:Dg):Nat → List Nat
 | 0 => []
 | k + 1 => if Least (nx d) k then hds d k ++ [k] else hds d k
theorem hds_pos {d:Dg} {k:Nat} (h:Least (nx d) k):hds d (k + 1) = hds d k ++ [k] := if_pos h
theorem hds_neg {d:Dg} {k:Nat} (h:¬ Least (nx d) k):hds d (k + 1) = hds d k := if_neg h
theorem hds_lt (d:Dg):∀ k x,x ∈ hds d k → x < k
 | 0,x,h => by simp [hds] at h
 | k + 1, x, h => by
   by_cases e:Least (nx d) k
   ·rw [hds_pos e] at h
    rcases List.mem_append.1 h with h | h
    ·have:=hds_lt d k x h; omega
    ·rw [List.mem_singleton] at h; omega
   ·rw [hds_neg e] at h
    have:=hds_lt d k x h; omega
theorem hds_len (d:Dg):∀ k,(hds d k).length ≤ k
 | 0 => Nat.le_refl _
 | k + 1 => by
   have:=hds_len d k
   by_cases e:Least (nx d) k
   ·rw [hds_pos e,List.length_append]; simp; omega
   ·rw [hds_neg e]; omega
theorem hds_nf (d:Dg) (ps:List Int) (c:Nat):∀ k,cl (fun h => pv ps (h / 4) = c) (hds d k) = nf d ps c k
 | 0 => by show 0 = cnt _ 0; rfl
 | k + 1 => by
   have ih:=hds_nf d ps c k
   by_cases e:Least (nx d) k
   ·rw [hds_pos e,cl_append,ih]
    by_cases e2:pv ps (k / 4) = c
    ·rw [cl_pos e2]; unfold nf; rw [cnt_step_pos ⟨e,e2⟩]
    ·rw [cl_neg e2]; unfold nf; rw [cnt_step_neg (fun h => e2 h.2)]; omega
   ·rw [hds_neg e,ih]; unfold nf; rw [cnt_step_neg (fun h => e h.1)]
theorem least_cyc {d:Dg} (hd:Wf d) {h p:Nat} (hh:h < 4 * d.n) (hp:Per (nx d) h p):Least (nx d) h ↔ ∀ i,i < p → h ≤ it (nx d) i h := by
 constructor
 ·intro hl i _
  exact hl i
 ·intro hi i
  have hm:it (nx d) i h ∈ cyc (nx d) h p:=(mem_cyc hp).2 ⟨i,rfl⟩
  unfold cyc at hm
  obtain ⟨j,h1,h2⟩:=List.mem_map.1 hm
  rw [← h2]
  exact hi j (List.mem_range.1 h1)
theorem lrun_pi {d:Dg} (hd:Wf d) (p k:Nat) (hk:k ≤ 4 * d.n):PI d (lrun d (lpass d p) k) := ((PI.lpass hd p).lrun hd k hk).1
end Go.Proofs.YtghdiolnonejaaaGreatDoor.Pl
end
