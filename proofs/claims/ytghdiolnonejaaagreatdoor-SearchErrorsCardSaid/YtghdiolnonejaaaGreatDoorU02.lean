/-
 The texts Prt, Open.
-/
import Derived.Test.YtghdiolnonejaaaGreatDoorS00
import Derived.Test.YtghdiolnonejaaaGreatDoorS01
import Derived.ChangeSame
import Derived.Deep.Fields
import Derived.Deep.Slices
import Derived.OpenShut
import Derived.ProofKit
import Derived.Test.YtghdiolnonejaaaGreatDoorRows
import Derived.WalkKit
import Derived.WalkLawsBesides
import Derived.WalkSpells
set_option linter.unusedVariables false
set_option linter.unusedSimpArgs false
section
namespace Go.Proofs.YtghdiolnonejaaaGreatDoor.Pl
variable {d:Dg}
def ids (n k:Nat):List Int := (List.range n).map (fun c => if c < k then (c:Int) else 0)
theorem ids_len (n k:Nat):(ids n k).length = n := by unfold ids; simp
theorem ids_zero (n:Nat):ids n 0 = List.replicate n 0 := by
 unfold ids
 refine List.ext_getElem (by simp) (fun i h1 h2 => ?_)
 simp
theorem ids_pv {n k c:Nat} (hc:c < n):pv (ids n k) c = if c < k then (c:Int) else 0 := by
 unfold pv ids
 rw [List.getD_eq_getElem?_getD,List.getElem?_map,List.getElem?_range hc]; rfl
theorem ids_get {n k i:Nat} (h:i < (ids n k).length):(ids n k)[i] = if i < k then (i:Int) else 0 := by simp [ids]
theorem ids_set {n k:Nat} (hk:k < n):(ids n k).set k (k:Int) = ids n (k + 1) := by
 refine List.ext_getElem (by rw [List.length_set,ids_len,ids_len]) (fun i h1 h2 => ?_)
 rw [List.getElem_set,ids_get,ids_get]
 by_cases e:k = i
 ·subst e; rw [if_pos rfl,if_pos (by omega)]
 ·rw [if_neg e]
  by_cases e2:i < k
  ·rw [if_pos e2,if_pos (by omega)]
  ·rw [if_neg e2,if_neg (by omega)]
structure PI (d:Dg) (ps:List Int):Prop where
 len:ps.length = d.n
 is:∀ c,c < d.n → ∃ b:Nat,pv ps c = b ∧ b ≤ c ∧ Comp d c b
theorem PI.start (d:Dg):PI d (ids d.n d.n) :=
 ⟨ids_len _ _,fun c hc => ⟨c,by rw [ids_pv hc,if_pos hc],Nat.le_refl _,.refl⟩⟩
theorem PI.nat {ps:List Int} (h:PI d ps) {c:Nat} (hc:c < d.n):0 ≤ pv ps c ∧ pv ps c ≤ c := by
 obtain ⟨b,h1,h2,_⟩:=h.is c hc
 omega
theorem comp_m (hd:Wf d) {h:Nat} (hh:h < 4 * d.n):Comp d (h / 4) (d.m h / 4) :=
 (con_comp hd hh (hd.lt h hh)).1 (Con.refl.right)
structure PB (d:Dg) (ps:List Int):Prop where
 len:ps.length = d.n
 is:∀ c,c < d.n → ∃ b:Nat,pv ps c = b ∧ b ≤ c ∧ Comp d c b
 same:∀ a b,a < d.n → Comp d a b → pv ps a = pv ps b
theorem PI.done (hd:Wf d) {ps:List Int} (h:PI d ps) (hs:∀ x,x < 4 * d.n → pv ps (x / 4) ≤ pv ps (d.m x / 4)):PB d ps := by
 refine ⟨h.len,h.is,fun a b ha e => ?_⟩
 have:=con_sub hd.hm (R := fun x y => pv ps (x / 4) = pv ps (y / 4)) ⟨fun _ _ => rfl,fun _ _ _ _ e => e.symm,fun _ _ _ _ _ _ e e' => e.trans e'⟩
  (fun x _ => by show pv ps (x / 4) = pv ps (rot x / 4); unfold rot; rw [tn_div]) (fun x hx => ?_) (x := 4 * a) (y := 4 * b) (by unfold dart; omega) e
 ·simpa [Nat.mul_div_cancel_left] using this
 ·have h1:=hs x hx
  have h2:=hs (d.m x) (hd.lt x hx)
  rw [hd.inv x hx] at h2
  exact Int.le_antisymm h1 h2
theorem PB.iff (hd:Wf d) {ps:List Int} (h:PB d ps) {a b:Nat} (ha:a < d.n) (hb:b < d.n):pv ps a = pv ps b ↔ Comp d a b := by
 refine ⟨fun e => ?_,h.same a b ha⟩
 obtain ⟨x,e1,e2,e3⟩:=h.is a ha
 obtain ⟨y,g1,g2,g3⟩:=h.is b hb
 have:x = y:=by omega
 subst this
 exact e3.trans (comp_symm hd hb g3)
theorem PB.root {ps:List Int} (h:PB d ps) {c:Nat} (hc:c < d.n):∃ b:Nat,pv ps c = b ∧ b < d.n ∧ pv ps b = b ∧ Comp d c b := by
 obtain ⟨b,h1,h2,h3⟩:=h.is c hc
 exact ⟨b,h1,by omega,by rw [← h.same c b hc h3,h1],h3⟩
theorem PB.rule (hd:Wf d) {ps:List Int} (h:PB d ps):(∀ c,c < d.n → pv ps c = c → nf d ps c (4 * d.n) = nv ps c d.n + 2) ↔ Rule d := by
 have key:∀ c p:Nat,c < d.n → pv ps c = p → nf d ps p (4 * d.n) = cnt (fun h => Least (nx d) h ∧ Comp d c (h / 4)) (4 * d.n) ∧ nv ps p d.n = cnt (fun b => Comp d c b) d.n:=by
  intro c p hc e
  have one:∀ b,b < d.n → (pv ps b = p ↔ Comp d c b):=fun b hb' => by
   rw [← h.iff hd hc hb',e]
   exact ⟨fun e => e.symm,fun e => e.symm⟩
  refine ⟨cnt_congr _ (fun x hx => ?_),cnt_congr _ (fun x hx => one x hx)⟩
  rw [one (x / 4) (by omega)]
 constructor
 ·intro h2 c hc
  obtain ⟨b,e1,e2,e3,e4⟩:=h.root hc
  obtain ⟨k1,k2⟩:=key c b hc e1
  have:=h2 b e2 e3
  omega
 ·intro h2 c hc e
  obtain ⟨k1,k2⟩:=key c c hc e
  rw [k1,k2]
  exact h2 c hc
theorem nv_le (ps:List Int) (p:Nat):∀ m,nv ps p m ≤ m := fun m => cnt_top _ m
end Go.Proofs.YtghdiolnonejaaaGreatDoor.Pl
end
section
namespace Go.Proofs.YtghdiolnonejaaaGreatDoor
open Go.ChangeShapes Go.WideShapes Go.ChangeAt Go.RowKit Go.Deep
section
variable {H:Type} {enc:TypeId × Value → H} {P:Program} {w:World} {base:Nat} {spare:Nat → Bool} {held:Bool}
theorem post_of_below {f:Func} {s:ChangeSpec} {apart fresh handsOn again:Bool} {W W':World} {args:Array Value} {v:Value} {ds gs:List (DataW H)} {before pa pv:List MemPlace}
 (hW:DataW.Whole enc P f.params.toList s.vars apart W args.toList ds gs before)
 (hres:∀ (b:Nat) (sp:Nat → Bool) (hd:Bool),DataW.TrodAll enc P W' b sp hd f.resultTypes.toList (v.resultList f.resultTypes.size) (s.fn H (ds ++ gs)).results [])
 (hargs:∀ sp:Nat → Bool,(∀ p ∈ before,sp p.block = true) → DataW.TrodAll enc P W' 0 sp true f.params.toList args.toList (s.fn H (ds ++ gs)).args pa)
 (hvars:∀ sp:Nat → Bool,(∀ p ∈ before,sp p.block = true) → DataW.TrodVars enc P W' sp s.vars (s.fn H (ds ++ gs)).vars pv)
 (hps:before = pa ++ pv) (hb:Below W.heap.size W W')
 (hok:∀ (j:Nat) (t:TypeId) (r:Value),f.resultTypes[j]? = some t → (v.resultList f.resultTypes.size)[j]? = some r → Value.okWide P W' .any 0 t r) :
 s.post enc P f apart fresh handsOn again W args v W' := by
 have hlt:∀ p ∈ before,p.block < W.heap.size:=fun p hp => hW.lt p hp
 have hold:∀ p ∈ before,(fun b => decide (b < W.heap.size)) p.block = true:=fun p hp => by simpa using hlt p hp
 refine ⟨ds,gs,before,[],pa,pv,hW,hres _ _ _,hargs _ hold,hvars _ hold,World.keptBut_mono (fun p hp => ⟨hp,?_⟩) (hb.frame (· ∈ before)),fun _ => ?_⟩
 ·rw [hps,List.mem_append] at hp
  exact Or.inr hp
 ·obtain ⟨_,_,_,_,_,hz,hn⟩:=hW
  refine ⟨hok,_,_,([] ++ pa) ++ pv,⟨[] ++ pa,pv,trodAll_append (hargs _ (fun _ _ => rfl)) (hres _ _ _),hvars _ (fun _ _ => rfl),rfl,?_,?_⟩,?_⟩
  ·intro b off hp
   have hin:MemPlace.cell b off ∈ before:=by rw [hps]; simpa using hp
   rw [hb.frozen (hlt _ hin)]
   exact hz b off hin
  ·intro ha
   have:=hn ha
   rw [hps] at this
   simpa using this
  ·intro p hp _
   rw [hps]
   simpa using hp
end
end Go.Proofs.YtghdiolnonejaaaGreatDoor
end
