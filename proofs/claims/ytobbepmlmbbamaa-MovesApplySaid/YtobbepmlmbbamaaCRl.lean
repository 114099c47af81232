/-
 The text Rl.
-/
import Derived.Test.YtobbepmlmbbamaaB00
import Derived.Test.YtobbepmlmbbamaaB01
import Derived.Test.YtobbepmlmbbamaaB02
import Derived.Test.YtobbepmlmbbamaaB03
import Derived.Test.YtobbepmlmbbamaaB05
set_option linter.unusedVariables false
set_option linter.unusedSimpArgs false
section
namespace Go.Proofs.Ytobbepmlmbbamaa
open Go Go.RowKit
theorem own_row_ne {W:World} {base b n:Nat} {t:TypeId} {v:Value} {xs vs:List Value} (h:W.ownsRow base 3 1 v n xs) (hr:Row W b t vs) (ht:3 ≠ t):some b ≠ v.ownBlock := by
 intro e
 obtain ⟨cs,fr,h3⟩:=ownsRow_block h b e.symm
 rw [hr] at h3
 injection h3 with h3
 injection h3 with _ h4
 exact ht h4.symm
theorem own_setRow {W:World} {base b n:Nat} {t:TypeId} {v:Value} {xs vs:List Value} (h:W.ownsRow base 3 1 v n xs) (hr:Row W b t vs) (ht:3 ≠ t) (o:Nat) (u:Value):(W.setCell ⟨b,o,none⟩ u).ownsRow base 3 1 v n xs := by
 have hne:=own_row_ne h hr ht
 obtain ⟨A,c,rfl⟩:=owns_slice h
 refine ⟨h.1,?_⟩
 rcases h.2 with hz | ⟨g,cap,cur,r1,r2,r3,r4⟩
 ·exact .inl hz
 ·refine .inr ⟨g,cap,cur,r1,r2,?_,r4⟩
  have hgb:g ≠ b:=fun e => hne (by rw [r1,← e]; rfl)
  exact (Below.heap_setCell W ⟨b,o,none⟩ u g hgb).trans r3
structure RK (base:Nat) (w:World) (vS vM:Value) (n q:Nat) (lp:Int) (mv:List Value) (ss:List Int) (l:List Nat) (W:World):Prop where
 d:Row W w.heap.size 24 [vS,vM,.int .i64 lp]
 m:Row W (w.heap.size + 1) 28 mv
 rd:∃ vs,Row W (w.heap.size + 1 + 1) 24 vs ∧ vs.length = 3
 rm:∃ us,Row W (w.heap.size + 1 + 1 + 1) 28 us ∧ us.length = 5
 s:W.ownsRow base 3 1 vS n (ss.map (.int .i64))
 o:W.ownsRow base 3 1 vM q (l.map (fun k:Nat => Value.int .i64 k))
 ne:∀ k,vS.ownBlock = some k → vM.ownBlock ≠ some k
 bel:Below base w W
 le:base ≤ w.heap.size
section
variable {base:Nat} {w W W' W2:World} {vS vM v':Value} {n q:Nat} {lp:Int} {mv:List Value} {ss:List Int} {l:List Nat}
theorem RK.big (h:RK base w vS vM n q lp mv ss l W):w.heap.size + 4 ≤ W.heap.size := by
 obtain ⟨_,h1,_⟩:=h.rm
 have:=h1.lt; omega
theorem RK.below (h:RK base w vS vM n q lp mv ss l W) (hb:Below W.heap.size W W'):RK base w vS vM n q lp mv ss l W' :=
 let ⟨vs,r1,l1⟩:=h.rd
 let ⟨us,r2,l2⟩:=h.rm
 ⟨h.d.below hb,h.m.below hb,⟨vs,r1.below hb,l1⟩,⟨us,r2.below hb,l2⟩,own_keep h.s hb (Nat.le_refl _),own_keep h.o hb (Nat.le_refl _),h.ne,h.bel.trans (hb.mono (by have := h.big; have := h.le; omega)),h.le⟩
theorem RK.alloc (h:RK base w vS vM n q lp mv ss l W) (o:Obj):RK base w vS vM n q lp mv ss l (W.alloc o) := h.below ((Below.refl _ _).alloc (Nat.le_refl _) o)
theorem RK.drew (h:RK base w vS vM n q lp mv ss l W):RK base w vS vM n q lp mv ss l W.drew := ⟨h.d,h.m,h.rd,h.rm,h.s,h.o,h.ne,h.bel.drew,h.le⟩
theorem RK.drewN (h:RK base w vS vM n q lp mv ss l W) (k:Nat):RK base w vS vM n q lp mv ss l (W.drewN k) := ⟨h.d,h.m,h.rd,h.rm,h.s,h.o,h.ne,Below.drewN' h.bel k,h.le⟩
theorem RK.kept (h:RK base w vS vM n q lp mv ss l W) (gr:W.grownBy W2 vM.ownBlock) {l':List Nat} (own:W2.ownsRow base 3 1 vM q (l'.map (fun k:Nat => Value.int .i64 k))):RK base w vS vM n q lp mv ss l' W2 := by
 obtain ⟨vs,r1,l1⟩:=h.rd
 obtain ⟨us,r2,l2⟩:=h.rm
 refine ⟨h.d.grown gr (own_row_ne h.o h.d (by decide)),h.m.grown gr (own_row_ne h.o h.m (by decide)),⟨vs,r1.grown gr (own_row_ne h.o r1 (by decide)),l1⟩,⟨us,r2.grown gr (own_row_ne h.o r2 (by decide)),l2⟩,?_,own,h.ne,?_,h.le⟩
 ·refine h.s.kept gr ?_
  cases hm:vS.ownBlock with
  | none => exact .inl rfl
  | some g => exact .inr (fun e => h.ne g hm e.symm)
 ·exact h.bel.grown gr (by have := h.bel.size; have := h.le; omega) (fun k hk => (h.o.lt k hk).1)
theorem RK.setL (h:RK base w vS vM n q lp mv ss l W) (lp':Int):RK base w vS vM n q lp' mv ss l (W.setCell ⟨w.heap.size,2,none⟩ (.int .i64 lp')) := by
 obtain ⟨vs,r1,l1⟩:=h.rd
 obtain ⟨us,r2,l2⟩:=h.rm
 exact ⟨h.d.set 2 _,h.m.other (by show _ ≠ w.heap.size; omega) _,⟨vs,r1.other (by show _ ≠ w.heap.size; omega) _,l1⟩,⟨us,r2.other (by show _ ≠ w.heap.size; omega) _,l2⟩,own_setRow h.s h.d (by decide) _ _,own_setRow h.o h.d (by decide) _ _,h.ne,h.bel.setCell h.le _,h.le⟩
theorem RK.setD (h:RK base w vS vM n q lp mv ss l W) (o:Nat) (v:Value):RK base w vS vM n q lp mv ss l (W.setCell ⟨w.heap.size + 1 + 1,o,none⟩ v) := by
 obtain ⟨vs,r1,l1⟩:=h.rd
 obtain ⟨us,r2,l2⟩:=h.rm
 exact ⟨h.d.other (by show _ ≠ w.heap.size + 1 + 1; omega) _,h.m.other (by show _ ≠ w.heap.size + 1 + 1; omega) _,⟨_,r1.set o v,by rw [List.length_set,l1]⟩,⟨us,r2.other (by show _ ≠ w.heap.size + 1 + 1; omega) _,l2⟩,own_setRow h.s r1 (by decide) _ _,own_setRow h.o r1 (by decide) _ _,h.ne,h.bel.setCell (by have := h.le; show base ≤ w.heap.size + 1 + 1; omega) _,h.le⟩
theorem RK.setM (h:RK base w vS vM n q lp mv ss l W) (o:Nat) (v:Value):RK base w vS vM n q lp mv ss l (W.setCell ⟨w.heap.size + 1 + 1 + 1,o,none⟩ v) := by
 obtain ⟨vs,r1,l1⟩:=h.rd
 obtain ⟨us,r2,l2⟩:=h.rm
 exact ⟨h.d.other (by show _ ≠ w.heap.size + 1 + 1 + 1; omega) _,h.m.other (by show _ ≠ w.heap.size + 1 + 1 + 1; omega) _,⟨vs,r1.other (by show _ ≠ w.heap.size + 1 + 1 + 1; omega) _,l1⟩,⟨_,r2.set o v,by rw [List.length_set,l2]⟩,own_setRow h.s r2 (by decide) _ _,own_setRow h.o r2 (by decide) _ _,h.ne,h.bel.setCell (by have := h.le; show base ≤ w.heap.size + 1 + 1 + 1; omega) _,h.le⟩
theorem RK.setO (h:RK base w vS vM n q lp mv ss l W) {b:Nat} {t:TypeId} {vs:List Value} (hr:Row W b t vs) (ht:3 ≠ t) (hb:w.heap.size + 4 ≤ b) (o:Nat) (v:Value):RK base w vS vM n q lp mv ss l (W.setCell ⟨b,o,none⟩ v) := by
 obtain ⟨vs,r1,l1⟩:=h.rd
 obtain ⟨us,r2,l2⟩:=h.rm
 exact ⟨h.d.other (by show _ ≠ b; omega) _,h.m.other (by show _ ≠ b; omega) _,⟨vs,r1.other (by show _ ≠ b; omega) _,l1⟩,⟨us,r2.other (by show _ ≠ b; omega) _,l2⟩,own_setRow h.s hr ht _ _,own_setRow h.o hr ht _ _,h.ne,h.bel.setCell (by have := h.le; show base ≤ b; omega) _,h.le⟩
theorem RK.appS {ss':List Int} {n':Nat} (h:RK base w vS vM n q lp mv ss l W) (own:W2.ownsRow base 3 1 v' n' (ss'.map (.int .i64))) (gr:W.grownBy W2 vS.ownBlock) {g':Nat} (hv:v'.ownBlock = some g') (hat0:vS.ownBlock = some g' ∨ g' = W.heap.size) :
 RK base w v' vM n' q lp mv ss' l (W2.setCell ⟨w.heap.size,0,none⟩ v') := by
 have hat:v'.ownBlock = vS.ownBlock ∨ v'.ownBlock = some W.heap.size:=by
  rcases hat0 with e | e
  ·exact .inl (hv.trans e.symm)
  ·exact .inr (hv.trans (congrArg some e))
 obtain ⟨vs,r1,l1⟩:=h.rd
 obtain ⟨us,r2,l2⟩:=h.rm
 have hd:=h.d.grown gr (own_row_ne h.s h.d (by decide))
 refine ⟨hd.set 0 v',(h.m.grown gr (own_row_ne h.s h.m (by decide))).other (by show _ ≠ w.heap.size; omega) _,⟨vs,(r1.grown gr (own_row_ne h.s r1 (by decide))).other (by show _ ≠ w.heap.size; omega) _,l1⟩,⟨us,(r2.grown gr (own_row_ne h.s r2 (by decide))).other (by show _ ≠ w.heap.size; omega) _,l2⟩,own_setRow own hd (by decide) _ _,?_,?_,?_,h.le⟩
 ·refine own_setRow (h.o.kept gr ?_) hd (by decide) _ _
  cases hm:vM.ownBlock with
  | none => exact .inl rfl
  | some g => exact .inr (fun e => h.ne g e.symm hm)
 ·intro g hg hm
  rcases hat with e | e
  ·exact h.ne g (e ▸ hg) hm
  ·rw [e] at hg
   injection hg with hg
   have:=(h.o.lt g hm).2
   omega
 ·exact (h.bel.grown gr (by have := h.bel.size; have := h.le; omega) (fun k hk => (h.s.lt k hk).1)).setCell h.le _
theorem RK.appM {l':List Nat} {q':Nat} (h:RK base w vS vM n q lp mv ss l W) (own:W2.ownsRow base 3 1 v' q' (l'.map (fun k:Nat => Value.int .i64 k))) (gr:W.grownBy W2 vM.ownBlock) {g':Nat} (hv:v'.ownBlock = some g') (hat0:vM.ownBlock = some g' ∨ g' = W.heap.size) :
 RK base w vS v' n q' lp mv ss l' (W2.setCell ⟨w.heap.size,1,none⟩ v') := by
 have hat:v'.ownBlock = vM.ownBlock ∨ v'.ownBlock = some W.heap.size:=by
  rcases hat0 with e | e
  ·exact .inl (hv.trans e.symm)
  ·exact .inr (hv.trans (congrArg some e))
 obtain ⟨vs,r1,l1⟩:=h.rd
 obtain ⟨us,r2,l2⟩:=h.rm
 have hd:=h.d.grown gr (own_row_ne h.o h.d (by decide))
 refine ⟨hd.set 1 v',(h.m.grown gr (own_row_ne h.o h.m (by decide))).other (by show _ ≠ w.heap.size; omega) _,⟨vs,(r1.grown gr (own_row_ne h.o r1 (by decide))).other (by show _ ≠ w.heap.size; omega) _,l1⟩,⟨us,(r2.grown gr (own_row_ne h.o r2 (by decide))).other (by show _ ≠ w.heap.size; omega) _,l2⟩,?_,own_setRow own hd (by decide) _ _,?_,?_,h.le⟩
 ·refine own_setRow (h.s.kept gr ?_) hd (by decide) _ _
  cases hm:vS.ownBlock with
  | none => exact .inl rfl
  | some g => exact .inr (fun e => h.ne g hm e.symm)
 ·intro g hg hm
  rcases hat with e | e
  ·exact h.ne g hg (e ▸ hm)
  ·rw [e] at hm
   injection hm with hm
   have:=(h.s.lt g hg).2
   omega
 ·exact (h.bel.grown gr (by have := h.bel.size; have := h.le; omega) (fun k hk => (h.o.lt k hk).1)).setCell h.le _
def st8 (w W:World) (y0 y1 y2 z0 z1 z2 z3 z4:Value):World := ((((((((W.setCell ⟨w.heap.size + 1 + 1,0,none⟩ y0).setCell ⟨w.heap.size + 1 + 1,1,none⟩ y1).setCell ⟨w.heap.size + 1 + 1,2,none⟩ y2).setCell ⟨w.heap.size + 1 + 1 + 1,0,none⟩ z0).setCell ⟨w.heap.size + 1 + 1 + 1,1,none⟩ z1).setCell ⟨w.heap.size + 1 + 1 + 1,2,none⟩ z2).setCell ⟨w.heap.size + 1 + 1 + 1,3,none⟩ z3).setCell ⟨w.heap.size + 1 + 1 + 1,4,none⟩ z4)
theorem RK.fin (h:RK base w vS vM n q lp mv ss l W) (y0 y1 y2 z0 z1 z2 z3 z4:Value):RK base w vS vM n q lp mv ss l (st8 w W y0 y1 y2 z0 z1 z2 z3 z4) :=
 (((((((h.setD 0 y0).setD 1 y1).setD 2 y2).setM 0 z0).setM 1 z1).setM 2 z2).setM 3 z3).setM 4 z4
theorem RK.cells (h:RK base w vS vM n q lp mv ss l W) (y0 y1 y2 z0 z1 z2 z3 z4:Value) :
 (st8 w W y0 y1 y2 z0 z1 z2 z3 z4).cell? ⟨w.heap.size + 1 + 1,0,none⟩ = some y0 ∧ (st8 w W y0 y1 y2 z0 z1 z2 z3 z4).cell? ⟨w.heap.size + 1 + 1,1,none⟩ = some y1 ∧ (st8 w W y0 y1 y2 z0 z1 z2 z3 z4).cell? ⟨w.heap.size + 1 + 1,2,none⟩ = some y2 ∧ (st8 w W y0 y1 y2 z0 z1 z2 z3 z4).cell? ⟨w.heap.size + 1 + 1 + 1,0,none⟩ = some z0 ∧ (st8 w W y0 y1 y2 z0 z1 z2 z3 z4).cell? ⟨w.heap.size + 1 + 1 + 1,1,none⟩ = some z1 ∧ (st8 w W y0 y1 y2 z0 z1 z2 z3 z4).cell? ⟨w.heap.size + 1 + 1 + 1,2,none⟩ = some z2 ∧ (st8 w W y0 y1 y2 z0 z1 z2 z3 z4).cell? ⟨w.heap.size + 1 + 1 + 1,3,none⟩ = some z3 ∧ (st8 w W y0 y1 y2 z0 z1 z2 z3 z4).cell? ⟨w.heap.size + 1 + 1 + 1,4,none⟩ = some z4 := by
 obtain ⟨vs,r1,l1⟩:=h.rd
 obtain ⟨us,r2,l2⟩:=h.rm
 exact fin8 r1 r2 l1 l2 (by omega) y0 y1 y2 z0 z1 z2 z3 z4
end
def RErr (c:Int) (e:Ending):Prop := ∃ (A B:Option Addr) (n q c1 c2:Nat) (lp k x y s:Int) (o:Bool),e = .returned (.tuple #[.agg #[.slice A n c1,.slice B q c2,.int .i64 lp],.agg #[.int .i64 k,.int .i64 x,.int .i64 y,.int .i64 s,.bool o],.int .i64 c])
def RC (base:Nat) (c:Int) (r:Pl.Dg) (mv:Mv) (w:World) (e:Ending) (w':World):Prop := (c ≠ 0 → RErr c e) ∧ (c = 0 → ResOk r mv e w') ∧ Below base w w'
structure Own2 (base:Nat) (w:World) (vS vM:Value) (n q:Nat) (ss:List Int) (l:List Nat):Prop where
 s:w.ownsRow base 3 1 vS n (ss.map (.int .i64))
 o:w.ownsRow base 3 1 vM q (l.map (fun k:Nat => Value.int .i64 k))
 ne:∀ k,vS.ownBlock = some k → vM.ownBlock ≠ some k
 le:base ≤ w.heap.size
theorem RK.start {base:Nat} {w:World} {vS vM:Value} {n q:Nat} {ss:List Int} {l:List Nat} (h:Own2 base w vS vM n q ss l) (lp:Int) (y0 y1 y2 y3 y4:Value):RK base w vS vM n q lp [y0,y1,y2,y3,y4] ss l (W4 w vS vM (.int .i64 lp) y0 y1 y2 y3 y4) := by
 obtain ⟨x0,x1,x2,x3,b0,_⟩:=boxes4 w vS vM (.int .i64 lp) y0 y1 y2 y3 y4
 exact ⟨x0,x1,⟨_,x2,rfl⟩,⟨_,x3,rfl⟩,own_keep h.s b0 (Nat.le_refl _),own_keep h.o b0 (Nat.le_refl _),h.ne,b0.mono h.le,h.le⟩
end Go.Proofs.Ytobbepmlmbbamaa
end
