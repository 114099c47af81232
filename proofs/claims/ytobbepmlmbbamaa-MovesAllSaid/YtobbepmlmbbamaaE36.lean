/-
 The texts Xy, Open.
-/
import Derived.Test.YtobbepmlmbbamaaE35
set_option linter.unusedVariables false
set_option linter.unusedSimpArgs false
section
namespace Go.Proofs.Ytobbepmlmbbamaa
open Go Go.RowKit
attribute [local go_sem ↓] Go.wp_at_zero Go.wp_at_succ
section
variable {w W W' W2:World} {vR vS:Value} {rs ss:List Mv} {m:Mv} {g n c:Nat}
theorem apart {v u:Value} (ne:∀ g,v.ownBlock = some g → u.ownBlock = some g → False):u.ownBlock = none ∨ u.ownBlock ≠ v.ownBlock := by
 cases hu:u.ownBlock with
 | none => exact .inl rfl
 | some g => exact .inr (fun e => ne g e.symm hu)
end
theorem filt_s {L:List Mv} {y:Mv} {q:Nat} (p:Mv → Bool) (h:L[q]? = some y):(L.take (q + 1)).filter p = (L.take q).filter p ++ if p y then [y] else [] := by
 obtain ⟨hq,e⟩:=List.getElem?_eq_some_iff.1 h
 rw [List.take_succ_eq_append_getElem hq,List.filter_append,e]
 simp [List.filter_cons]
theorem filt_len {L:List Mv} (p:Mv → Bool) (q:Nat):((L.take q).filter p).length ≤ L.length := by
 have a:=List.length_filter_le p (L.take q)
 have b:(L.take q).length ≤ L.length:=by rw [List.length_take]; omega
 omega
theorem pkN_len (x y:Int):∀ k,(pkN x y k).length ≤ 2 * k
 | 0 => Nat.le_refl _
 | k + 1 => by
   have a:=pkN_len x y k
   show (pkN x y k ++ [_,_]).length ≤ _
   rw [List.length_append]
   simp only [List.length_cons,List.length_nil]
   omega
theorem pkNY_len (x:Int):∀ k,(pkNY x k).length ≤ 6 * k
 | 0 => Nat.le_refl _
 | k + 1 => by
   have a:=pkNY_len x k
   have b:=pkN_len x ((k:Int) - 2) 3
   show (pkNY x k ++ pkN x ((k:Int) - 2) 3).length ≤ _
   rw [List.length_append]
   omega
theorem pkNX_len {n:Nat} (hn:n ≤ 64):∀ k,(pkNX n k).length ≤ 1548 * k
 | 0 => Nat.le_refl _
 | k + 1 => by
   have a:=pkNX_len hn k
   have b:=pkNY_len ((k:Int) - 2) (4 * n + 2)
   show (pkNX n k ++ pkNY ((k:Int) - 2) (4 * n + 2)).length ≤ _
   rw [List.length_append]
   omega
theorem allL_le {d:Pl.Dg} (hn:d.n ≤ 64):(allL d).length ≤ 500000 := by
 have a:=cu_le (d := d) hn
 have b:=un_le (d := d) hn
 have c:=sel_len d (pkNX d.n (4 * d.n + 2))
 have c2:=pkNX_len hn (4 * d.n + 2)
 have e:=up_le (d := d) hn
 have f:=slL_len d (4 * d.n)
 unfold allL
 simp only [List.length_append]
 omega
theorem remL_le {d:Pl.Dg} (hn:d.n ≤ 64):(remL d).length ≤ 5000 := by
 have b:=un_le (d := d) hn
 have e:=up_le (d := d) hn
 unfold remL
 rw [List.length_append]
 omega
end Go.Proofs.Ytobbepmlmbbamaa
end
section
namespace Go.Proofs.Ytobbepmlmbbamaa
open Go.ChangeShapes Go.WideShapes Go.ChangeAt Go.RowKit Go.Deep
section
variable {H:Type} {enc:TypeId × Value → H} {P:Program} {w:World} {base:Nat} {spare:Nat → Bool} {held:Bool}
theorem post_of_below {f:Func} {s:ChangeSpec} {apart fresh handsOn again:Bool} {W W':World} {args:Array Value} {v:Value} {ds gs:List (DataW H)} {before pa pv:List MemPlace}
 (hW:DataW.Whole enc P f.params.toList s.vars apart W args.toList ds gs before)
 (hres:∀ (b:Nat) (sp:Nat → Bool) (hd:Bool),DataW.TrodAll enc P W' b sp hd f.resultTypes.toList (v.resultList f.resultTypes.size) (s.fn H (ds ++ gs)).results [])
 (hargs:∀ sp:Nat → Bool,(∀ p ∈ before,sp p.block = true) → DataW.TrodAll enc P W' 0 sp true f.params.toList args.toList (s.fn H (ds ++ gs)).args pa)
 (hvars:∀ sp:Nat → Bool,(∀ p ∈ before,sp p.block = true) → DataW.TrodVars enc P W' sp s.vars (s.fn H (ds ++ gs)).vars pv)
 (hps:before = pa ++ pv) (hb:Below W.heap.size W W')
 (hok:∀ (j:Nat) (t:TypeId) (r:Value),f.resultTypes[j]? = some t → (v.resultList f.resultTypes.size)[j]? = some r → Value.okWide P W' .any 0 t r) :
 s.post enc P f apart fresh handsOn again W args v W' := by
 have hlt:∀ p ∈ before,p.block < W.heap.size:=fun p hp => hW.lt p hp
 have hold:∀ p ∈ before,(fun b => decide (b < W.heap.size)) p.block = true:=fun p hp => by simpa using hlt p hp
 refine ⟨ds,gs,before,[],pa,pv,hW,hres _ _ _,hargs _ hold,hvars _ hold,World.keptBut_mono (fun p hp => ⟨hp,?_⟩) (hb.frame (· ∈ before)),fun _ => ?_⟩
 ·rw [hps,List.mem_append] at hp
  exact Or.inr hp
 ·obtain ⟨_,_,_,_,_,hz,hn⟩:=hW
  refine ⟨hok,_,_,([] ++ pa) ++ pv,⟨[] ++ pa,pv,trodAll_append (hargs _ (fun _ _ => rfl)) (hres _ _ _),hvars _ (fun _ _ => rfl),rfl,?_,?_⟩,?_⟩
  ·intro b off hp
   have hin:MemPlace.cell b off ∈ before:=by rw [hps]; simpa using hp
   rw [hb.frozen (hlt _ hin)]
   exact hz b off hin
  ·intro ha
   have:=hn ha
   rw [hps] at this
   simpa using this
  ·intro p hp _
   rw [hps]
   simpa using hp
end
end Go.Proofs.Ytobbepmlmbbamaa
end
