/-
 The text Sgn.
-/
import Derived.Test.YtobbepmlmbbamaaB00
import Derived.Test.YtobbepmlmbbamaaB01
import Derived.Test.YtobbepmlmbbamaaB05
set_option linter.unusedVariables false
set_option linter.unusedSimpArgs false
section
namespace Go.Proofs.Ytobbepmlmbbamaa.Pl
def sm (f:Nat → Int):Nat → Int
 | 0 => 0
 | k + 1 => sm f k + f k
theorem sum_append' (l r:List Int):(l ++ r).sum = l.sum + r.sum := by simp
theorem sum_one (x:Int):[x].sum = x := by simp
theorem left_sum_one (f:Nat → Int) (c:Nat):∀ k,((left k [c]).map f).sum = sm f k - if c < k then f c else 0
 | 0 => by simp [left_zero,sm]
 | k + 1 => by
   rw [left_succ,List.map_append,sum_append',left_sum_one f c k]
   show _ = sm f k + f k - _
   by_cases h:k = c
   ·subst h; simp; try omega
   ·have:([c].contains k) = false:=by simp [h]
    rw [this]
    simp only [Bool.false_eq_true,if_false,List.map_cons,List.map_nil,sum_one]
    by_cases h2:c < k
    ·rw [if_pos h2,if_pos (by omega)]; omega
    ·rw [if_neg h2,if_neg (by omega)]; omega
theorem left_sum_two (f:Nat → Int) {x y:Nat} (hxy:x < y):∀ k,((left k [x,y]).map f).sum = sm f k - (if x < k then f x else 0) - if y < k then f y else 0
 | 0 => by simp [left_zero,sm]
 | k + 1 => by
   rw [left_succ,List.map_append,sum_append',left_sum_two f hxy k]
   show _ = sm f k + f k - _ - _
   by_cases h:k = x
   ·subst h
    have:([k,y].contains k) = true:=by simp
    rw [this]
    simp only [if_true,List.map_nil,List.sum_nil]
    rw [if_neg (Nat.lt_irrefl _),if_pos (Nat.lt_succ_self _),if_neg (by omega),if_neg (by omega)]
    omega
   ·by_cases h3:k = y
    ·subst h3
     have:([x,k].contains k) = true:=by simp
     rw [this]
     simp only [if_true,List.map_nil,List.sum_nil]
     rw [if_pos hxy,if_neg (Nat.lt_irrefl k),if_pos (show x < k + 1 by omega),if_pos (Nat.lt_succ_self k)]
     omega
    ·have:([x,y].contains k) = false:=by simp [h,h3]
     rw [this]
     simp only [Bool.false_eq_true,if_false,List.map_cons,List.map_nil,sum_one]
     by_cases h2:x < k <;> by_cases h4:y < k
     ·rw [if_pos h2,if_pos (show x < k + 1 by omega),if_pos h4,if_pos (show y < k + 1 by omega)]; omega
     ·rw [if_pos h2,if_pos (show x < k + 1 by omega),if_neg h4,if_neg (show ¬ y < k + 1 by omega)]; omega
     ·omega
     ·rw [if_neg h2,if_neg (show ¬ x < k + 1 by omega),if_neg h4,if_neg (show ¬ y < k + 1 by omega)]; omega
theorem sm_list (l:List Int):sm (fun c => l.getD c 0) l.length = l.sum := by
 have key:∀ (l:List Int) (k:Nat),k ≤ l.length → sm (fun c => l.getD c 0) k = (l.take k).sum:=by
  intro l k
  induction k with
  | zero => intro _; rfl
  | succ k ih =>
    intro h
    show sm _ k + l.getD k 0 = _
    rw [ih (by omega),List.take_add_one,List.getElem?_eq_getElem (by omega),sum_append',List.getD_eq_getElem?_getD,List.getElem?_eq_getElem (by omega)]
    simp
 rw [key l l.length (Nat.le_refl _),List.take_length]
theorem shrS_one (sg:List Int) {c:Nat} (h:c < sg.length):(shrS [c] sg).sum = sg.sum - sg.getD c 0 := by
 unfold shrS
 rw [left_sum_one,if_pos h,sm_list]
theorem shrS_two (sg:List Int) {x y:Nat} (hxy:x < y) (h:y < sg.length):(shrS [x,y] sg).sum = sg.sum - sg.getD x 0 - sg.getD y 0 := by
 unfold shrS
 rw [left_sum_two _ hxy,if_pos (by omega),if_pos h,sm_list]
theorem lens_signs {d:Dg} (hd:Wf d) {h:Nat} (hh:h < 4 * d.n) (hg:nx d (nx d h) = h) (hp:h % 2 = d.m h % 2):d.s (h / 4) + d.s (nx d h / 4) = 0 := by
 have hm:=hd.lt h hh
 have w1:=hd.way h hh
 have hgl:nx d h < 4 * d.n:=tn_lt hm
 have w2:=hd.way (nx d h) hgl
 have s1:=hd.sign (h / 4) (by omega)
 have s2:=hd.sign (d.m h / 4) (by omega)
 have e1:d.m (nx d h) / 4 = h / 4:=by
  have:=congrArg (· / 4) hg
  simp only [nx,tn_div] at this
  exact this
 have e2:d.m (nx d h) % 4 = (h % 4 + 1) % 4:=by
  have:=congrArg (· % 4) hg
  unfold nx at this
  simp only [tn_mod] at this
  rw [← this]
  unfold nx
  omega
 have e3:nx d h / 4 = d.m h / 4:=by unfold nx; rw [tn_div]
 have e4:nx d h % 4 = (d.m h % 4 + 3) % 4:=by unfold nx; rw [tn_mod]
 rw [e3]
 unfold out at w1 w2
 rw [e1,e2,e3,e4] at w2
 generalize d.s (h / 4) = s at *
 generalize d.s (d.m h / 4) = t at *
 have ha:h % 4 = 0 ∨ h % 4 = 1 ∨ h % 4 = 2 ∨ h % 4 = 3:=by omega
 have hb:d.m h % 4 = 0 ∨ d.m h % 4 = 1 ∨ d.m h % 4 = 2 ∨ d.m h % 4 = 3:=by omega
 rcases ha with a | a | a | a <;> rcases hb with b | b | b | b <;> (first | (exfalso; omega) | skip) <;> rw [a,b] at w1 w2 <;> rcases s1 with rfl | rfl <;> rcases s2 with rfl | rfl <;> simp at w1 w2 ⊢
end Go.Proofs.Ytobbepmlmbbamaa.Pl
end
