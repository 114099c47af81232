/-
 The texts Rapa.
-/
import Derived.Test.YtobbepmlmbbamaaH15
import Derived.Test.YtobbepmlmbbamaaH16
import Derived.Test.YtobbepmlmbbamaaH18
set_option linter.unusedVariables false
set_option linter.unusedSimpArgs false
section
namespace Go.Proofs.Ytobbepmlmbbamaa
open Go Go.RowKit
theorem rpoke_any (d:Pl.Dg)(hd:Pl.Valid d)(base cp cq m:Nat)(A B:Option Addr)(x y s:Int)(o:Bool)(w:World)(hm:m=4 * d.n)(h:Own2 base w (.slice A d.n cp) (.slice B m cq) d.n m d.sg d.mt) :
 Calls Try.prog 55 #[.agg #[.slice A d.n cp,.slice B m cq,.int .i64 d.lp],.agg #[.int .i64 3,.int .i64 x,.int .i64 y,.int .i64 s,.bool o]] w (RC base (apC d ⟨3,x,y,s,o⟩) (apD d ⟨3,x,y,s,o⟩) (apI d ⟨3,x,y,s,o⟩) w):=by
 by_cases hin:inR d.n ⟨3,x,y,s,o⟩
 ·have e : apC d ⟨3, x, y, s, o⟩ = pkQ d x y s := by
   unfold apC
   rw [if_neg (by simp),if_neg (by rw [Pl.vb_true hin];decide),if_neg (by simp),if_neg (by simp),if_pos rfl]
  rw [e]
  exact rpoke_in d hd.wf base cp cq m A B 3 x y s o w hm h hin
 ·have e : apC d ⟨3, x, y, s, o⟩ = 2 := by
   unfold apC
   rw [if_neg (by simp),if_pos (Pl.vb_false hin)]
  rw [e]
  exact rpoke_range base d.n m cp cq A B d.lp 3 x y s o d.sg d.mt _ _ w h (by have:=hd.wf.few;omega) hin
theorem runpoke_any (d:Pl.Dg)(hd:Pl.Valid d)(base cp cq m:Nat)(A B:Option Addr)(x y s:Int)(o:Bool)(w:World)(hm:m=4 * d.n)(h:Own2 base w (.slice A d.n cp) (.slice B m cq) d.n m d.sg d.mt) :
 Calls Try.prog 56 #[.agg #[.slice A d.n cp,.slice B m cq,.int .i64 d.lp],.agg #[.int .i64 4,.int .i64 x,.int .i64 y,.int .i64 s,.bool o]] w (RC base (apC d ⟨4,x,y,s,o⟩) (apD d ⟨4,x,y,s,o⟩) (apI d ⟨4,x,y,s,o⟩) w):=by
 by_cases hin:inR d.n ⟨4,x,y,s,o⟩
 ·have hi : 0 ≤ x ∧ x < y ∧ y < d.n ∧ s = 0 ∧ o = false := by
   have:=hin
   unfold inR at this
   simpa using this
  obtain ⟨h0,h1,h2,rfl,rfl⟩:=hi
  obtain ⟨a,rfl⟩:=Int.eq_ofNat_of_zero_le h0
  obtain ⟨b,rfl⟩:=Int.eq_ofNat_of_zero_le (show 0≤y by omega)
  have e:apC d ⟨4,(a:Int),(b:Int),0,false⟩=unpC d a b:=by
   unfold apC
   rw [if_neg (by simp),if_neg (by rw [Pl.vb_true hin];decide),if_neg (by simp),if_neg (by simp),if_neg (by simp),if_pos rfl]
   rfl
  rw [e]
  exact runpoke_in d hd.wf base cp cq m A B 4 a b w hm h (by omega) (by omega)
 ·have e : apC d ⟨4, x, y, s, o⟩ = 2 := by
   unfold apC
   rw [if_neg (by simp),if_pos (Pl.vb_false hin)]
  rw [e]
  exact runpoke_range base d.n m cp cq A B d.lp 4 x y s o d.sg d.mt _ _ w h (by have:=hd.wf.few;omega) hin
theorem rslide_any (d:Pl.Dg)(hd:Pl.Valid d)(base cp cq m:Nat)(A B:Option Addr)(x y s:Int)(o:Bool)(w:World)(hm:m=4 * d.n)(h:Own2 base w (.slice A d.n cp) (.slice B m cq) d.n m d.sg d.mt) :
 Calls Try.prog 57 #[.agg #[.slice A d.n cp,.slice B m cq,.int .i64 d.lp],.agg #[.int .i64 5,.int .i64 x,.int .i64 y,.int .i64 s,.bool o]] w (RC base (apC d ⟨5,x,y,s,o⟩) (apD d ⟨5,x,y,s,o⟩) (apI d ⟨5,x,y,s,o⟩) w):=by
 by_cases hin:inR d.n ⟨5,x,y,s,o⟩
 ·have hi : 0 ≤ x ∧ x < 4 * d.n ∧ y = 0 ∧ s = 0 ∧ o = false := by
   have:=hin
   unfold inR at this
   simpa using this
  obtain ⟨h0,h1,rfl,rfl,rfl⟩:=hi
  obtain ⟨a,rfl⟩:=Int.eq_ofNat_of_zero_le h0
  have e:apC d ⟨5,(a:Int),0,0,false⟩=sldC d a:=by
   unfold apC
   rw [if_neg (by simp),if_neg (by rw [Pl.vb_true hin];decide),if_neg (by simp),if_neg (by simp),if_neg (by simp),if_neg (by simp)]
   rfl
  rw [e]
  exact rslide_in d hd base cp cq m A B 5 a w hm h (by omega)
 ·have e : apC d ⟨5, x, y, s, o⟩ = 2 := by
   unfold apC
   rw [if_neg (by simp),if_pos (Pl.vb_false hin)]
  rw [e]
  exact rslide_range base d.n m cp cq A B d.lp 5 x y s o d.sg d.mt _ _ w h (by have:=hd.wf.few;omega) hm hin
end Go.Proofs.Ytobbepmlmbbamaa
end
