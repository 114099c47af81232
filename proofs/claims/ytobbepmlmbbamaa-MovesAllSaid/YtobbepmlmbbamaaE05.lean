/-
 The texts Wp, Xn.
-/
import Derived.Test.YtobbepmlmbbamaaE01
import Derived.ChangeSame
import Derived.ChangeSlices
import Derived.Deep.Fields
import Derived.Deep.Slices
import Derived.Deep.Strs
import Derived.OpenShut
import Derived.ProofKit
set_option linter.unusedVariables false
set_option linter.unusedSimpArgs false
section
namespace Go.Proofs.Ytobbepmlmbbamaa
open Go Go.RowKit
def sheetV (A B L R:Option Addr) (n m:Nat) (lp:Int) (cp cq cl cr:Nat):Value := .agg #[.slice A n cp,.slice B m cq,.int .i64 lp,.slice L m cl,.slice R n cr]
def nearB (F R:List Nat) (d:Pl.Dg) (x y:Nat):Bool := (F.getD x 0 == F.getD y 0 || R.getD (x / 4) 0 != R.getD (y / 4) 0) && d.m x != y
structure ShAt (w:World) (A B L R:Option Addr) (d:Pl.Dg) (F P:List Nat):Prop where
 dg:DgAt w A B d
 l:IntsAt w L (4 * d.n) (nats F)
 p:IntsAt w R d.n (nats P)
theorem ShAt.keep {w w':World} {A B L R:Option Addr} {d:Pl.Dg} {F P:List Nat} (h:ShAt w A B L R d F P) (hb:Below w.heap.size w w'):ShAt w' A B L R d F P := ⟨h.dg.keep hb,h.l.keep hb,h.p.keep hb⟩
set_option maxRecDepth 100000 in
set_option maxHeartbeats 2000000 in
theorem near_any (d:Pl.Dg) (F P:List Nat) (A B L R:Option Addr) (cp cq cl cr m x y:Nat) (w:World) (hm:m = 4 * d.n) (hs:ShAt w A B L R d F P) (hn:d.n ≤ 64) (hx:x < 4 * d.n) (hy:y < 4 * d.n) :
 Calls Try.prog 114 #[sheetV A B L R d.n m d.lp cp cq cl cr,.int .i64 (x:Int),.int .i64 (y:Int)] w fun e w' => e = .returned (.bool (nearB F P d x y)) ∧ Below w.heap.size w w' := by
 unfold sheetV
 have b0:Below w.heap.size w (w.alloc (.cells #[.slice A d.n cp,.slice B m cq,.int .i64 d.lp,.slice L m cl,.slice R d.n cr] 64)):=(Below.refl _ _).alloc (Nat.le_refl _) _
 obtain ⟨W,hW⟩:∃ W,W = w.alloc (.cells #[.slice A d.n cp,.slice B m cq,.int .i64 d.lp,.slice L m cl,.slice R d.n cr] 64) := ⟨_,rfl⟩
 have BX:=hide (show Row W w.heap.size 64 [.slice A d.n cp,.slice B m cq,.int .i64 d.lp,.slice L m cl,.slice R d.n cr] by rw [hW]; exact Row.new w _ [_,_,_,_,_])
 rw [← hW] at b0
 have B0:=hide b0
 have HS:=hide (hs.keep b0)
 have HM:=hide hm
 have HW:=hide hW
 clear b0 hs hW
 obtain ⟨b1,o1,rfl,c1⟩:=nats_at HS.out.l (k := x) hx
 obtain ⟨b1',o1',e1,c2⟩:=nats_at HS.out.l (k := y) hy
 injection e1 with e1
 injection e1 with e11 e12
 subst e11
 subst e12
 obtain ⟨b2,o2,rfl,c3⟩:=nats_at HS.out.p (k := x / 4) (by omega)
 obtain ⟨b2',o2',e2,c4⟩:=nats_at HS.out.p (k := y / 4) (by omega)
 injection e2 with e2
 injection e2 with e21 e22
 subst e21
 subst e22
 obtain ⟨b3,o3,rfl,c5⟩:=mate_at HS.out.dg.m (k := x) hx
 have ix:(0:Int) ≤ (x:Int):=by omega
 have iy:(0:Int) ≤ (y:Int):=by omega
 have jx:(x:Int) < (m:Int):=by omega
 have jy:(y:Int) < (m:Int):=by omega
 have kx:(0:Int) ≤ (x:Int) / 4:=by omega
 have ky:(0:Int) ≤ (y:Int) / 4:=by omega
 have lx:(x:Int) / 4 < (d.n:Int):=by omega
 have ly:(y:Int) / 4 < (d.n:Int):=by omega
 clear hm
 obtain ⟨p,hp⟩:∃ p,p = F.getD x 0 := ⟨_,rfl⟩
 obtain ⟨q,hq⟩:∃ q,q = F.getD y 0 := ⟨_,rfl⟩
 obtain ⟨r,hr⟩:∃ r,r = P.getD (x / 4) 0 := ⟨_,rfl⟩
 obtain ⟨s,hss⟩:∃ s,s = P.getD (y / 4) 0 := ⟨_,rfl⟩
 obtain ⟨u,hu⟩:∃ u,u = d.m x := ⟨_,rfl⟩
 have E:=hide (show nearB F P d x y = ((p == q || r != s) && u != y) by unfold nearB; rw [hp,hq,hr,hss,hu])
 rw [← hp] at c1
 rw [← hq] at c2
 rw [← hr] at c3
 rw [← hss] at c4
 rw [← hu] at c5
 clear hp hq hr hss hu
 go_enter Try.func114,Try.ntmps114
 go_wp2_with fail
 rw [← HW.out]
 obtain ⟨f0,f1,f2,f3,f4,f5⟩:=box5 BX.out
 by_cases h1:p = q
 ·have E2:=hide (show nearB F P d x y = (u != y) by rw [E.out,h1]; simp)
  have t1:((p:Int) == (q:Int)) = true:=by rw [beq_iff_eq]; omega
  have E3:=hide (show (((u:Nat):Int) != ((y:Nat):Int)) = (u != y) by rw [Bool.eq_iff_iff]; simp; omega)
  clear h1
  go_wp2_with fail
  go_quiet (fail)
  go_wp2
  go_ret
  refine ⟨?_,below_drewN B0.out _⟩
  rw [E2.out]
  exact ret_bool E3.out
 ·have t1:((p:Int) == (q:Int)) = false:=by rw [beq_eq_false_iff_ne]; omega
  by_cases h2:r = s
  ·have E2:=hide (show nearB F P d x y = false by rw [E.out,h2]; simp [h1])
   have t2:((r:Int) != (s:Int)) = false:=by rw [bne_eq_false_iff_eq]; omega
   clear h1 h2
   go_wp2_with fail
   go_quiet (fail)
   go_wp2
   go_ret
   refine ⟨?_,below_drewN B0.out _⟩
   rw [E2.out]
   rfl
  ·have E2:=hide (show nearB F P d x y = (u != y) by rw [E.out]; simp [h1,h2])
   have t2:((r:Int) != (s:Int)) = true:=by rw [bne_iff_ne]; omega
   have E3:=hide (show (((u:Nat):Int) != ((y:Nat):Int)) = (u != y) by rw [Bool.eq_iff_iff]; simp; omega)
   clear h1 h2
   go_wp2_with fail
   go_quiet (fail)
   go_wp2
   go_ret
   refine ⟨?_,below_drewN B0.out _⟩
   rw [E2.out]
   exact ret_bool E3.out
end Go.Proofs.Ytobbepmlmbbamaa
end
section
namespace Go.Proofs.Ytobbepmlmbbamaa
open Go Go.ChangeShapes Go.WideShapes Go.ChangeAt Go.RowKit Go.Deep
theorem spot_noneM {w:World} {a:Addr} {v:Value} (h:w.cell? a = some v):a = ⟨a.block,a.off,none⟩:=by
 obtain ⟨b,o,sp⟩:=a
 cases sp with
 | none => rfl
 | some s =>
   unfold World.cell? at h
   simp only at h
   split at h
   ·simp at h
   ·cases h
theorem addr_formM {w:World} {a:Addr} {v:Value} (h:w.cell? (a.add 0) = some v):∃ b o,a = ⟨b,o,none⟩:=⟨_,_,spot_noneM h⟩
section
variable {H:Type} {enc:TypeId × Value → H} {w:World} {base:Nat} {spare:Nat → Bool} {held:Bool} {fuel:Nat}
theorem ints_of_trod {v:Value} {y:DataW H × List MemPlace} (h:DataW.trod enc Try.prog w base spare held fuel 22 [v] = some y):∃ (A:Option Addr) (n c:Nat) (xs:List Int),v = .slice A n c ∧ n ≤ maxLen ∧ IntsAt w A n xs := by
 rcases open_ints Try.underlying22 Try.underlying3 (by kernel_rfl) h with ⟨h1,_⟩ | ⟨a,len,cap,zs,h1,_,hl,hm,hsl,_,hc,_⟩
 ·obtain rfl:v = .slice none 0 0 := by simpa using h1
  exact ⟨none,0,0,[],rfl,by unfold maxLen; omega,RowAt.nil w⟩
 ·obtain rfl:v = .slice (some a) len cap := by simpa using h1
  have hle:len ≤ zs.length:=by rw [hsl]; split <;> omega
  refine ⟨some a,len,cap,zs.take len,rfl,by omega,by simp; omega,fun hn => ?_⟩
  obtain ⟨b,o,rfl⟩:=addr_formM (hc 0 (by omega))
  refine ⟨b,o,rfl,fun j u hu => ?_⟩
  rw [List.getElem?_map] at hu
  obtain ⟨s,hs,rfl⟩:=Option.map_eq_some_iff.1 hu
  have hj:j < len:=by
   rcases Nat.lt_or_ge j len with h | h
   ·exact h
   ·rw [List.getElem?_eq_none (by simp; omega)] at hs; cases hs
  have:=hc j (by omega)
  rw [Addr.add_lit] at this
  rw [this]
  rw [List.getElem?_take_of_lt hj] at hs
  rw [List.getD_eq_getElem?_getD,hs]
  rfl
theorem int_of_trod {v:Value} {y:DataW H × List MemPlace} (h:DataW.trod enc Try.prog w base spare held fuel 3 [v] = some y):∃ n:Int,v = .int .i64 n ∧ -9223372036854775808 ≤ n ∧ n ≤ 9223372036854775807 := by
 obtain ⟨n,h1,_,hw⟩:=DataW.trod_int Try.underlying3 h
 obtain rfl:v = .int .i64 n := by simpa using h1
 refine ⟨n,rfl,?_⟩
 simp only [Lit.wf,Bool.and_eq_true,decide_eq_true_eq] at hw
 have h1:(IntKind.i64.min:Int) = -9223372036854775808:=by rfl
 have h2:(IntKind.i64.max:Int) = 9223372036854775807:=by rfl
 rw [h1,h2] at hw
 exact hw
set_option maxRecDepth 100000 in
theorem open_dg {r:Reach} {b0:Nat} {v:Value} {d:DataW H} {p:List MemPlace} (hval:Value.okWide Try.prog w r b0 24 v) (h:DataW.Trod enc Try.prog w base spare held 24 v d p) :
 ∃ (A B:Option Addr) (n q cp cq:Nat) (sg mt:List Int) (lp:Int),v = .agg #[.slice A n cp,.slice B q cq,.int .i64 lp] ∧ n ≤ maxLen ∧ q ≤ maxLen ∧ IntsAt w A n sg ∧ IntsAt w B q mt ∧ -9223372036854775808 ≤ lp ∧ lp ≤ 9223372036854775807 := by
 obtain ⟨cs,rfl,hsz⟩:=okWide_struct Try.underlying24 hval
 obtain ⟨fuel,hf⟩:=h
 obtain ⟨c0,c1,c2,rfl⟩:∃ c0 c1 c2,cs = #[c0,c1,c2] := by
  have h3:cs.size = 3:=hsz.trans (by kernel_rfl)
  obtain ⟨l⟩:=cs
  match l,h3 with
  | [a,b,c],_ => exact ⟨a,b,c,rfl⟩
 have hf':DataW.trod enc Try.prog w base spare held fuel 24 [c0,c1,c2] = some (d,p):=hf
 obtain ⟨xs,n',_,_,_,hxl,hfld⟩:=DataW.trod_struct Try.underlying24 hf'
 have c22:Try.prog.cellsOf 22 = 1:=by kernel_rfl
 have c3:Try.prog.cellsOf 3 = 1:=by kernel_rfl
 have g0:DataW.trod enc Try.prog w base spare held n' 22 (([c0,c1,c2].drop 0).take (Try.prog.cellsOf 22)) = xs[0]?:=hfld 0 _ rfl
 have g1:DataW.trod enc Try.prog w base spare held n' 22 (([c0,c1,c2].drop 1).take (Try.prog.cellsOf 22)) = xs[1]?:=hfld 1 _ rfl
 have g2:DataW.trod enc Try.prog w base spare held n' 3 (([c0,c1,c2].drop 2).take (Try.prog.cellsOf 3)) = xs[2]?:=hfld 2 _ rfl
 rw [c22] at g0 g1
 rw [c3] at g2
 simp only [List.drop_zero,List.drop_succ_cons,List.take_succ_cons,List.take_zero] at g0 g1 g2
 have x0:xs[0]? = some (xs[0]'(by rw [hxl]; decide)):=List.getElem?_eq_getElem _
 have x1:xs[1]? = some (xs[1]'(by rw [hxl]; decide)):=List.getElem?_eq_getElem _
 have x2:xs[2]? = some (xs[2]'(by rw [hxl]; decide)):=List.getElem?_eq_getElem _
 rw [x0] at g0
 rw [x1] at g1
 rw [x2] at g2
 obtain ⟨A,n,cp,sg,rfl,hn,hs⟩:=ints_of_trod g0
 obtain ⟨B,q,cq,mt,rfl,hq,hm⟩:=ints_of_trod g1
 obtain ⟨lp,rfl,h1,h2⟩:=int_of_trod g2
 exact ⟨A,B,n,q,cp,cq,sg,mt,lp,rfl,hn,hq,hs,hm,h1,h2⟩
end
end Go.Proofs.Ytobbepmlmbbamaa
end
