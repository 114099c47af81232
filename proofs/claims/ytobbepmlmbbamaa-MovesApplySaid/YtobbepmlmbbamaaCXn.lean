/-
 The text Xn.
-/
import Derived.Test.YtobbepmlmbbamaaB00
import Derived.Test.YtobbepmlmbbamaaB01
import Derived.Test.YtobbepmlmbbamaaB05
import Derived.Test.YtobbepmlmbbamaaRows
import Derived.ProofKit
import Derived.OpenShut
import Derived.Deep.Slices
import Derived.Deep.Fields
import Derived.ChangeSame
import Derived.ChangeSlices
import Derived.Deep.Strs
set_option linter.unusedVariables false
set_option linter.unusedSimpArgs false
section
namespace Go.Proofs.Ytobbepmlmbbamaa
open Go Go.ChangeShapes Go.WideShapes Go.ChangeAt Go.RowKit Go.Deep
theorem spot_noneM {w:World} {a:Addr} {v:Value} (h:w.cell? a = some v):a = ⟨a.block,a.off,none⟩:=by
 obtain ⟨b,o,sp⟩:=a
 cases sp with
 | none => rfl
 | some s =>
   unfold World.cell? at h
   simp only at h
   split at h
   ·simp at h
   ·cases h
theorem addr_formM {w:World} {a:Addr} {v:Value} (h:w.cell? (a.add 0) = some v):∃ b o,a = ⟨b,o,none⟩:=⟨_,_,spot_noneM h⟩
section
variable {H:Type} {enc:TypeId × Value → H} {w:World} {base:Nat} {spare:Nat → Bool} {held:Bool} {fuel:Nat}
theorem ints_of_trod {v:Value} {y:DataW H × List MemPlace} (h:DataW.trod enc Try.prog w base spare held fuel 22 [v] = some y):∃ (A:Option Addr) (n c:Nat) (xs:List Int),v = .slice A n c ∧ n ≤ maxLen ∧ IntsAt w A n xs := by
 rcases open_ints Try.underlying22 Try.underlying3 (by kernel_rfl) h with ⟨h1,_⟩ | ⟨a,len,cap,zs,h1,_,hl,hm,hsl,_,hc,_⟩
 ·obtain rfl:v = .slice none 0 0 := by simpa using h1
  exact ⟨none,0,0,[],rfl,by unfold maxLen; omega,RowAt.nil w⟩
 ·obtain rfl:v = .slice (some a) len cap := by simpa using h1
  have hle:len ≤ zs.length:=by rw [hsl]; split <;> omega
  refine ⟨some a,len,cap,zs.take len,rfl,by omega,by simp; omega,fun hn => ?_⟩
  obtain ⟨b,o,rfl⟩:=addr_formM (hc 0 (by omega))
  refine ⟨b,o,rfl,fun j u hu => ?_⟩
  rw [List.getElem?_map] at hu
  obtain ⟨s,hs,rfl⟩:=Option.map_eq_some_iff.1 hu
  have hj:j < len:=by
   rcases Nat.lt_or_ge j len with h | h
   ·exact h
   ·rw [List.getElem?_eq_none (by simp; omega)] at hs; cases hs
  have:=hc j (by omega)
  rw [Addr.add_lit] at this
  rw [this]
  rw [List.getElem?_take_of_lt hj] at hs
  rw [List.getD_eq_getElem?_getD,hs]
  rfl
theorem int_of_trod {v:Value} {y:DataW H × List MemPlace} (h:DataW.trod enc Try.prog w base spare held fuel 3 [v] = some y):∃ n:Int,v = .int .i64 n ∧ -9223372036854775808 ≤ n ∧ n ≤ 9223372036854775807 := by
 obtain ⟨n,h1,_,hw⟩:=DataW.trod_int Try.underlying3 h
 obtain rfl:v = .int .i64 n := by simpa using h1
 refine ⟨n,rfl,?_⟩
 simp only [Lit.wf,Bool.and_eq_true,decide_eq_true_eq] at hw
 have h1:(IntKind.i64.min:Int) = -9223372036854775808:=by rfl
 have h2:(IntKind.i64.max:Int) = 9223372036854775807:=by rfl
 rw [h1,h2] at hw
 exact hw
theorem bool_of_trod {v:Value} {y:DataW H × List MemPlace} (h:DataW.trod enc Try.prog w base spare held fuel 4 [v] = some y):∃ b:Bool,v = .bool b := by
 obtain ⟨b,h1,_⟩:=DataW.trod_bool Try.underlying4 h
 exact ⟨b,by simpa using h1⟩
set_option maxRecDepth 100000 in
theorem open_dg {r:Reach} {b0:Nat} {v:Value} {d:DataW H} {p:List MemPlace} (hval:Value.okWide Try.prog w r b0 24 v) (h:DataW.Trod enc Try.prog w base spare held 24 v d p) :
 ∃ (A B:Option Addr) (n q cp cq:Nat) (sg mt:List Int) (lp:Int),v = .agg #[.slice A n cp,.slice B q cq,.int .i64 lp] ∧ n ≤ maxLen ∧ q ≤ maxLen ∧ IntsAt w A n sg ∧ IntsAt w B q mt ∧ -9223372036854775808 ≤ lp ∧ lp ≤ 9223372036854775807 := by
 obtain ⟨cs,rfl,hsz⟩:=okWide_struct Try.underlying24 hval
 obtain ⟨fuel,hf⟩:=h
 obtain ⟨c0,c1,c2,rfl⟩:∃ c0 c1 c2,cs = #[c0,c1,c2] := by
  have h3:cs.size = 3:=hsz.trans (by kernel_rfl)
  obtain ⟨l⟩:=cs
  match l,h3 with
  | [a,b,c],_ => exact ⟨a,b,c,rfl⟩
 have hf':DataW.trod enc Try.prog w base spare held fuel 24 [c0,c1,c2] = some (d,p):=hf
 obtain ⟨xs,n',_,_,_,hxl,hfld⟩:=DataW.trod_struct Try.underlying24 hf'
 have c22:Try.prog.cellsOf 22 = 1:=by kernel_rfl
 have c3:Try.prog.cellsOf 3 = 1:=by kernel_rfl
 have g0:DataW.trod enc Try.prog w base spare held n' 22 (([c0,c1,c2].drop 0).take (Try.prog.cellsOf 22)) = xs[0]?:=hfld 0 _ rfl
 have g1:DataW.trod enc Try.prog w base spare held n' 22 (([c0,c1,c2].drop 1).take (Try.prog.cellsOf 22)) = xs[1]?:=hfld 1 _ rfl
 have g2:DataW.trod enc Try.prog w base spare held n' 3 (([c0,c1,c2].drop 2).take (Try.prog.cellsOf 3)) = xs[2]?:=hfld 2 _ rfl
 rw [c22] at g0 g1
 rw [c3] at g2
 simp only [List.drop_zero,List.drop_succ_cons,List.take_succ_cons,List.take_zero] at g0 g1 g2
 have x0:xs[0]? = some (xs[0]'(by rw [hxl]; decide)):=List.getElem?_eq_getElem _
 have x1:xs[1]? = some (xs[1]'(by rw [hxl]; decide)):=List.getElem?_eq_getElem _
 have x2:xs[2]? = some (xs[2]'(by rw [hxl]; decide)):=List.getElem?_eq_getElem _
 rw [x0] at g0
 rw [x1] at g1
 rw [x2] at g2
 obtain ⟨A,n,cp,sg,rfl,hn,hs⟩:=ints_of_trod g0
 obtain ⟨B,q,cq,mt,rfl,hq,hm⟩:=ints_of_trod g1
 obtain ⟨lp,rfl,h1,h2⟩:=int_of_trod g2
 exact ⟨A,B,n,q,cp,cq,sg,mt,lp,rfl,hn,hq,hs,hm,h1,h2⟩
set_option maxRecDepth 100000 in
theorem open_mv {r:Reach} {b0:Nat} {v:Value} {d:DataW H} {p:List MemPlace} (hval:Value.okWide Try.prog w r b0 28 v) (h:DataW.Trod enc Try.prog w base spare held 28 v d p) :
 ∃ (k x y s:Int) (o:Bool),v = (Mv.mk k x y s o).v := by
 obtain ⟨cs,rfl,hsz⟩:=okWide_struct Try.underlying28 hval
 obtain ⟨fuel,hf⟩:=h
 obtain ⟨c0,c1,c2,c3',c4,rfl⟩:∃ c0 c1 c2 c3 c4,cs = #[c0,c1,c2,c3,c4] := by
  have h3:cs.size = 5:=hsz.trans (by kernel_rfl)
  obtain ⟨l⟩:=cs
  match l,h3 with
  | [a,b,c,d,e],_ => exact ⟨a,b,c,d,e,rfl⟩
 have hf':DataW.trod enc Try.prog w base spare held fuel 28 [c0,c1,c2,c3',c4] = some (d,p):=hf
 obtain ⟨xs,n',_,_,_,hxl,hfld⟩:=DataW.trod_struct Try.underlying28 hf'
 have e4:Try.prog.cellsOf 4 = 1:=by kernel_rfl
 have e3:Try.prog.cellsOf 3 = 1:=by kernel_rfl
 have g0:DataW.trod enc Try.prog w base spare held n' 3 (([c0,c1,c2,c3',c4].drop 0).take (Try.prog.cellsOf 3)) = xs[0]?:=hfld 0 _ rfl
 have g1:DataW.trod enc Try.prog w base spare held n' 3 (([c0,c1,c2,c3',c4].drop 1).take (Try.prog.cellsOf 3)) = xs[1]?:=hfld 1 _ rfl
 have g2:DataW.trod enc Try.prog w base spare held n' 3 (([c0,c1,c2,c3',c4].drop 2).take (Try.prog.cellsOf 3)) = xs[2]?:=hfld 2 _ rfl
 have g3:DataW.trod enc Try.prog w base spare held n' 3 (([c0,c1,c2,c3',c4].drop 3).take (Try.prog.cellsOf 3)) = xs[3]?:=hfld 3 _ rfl
 have g4:DataW.trod enc Try.prog w base spare held n' 4 (([c0,c1,c2,c3',c4].drop 4).take (Try.prog.cellsOf 4)) = xs[4]?:=hfld 4 _ rfl
 rw [e3] at g0 g1 g2 g3
 rw [e4] at g4
 simp only [List.drop_zero,List.drop_succ_cons,List.take_succ_cons,List.take_zero] at g0 g1 g2 g3 g4
 have x0:xs[0]? = some (xs[0]'(by rw [hxl]; decide)):=List.getElem?_eq_getElem _
 have x1:xs[1]? = some (xs[1]'(by rw [hxl]; decide)):=List.getElem?_eq_getElem _
 have x2:xs[2]? = some (xs[2]'(by rw [hxl]; decide)):=List.getElem?_eq_getElem _
 have x3:xs[3]? = some (xs[3]'(by rw [hxl]; decide)):=List.getElem?_eq_getElem _
 have x4:xs[4]? = some (xs[4]'(by rw [hxl]; decide)):=List.getElem?_eq_getElem _
 rw [x0] at g0
 rw [x1] at g1
 rw [x2] at g2
 rw [x3] at g3
 rw [x4] at g4
 obtain ⟨k,rfl,_⟩:=int_of_trod g0
 obtain ⟨x,rfl,_⟩:=int_of_trod g1
 obtain ⟨y,rfl,_⟩:=int_of_trod g2
 obtain ⟨s,rfl,_⟩:=int_of_trod g3
 obtain ⟨o,rfl⟩:=bool_of_trod g4
 exact ⟨k,x,y,s,o,rfl⟩
end
end Go.Proofs.Ytobbepmlmbbamaa
end
