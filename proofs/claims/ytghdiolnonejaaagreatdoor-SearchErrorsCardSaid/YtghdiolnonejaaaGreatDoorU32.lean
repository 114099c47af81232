/-
 The texts Jl.
-/
import Derived.Test.YtghdiolnonejaaaGreatDoorS00
import Derived.Test.YtghdiolnonejaaaGreatDoorS01
import Derived.Test.YtghdiolnonejaaaGreatDoorS02
import Derived.Test.YtghdiolnonejaaaGreatDoorS07
import Derived.Test.YtghdiolnonejaaaGreatDoorU06
import Derived.Test.YtghdiolnonejaaaGreatDoorU14
import Derived.Test.YtghdiolnonejaaaGreatDoorU15
import Derived.Test.YtghdiolnonejaaaGreatDoorU17
import Derived.Test.YtghdiolnonejaaaGreatDoorU20
import Derived.Test.YtghdiolnonejaaaGreatDoorU30
import Derived.BigQuiet
import Derived.Deep.AppendLies
import Derived.Deep.CutBlock
import Derived.Deep.CutRange
import Derived.Deep.DeepCutAuto
import Derived.Deep.DrawnRows
import Derived.Deep.Light
import Derived.Deep.LoopGhost
import Derived.Deep.QuietTactic
import Derived.Deep.RegionHeld3
import Derived.Deep.RegionLaw
import Derived.Deep.RegionWith
import Derived.Laws.AppendOwn
import Derived.Laws.MakeOwn
import Derived.Laws.OwnMore
import Derived.Laws.Rows
import Derived.Laws.Slices
import Derived.Lib.ItoaNum
import Derived.Maps.AppendAt
import Derived.Outline
import Derived.RegionTactic
import Derived.Shelf.Spec.SlicesGrow
import Derived.StillTailTactics
import Derived.Test.YtghdiolnonejaaaGreatDoorRows
import Derived.Test.YtghdiolnonejaaaGreatDoorShelf
import Derived.WalkKit
import Derived.WalkLawsBesides
import Derived.WalkSpells
set_option linter.unusedVariables false
set_option linter.unusedSimpArgs false
section
namespace Go.Proofs.YtghdiolnonejaaaGreatDoor
noncomputable def stL (d:Pl.Dg) (most:Int):List Mv := if (d.n:Int) < most then keepZ d.n most (allL d) else remL d ++ slD d
inductive BR (i:Nat) (x:Nd) (L:List Mv) (l0:List Nd) (ks0:List (List UInt8)):Nat → List Nd → List (List UInt8) → Prop
 | z:BR i x L l0 ks0 0 l0 ks0
 | no {j:Nat} {l:List Nd} {ks:List (List UInt8)} {m:Mv}:BR i x L l0 ks0 j l ks → L[j]? = some m → keyD (apD x.d m) ∈ ks → BR i x L l0 ks0 (j + 1) l ks
 | ad {j:Nat} {l:List Nd} {ks:List (List UInt8)} {m:Mv} {r:Pl.Dg}:BR i x L l0 ks0 j l ks → L[j]? = some m → keyD (apD x.d m) ∉ ks → FmO (apD x.d m) r → BR i x L l0 ks0 (j + 1) (l ++ [⟨r,m,i,x.s + 1⟩]) (ks ++ [keyD (apD x.d m)])
inductive BO (most:Int) (rad:Nat) (r0:Pl.Dg):Nat → List Nd → List (List UInt8) → Prop
 | z:BO most rad r0 0 [nd0 r0] [keyD r0]
 | st {i:Nat} {l l':List Nd} {ks ks':List (List UInt8)} {x:Nd}:BO most rad r0 i l ks → l[i]? = some x → x.s < rad → BR i x (stL x.d most) l ks (stL x.d most).length l' ks' → BO most rad r0 (i + 1) l' ks'
theorem lone_st:stL lone 1 = cuN (-1) := by
 unfold stL
 rw [if_pos (by decide),lone_all]
 unfold keepZ
 have h2:(sel lone (pkNX 0 2)).filter (fun z => !delZ lone.n 1 z) = []:=List.filter_eq_nil_iff.2 fun z hz => by
  have hk:=pkNX_kind (mem_sel.1 hz).1
  unfold delZ
  rw [hk]
  decide
 rw [List.filter_append,h2,List.append_nil]
 rfl
theorem fmo_lone {r:Pl.Dg} (h:FmO lone r):r = lone := by
 obtain ⟨h1,_,h3,h4⟩:=h.ok lone_valid
 obtain ⟨sg,mt,lp⟩:=r
 have e1:sg = []:=List.eq_nil_of_length_eq_zero h3
 have e2:mt = []:=List.eq_nil_of_length_eq_zero (by have := h1.wf.len; rw [this,h3]; rfl)
 have e3:lp = 1:=h4
 subst e1 e2 e3
 rfl
def kM:Mv := ⟨1,-1,0,-1,false⟩
def kP:Mv := ⟨1,-1,0,1,false⟩
theorem lone_M:apD lone ⟨1,-1,0,-1,true⟩ = apD lone kM := by decide
theorem lone_P:apD lone ⟨1,-1,0,1,true⟩ = apD lone kP := by decide
theorem lone_c (s:Int) (o:Bool) (hs:s = 1 ∨ s = -1):apC lone ⟨1,-1,0,s,o⟩ = 0 := by
 rw [cu_code (by decide) hs]
 decide
theorem lone_v {m:Mv} (h:m ∈ cuN (-1)):apC lone m = 0 ∧ Pl.Valid (apD lone m) ∧ (apD lone m).n = 1 := by
 have key:∀ (s:Int) (o:Bool),s = 1 ∨ s = -1 → apC lone ⟨1,-1,0,s,o⟩ = 0 ∧ Pl.Valid (apD lone ⟨1,-1,0,s,o⟩) ∧ (apD lone ⟨1,-1,0,s,o⟩).n = 1:=fun s o hs =>
  ⟨lone_c s o hs,(ap_ok lone_valid (lone_c s o hs)).1,rfl⟩
 simp only [cuN,List.mem_cons,List.not_mem_nil,or_false] at h
 rcases h with rfl | rfl | rfl | rfl
 ·exact key _ _ (.inr rfl)
 ·exact key _ _ (.inr rfl)
 ·exact key _ _ (.inl rfl)
 ·exact key _ _ (.inl rfl)
theorem key_M0:keyD (apD lone kM) ≠ keyD lone := fun h => by
 obtain ⟨σ,hi⟩:=key_iso (lone_v (m := kM) (by simp [cuN,kM])).2.1.wf lone_valid.wf h
 have:=hi.n
 exact absurd this (by decide)
theorem key_P0:keyD (apD lone kP) ≠ keyD lone := fun h => by
 obtain ⟨σ,hi⟩:=key_iso (lone_v (m := kP) (by simp [cuN,kP])).2.1.wf lone_valid.wf h
 have:=hi.n
 exact absurd this (by decide)
theorem key_PM:keyD (apD lone kP) ≠ keyD (apD lone kM) := fun h => by
 obtain ⟨σ,hi⟩:=key_iso (lone_v (m := kP) (by simp [cuN,kP])).2.1.wf (lone_v (m := kM) (by simp [cuN,kM])).2.1.wf h
 have h0:σ 0 < 1:=hi.lt 0 (by decide)
 have h1:=hi.s 0 (by decide)
 rw [show σ 0 = 0 by omega] at h1
 exact absurd h1 (by decide)
theorem br_lone {j:Nat} {l:List Nd} {ks:List (List UInt8)} (h:BR 0 (nd0 lone) (cuN (-1)) [nd0 lone] [keyD lone] j l ks) :
 j ≤ 4 ∧ (∃ t,l = nd0 lone :: t ∧ t.length = (j + 1) / 2 ∧ ∀ x,x ∈ t → x.s = 1) ∧ ks = [keyD lone,keyD (apD lone kM),keyD (apD lone kP)].take (1 + (j + 1) / 2) := by
 have MEM:∀ {j:Nat} {m:Mv},(cuN (-1))[j]? = some m → j = 0 ∧ apD lone m = apD lone kM ∨ j = 1 ∧ apD lone m = apD lone kM ∨ j = 2 ∧ apD lone m = apD lone kP ∨ j = 3 ∧ apD lone m = apD lone kP:=fun {j m} e => by
  match j,e with
  | 0,e => injection e with e; subst e; exact .inl ⟨rfl,rfl⟩
  | 1,e => injection e with e; subst e; exact .inr (.inl ⟨rfl,lone_M⟩)
  | 2,e => injection e with e; subst e; exact .inr (.inr (.inl ⟨rfl,rfl⟩))
  | 3,e => injection e with e; subst e; exact .inr (.inr (.inr ⟨rfl,lone_P⟩))
  | j + 4,e => exact absurd e (by simp [cuN])
 induction h with
 | z => exact ⟨by omega,⟨[],rfl,rfl,fun x hx => by cases hx⟩,rfl⟩
 | @no j l ks m _ e hk ih =>
   obtain ⟨h1,⟨t,h2,h3,h4⟩,h5⟩:=ih
   change keyD (apD lone m) ∈ ks at hk
   rcases MEM e with ⟨rfl,em⟩ | ⟨rfl,em⟩ | ⟨rfl,em⟩ | ⟨rfl,em⟩
   ·rw [em,h5] at hk
    exact absurd hk (by simp [key_M0])
   ·exact ⟨by omega,⟨t,h2,h3,h4⟩,h5⟩
   ·rw [em,h5] at hk
    exact absurd hk (by simp [key_P0,key_PM])
   ·exact ⟨by omega,⟨t,h2,h3,h4⟩,h5⟩
 | @ad j l ks m r _ e hk _ ih =>
   obtain ⟨h1,⟨t,h2,h3,h4⟩,h5⟩:=ih
   change keyD (apD lone m) ∉ ks at hk
   have T:∃ t',l ++ [⟨r,m,((0:Nat):Int),(nd0 lone).s + 1⟩] = nd0 lone :: t' ∧ t'.length = (j + 1) / 2 + 1 ∧ ∀ x,x ∈ t' → x.s = 1 :=
    ⟨t ++ [⟨r, m, ((0 : Nat) : Int), 1⟩], by rw [h2]; rfl, by simp [h3], fun x hx => by
      rcases List.mem_append.1 hx with hx | hx
      ·exact h4 x hx
      ·rw [List.mem_singleton.1 hx]⟩
   rcases MEM e with ⟨rfl,em⟩ | ⟨rfl,em⟩ | ⟨rfl,em⟩ | ⟨rfl,em⟩
   ·refine ⟨by omega,T,?_⟩
    show ks ++ [keyD (apD lone m)] = _
    rw [h5,em]; rfl
   ·rw [em,h5] at hk
    exact absurd (by simp) hk
   ·refine ⟨by omega,T,?_⟩
    show ks ++ [keyD (apD lone m)] = _
    rw [h5,em]; rfl
   ·rw [em,h5] at hk
    exact absurd (by simp) hk
theorem bo_lone {i:Nat} {l:List Nd} {ks:List (List UInt8)} (h:BO 1 1 lone i l ks) :
 (i = 0 ∧ l = [nd0 lone] ∧ ks = [keyD lone]) ∨ (i = 1 ∧ ∃ t,l = nd0 lone :: t ∧ t.length = 2 ∧ ∀ x,x ∈ t → x.s = 1) := by
 induction h with
 | z => exact .inl ⟨rfl,rfl,rfl⟩
 | @st i l l' ks ks' x _ hx hs hr ih =>
   rcases ih with ⟨rfl,rfl,rfl⟩ | ⟨rfl,t,rfl,ht,h4⟩
   ·injection hx with hx
    subst hx
    change BR 0 (nd0 lone) (stL lone 1) [nd0 lone] [keyD lone] (stL lone 1).length l' ks' at hr
    rw [lone_st] at hr
    exact .inr ⟨rfl,(br_lone hr).2.1⟩
   ·match t,ht,h4,hx with
    | [a, b], _, h4, hx =>
      injection hx with hx
      subst hx
      have:=h4 a (by simp)
      omega
end Go.Proofs.YtghdiolnonejaaaGreatDoor
end
