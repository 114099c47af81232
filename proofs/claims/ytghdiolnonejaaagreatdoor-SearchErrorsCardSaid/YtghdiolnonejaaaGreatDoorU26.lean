/-
 The texts Vl, Vn.
-/
import Derived.Test.YtghdiolnonejaaaGreatDoorS00
import Derived.Test.YtghdiolnonejaaaGreatDoorS02
import Derived.Test.YtghdiolnonejaaaGreatDoorS04
import Derived.Test.YtghdiolnonejaaaGreatDoorU01
import Derived.Test.YtghdiolnonejaaaGreatDoorU05
import Derived.Test.YtghdiolnonejaaaGreatDoorU25
import Derived.BigQuiet
import Derived.Deep.AppendLies
import Derived.Deep.CutBlock
import Derived.Deep.CutRange
import Derived.Deep.DeepCutAuto
import Derived.Deep.DrawnRows
import Derived.Deep.Light
import Derived.Deep.LoopGhost
import Derived.Deep.QuietTactic
import Derived.Deep.RegionHeld3
import Derived.Deep.RegionLaw
import Derived.Deep.RegionWith
import Derived.Laws.AppendOwn
import Derived.Laws.MakeOwn
import Derived.Laws.OwnMore
import Derived.Laws.Rows
import Derived.Laws.Slices
import Derived.Maps.AppendAt
import Derived.Outline
import Derived.RegionTactic
import Derived.Shelf.Spec.SlicesGrow
import Derived.StillTailTactics
import Derived.Test.YtghdiolnonejaaaGreatDoorRows
import Derived.Test.YtghdiolnonejaaaGreatDoorShelf
import Derived.WalkKit
import Derived.WalkLawsBesides
import Derived.WalkSpells
set_option linter.unusedVariables false
set_option linter.unusedSimpArgs false
section
namespace Go.Proofs.YtghdiolnonejaaaGreatDoor
open Go Go.RowKit
theorem lst5_ok {d:Pl.Dg} (hd:Pl.Wf d) {ls:List Int} {P:Nat} (hL:Pl.LB d ls P) (hp:∀ a,a < d.n → 0 ≤ Pl.pv ls a) {i:Nat} {p:Pl.Pc} (h:Pl.Lst5 d (Gl ls d.n i) p):Pl.PcOk d p ∧ ∀ c,c ∈ p.order ↔ c < d.n ∧ Pl.pv ls c = (i:Int) := by
 obtain ⟨r,h1,h2,h3⟩:=h.is
 obtain ⟨hr,hri⟩:=mem_Gl.1 h1
 have key:∀ c,c < d.n → (Pl.pv ls c = (i:Int) ↔ Pl.Comp d r c):=fun c hc => by
  constructor
  ·intro e
   exact hL.conn r c hr hc (hp r hr) (by rw [hri,e])
  ·intro e
   rw [hL.same r c hr e (hp r hr),hri]
 refine ⟨h.ok hd hr (fun c => ?_),fun c => ?_⟩
 ·rw [mem_Gl]
  constructor
  ·rintro ⟨hc,e⟩
   exact ⟨hc,(key c hc).1 e⟩
  ·rintro ⟨hc,e⟩
   exact ⟨hc,(key c hc).2 e⟩
 ·rw [h3,Pl.ord_mem hd hr]
  constructor
  ·intro e
   have hc:c < d.n:=((Pl.ord_ok hd hr).mem c ((Pl.ord_mem hd hr c).2 e)).1
   exact ⟨hc,(key c hc).2 e⟩
  ·rintro ⟨hc,e⟩
   exact (key c hc).1 e
theorem pcs_groups {d:Pl.Dg} (hd:Pl.Wf d) {ls:List Int} {P:Nat} (hL:Pl.LB d ls P) (hp:∀ a,a < d.n → 0 ≤ Pl.pv ls a) {ps:List Pl.Pc} (hlen:ps.length = P) (his:∀ (i:Nat) (p:Pl.Pc),ps[i]? = some p → Pl.Lst5 d (Gl ls d.n i) p):Pl.Pcs d ps := by
 have hok:∀ p,p ∈ ps → Pl.PcOk d p:=fun p hm => by
  obtain ⟨i,hi,rfl⟩:=List.getElem_of_mem hm
  exact (lst5_ok hd hL hp (his i _ (List.getElem?_eq_getElem hi))).1
 refine ⟨hok,?_,fun c hc => ?_⟩
 ·refine List.pairwise_flatMap.2 ⟨fun p hm => ?_,?_⟩
  ·obtain ⟨r,hr,_,e,_⟩:=hok p hm
   rw [e]; exact (Pl.ord_ok hd hr).nd
  ·rw [List.pairwise_iff_getElem]
   intro i j hi hj hij x hx y hy e
   subst e
   have h1:=((lst5_ok hd hL hp (his i _ (List.getElem?_eq_getElem hi))).2 x).1 hx
   have h2:=((lst5_ok hd hL hp (his j _ (List.getElem?_eq_getElem hj))).2 x).1 hy
   have:=h1.2.symm.trans h2.2
   omega
 ·have h0:=hp c hc
  have h1:=(hL.lo c hc).2
  obtain ⟨i,hi⟩:∃ i:Nat,Pl.pv ls c = (i:Int) := ⟨(Pl.pv ls c).toNat,by omega⟩
  have hiP:i < ps.length:=by rw [hlen]; omega
  exact ⟨ps[i],List.getElem_mem hiP,((lst5_ok hd hL hp (his i _ (List.getElem?_eq_getElem hiP))).2 c).2 ⟨hc,hi⟩⟩
theorem pcs_perm {d:Pl.Dg} {ps qs:List Pl.Pc} (h:Pl.Pcs d ps) (hp:qs.Perm ps):Pl.Pcs d qs :=
 ⟨fun p hq => h.ok p (hp.mem_iff.1 hq), (hp.flatMap_right Pl.Pc.order).nodup_iff.2 h.nd, fun c hc => by
   obtain ⟨p,h1,h2⟩:=h.all c hc
   exact ⟨p,hp.mem_iff.2 h1,h2⟩⟩
theorem pcs_sz {d:Pl.Dg} (hd:Pl.Wf d) {ps:List Pl.Pc} (h:Pl.Pcs d ps):∀ p,p ∈ ps → PcSz p := fun p hm => by
 obtain ⟨r,hr,e1,e2,_⟩:=h.ok p hm
 refine ⟨?_,(h.ok p hm).len⟩
 have h1:=(Pl.ord_ok hd hr).nd
 have h2:∀ c,c ∈ Pl.ord d r → c < d.n:=fun c hc => ((Pl.ord_ok hd hr).mem c hc).1
 have:=hd.few
 rw [e2]
 have h3:=Pl.nodup_len h1 h2
 omega
end Go.Proofs.YtghdiolnonejaaaGreatDoor
end
section
namespace Go.Proofs.YtghdiolnonejaaaGreatDoor
open Go Go.RowKit
attribute [local go_sem ↓] Go.wp_at_zero Go.wp_at_succ
set_option maxRecDepth 100000 in
set_option maxHeartbeats 2000000 in
theorem stable_any (base:Nat) (A:Option Addr) (n c:Nat) (cs:List Value) (qs:List Pl.Pc) (w:World) (h0:SI base w A n c cs qs w) (hsz:∀ p,p ∈ qs → PcSz p) (hn:n < 20) :
 Calls Tryz.prog 125 #[.slice A n c,.int .i64 (n:Int),.func (.func 116) #[] #[]] w fun e w' => (∃ v,e = .returned v) ∧ ∃ cs' ps',SI base w A n c cs' ps' w' ∧ ps'.Perm qs ∧ ps'.Pairwise Pl.leP := by
 have H0:=hide h0
 have HSZ:=hide hsz
 have hn1:¬ ((20:Int) ≤ (n:Int)):=by omega
 have hn2:¬ ((20:Int) < (n:Int)):=by omega
 clear h0 hsz
 go_enter Tryz.func125,Tryz.ntmps125
 go_wp2_with fail
 go_loopg [7,8] 0 (fun g s7 s8 wx => s7 = .int .i64 0 ∧ s8 = .int .i64 20 ∧ wx = w)
 case atStart => exact ⟨rfl,rfl,rfl⟩
 case round =>
  obtain ⟨rfl,rfl,rfl⟩:=hrel
  go_wp2_with fail
  refine (isort_any base A n c cs qs _ H0.out HSZ.out (by omega)).mono ?_
  rintro e w1 ⟨⟨v,rfl⟩,cs',ps',hS,hP,hW⟩
  have HR:=hide (show ∃ cs' ps',SI base wr A n c cs' ps' w1 ∧ ps'.Perm qs ∧ ps'.Pairwise Pl.leP from ⟨cs',ps',hS,hP,hW⟩)
  clear hS hP hW
  go_wp2_with fail
  go_loopg [6,7,8] 0 (fun g s6 s7 s8 wx => s6 = .int .i64 20 ∧ wx = w1)
  case atStart => exact ⟨rfl,rfl⟩
  case round =>
   obtain ⟨rfl,rfl⟩:=hrel
   go_wp2
   exact bodyPost_end (by simp [results,Tryz.results125,go_sem]; rfl) rfl ⟨⟨_,rfl⟩,HR.out⟩
set_option maxRecDepth 100000 in
set_option maxHeartbeats 2000000 in
theorem isort_none (A:Option Addr) (n c:Nat) (w:World) (hn:n ≤ 64) :
 Calls Tryz.prog 133 #[.slice A n c,.int .i64 (n:Int),.int .i64 (n:Int),.func (.func 116) #[] #[]] w fun e w' => (∃ v,e = .returned v) ∧ w' = w := by
 have h1:¬ ((n:Int) + 1 < (n:Int)):=by omega
 go_enter Tryz.func133,Tryz.ntmps133
 go_wp2
 go_loopg [8,9] 0 (fun g s8 s9 wx => s8 = .int .i64 ((n:Int) + 1) ∧ wx = w)
 case atStart => exact ⟨rfl,rfl⟩
 case round =>
  obtain ⟨rfl,rfl⟩:=hrel
  go_wp2
  exact bodyPost_end (by simp [results,Tryz.results133,go_sem]; rfl) rfl ⟨⟨_,rfl⟩,rfl⟩
set_option maxRecDepth 100000 in
set_option maxHeartbeats 2000000 in
theorem stable_20 (base:Nat) (A:Option Addr) (c:Nat) (cs:List Value) (qs:List Pl.Pc) (w:World) (h0:SI base w A 20 c cs qs w) (hsz:∀ p,p ∈ qs → PcSz p) :
 Calls Tryz.prog 125 #[.slice A 20 c,.int .i64 20,.func (.func 116) #[] #[]] w fun e w' => (∃ v,e = .returned v) ∧ ∃ cs' ps',SI base w A 20 c cs' ps' w' ∧ ps'.Perm qs ∧ ps'.Pairwise Pl.leP := by
 have H0:=hide h0
 have HSZ:=hide hsz
 clear h0 hsz
 go_enter Tryz.func125,Tryz.ntmps125
 go_wp2_with fail
 go_loopg [7,8] 1 (fun g s7 s8 wx => (g = 1 ∧ s7 = .int .i64 0 ∧ s8 = .int .i64 20 ∧ wx = w) ∨ (g = 0 ∧ s7 = .int .i64 20 ∧ s8 = .int .i64 40 ∧ ∃ cs' ps',SI base w A 20 c cs' ps' wx ∧ ps'.Perm qs ∧ ps'.Pairwise Pl.leP))
 case atStart => exact .inl ⟨rfl,rfl,rfl,rfl⟩
 case round =>
  obtain ⟨go,rfl⟩:∃ go,go = gk := ⟨_,rfl⟩
  rcases hrel with ⟨hg,rfl,rfl,rfl⟩ | ⟨hg,rfl,rfl,hR⟩
  ·have HG:=hide hg
   clear hg
   go_wp2_with fail
   refine (isort_any base A 20 c cs qs _ H0.out HSZ.out (by omega)).mono ?_
   rintro e w1 ⟨⟨v,rfl⟩,cs',ps',hS,hP,hW⟩
   have HR:=hide (show ∃ cs' ps',SI base wr A 20 c cs' ps' w1 ∧ ps'.Perm qs ∧ ps'.Pairwise Pl.leP from ⟨cs',ps',hS,hP,hW⟩)
   clear hS hP hW
   go_wp2_with fail
   go_roundg 0
   case measure => have := HG.out; omega
   case rel => exact .inr ⟨rfl,rfl,rfl,HR.out⟩
  ·have HR:=hide hR
   clear hR hg
   go_wp2_with fail
   refine (isort_none A 20 c _ (by omega)).mono ?_
   rintro e w1 ⟨⟨v,rfl⟩,rfl⟩
   go_wp2_with fail
   go_loopg [6,7,8] 0 (fun g s6 s7 s8 wx => s6 = .int .i64 20 ∧ wx = w1)
   case atStart => exact ⟨rfl,rfl⟩
   case round =>
    obtain ⟨rfl,rfl⟩:=hrel
    go_wp2
    exact bodyPost_end (by simp [results,Tryz.results125,go_sem]; rfl) rfl ⟨⟨_,rfl⟩,HR.out⟩
set_option maxRecDepth 100000 in
set_option maxHeartbeats 2000000 in
theorem sort_any (base:Nat) (A:Option Addr) (n c:Nat) (cs:List Value) (qs:List Pl.Pc) (w:World) (h0:SI base w A n c cs qs w) (hsz:∀ p,p ∈ qs → PcSz p) (hn:n ≤ 20) :
 Calls Tryz.prog 115 #[.slice A n c,.func (.func 116) #[] #[]] w fun e w' => (∃ v,e = .returned v) ∧ ∃ cs' ps',SI base w A n c cs' ps' w' ∧ ps'.Perm qs ∧ ps'.Pairwise Pl.leP := by
 have H0:=hide h0
 have HSZ:=hide hsz
 clear h0 hsz
 go_enter Tryz.func115,Tryz.ntmps115
 go_wp2_with fail
 have hst:Calls Tryz.prog 125 #[.slice A n c,.int .i64 (n:Int),.func (.func 116) #[] #[]] w fun e w' => (∃ v,e = .returned v) ∧ ∃ cs' ps',SI base w A n c cs' ps' w' ∧ ps'.Perm qs ∧ ps'.Pairwise Pl.leP:=by
  rcases Nat.lt_or_ge n 20 with h | h
  ·exact stable_any base A n c cs qs _ H0.out HSZ.out h
  ·obtain rfl:n = 20 := by omega
   exact stable_20 base A c cs qs _ H0.out HSZ.out
 refine hst.mono ?_
 clear hst
 rintro e w1 ⟨⟨v,rfl⟩,cs',ps',hS,hP,hW⟩
 have HR:=hide (show ∃ cs' ps',SI base w A n c cs' ps' w1 ∧ ps'.Perm qs ∧ ps'.Pairwise Pl.leP from ⟨cs',ps',hS,hP,hW⟩)
 clear hS hP hW
 go_wp2
 exact bodyPost_end (by simp [results,Tryz.results115,go_sem]; rfl) rfl ⟨⟨_,rfl⟩,HR.out⟩
end Go.Proofs.YtghdiolnonejaaaGreatDoor
end
