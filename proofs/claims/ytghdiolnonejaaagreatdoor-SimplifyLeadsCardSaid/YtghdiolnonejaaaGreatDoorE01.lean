/-
 The texts Wg, Wh, Wb, Sph, Wc, Mk, Val, Shr, Wj, Wk, Wl, Wm, Cyc, Wr, Prt, Xa, Ws, Wu, Wx, Xb, Dc.
-/
import Derived.Test.YtghdiolnonejaaaGreatDoorE00
import Derived.Deep.AppendLies
import Derived.Deep.DeepCutAuto
import Derived.Deep.RegionLaw
import Derived.Maps.AppendAt
import Derived.Outline
import Derived.RegionTactic
set_option linter.unusedVariables false
set_option linter.unusedSimpArgs false
section
namespace Go.Proofs.YtghdiolnonejaaaGreatDoor
open Go.RowKit
def nilD:Value := .agg #[.slice none 0 0,.slice none 0 0,.int .i64 0]
def nilM:Value := .agg #[.int .i64 0,.int .i64 0,.int .i64 0,.int .i64 0,.bool false]
def ResErr (k:Int) (e:Ending):Prop := e = .returned (.tuple #[nilD,nilM,.int .i64 k])
structure DgT (w:World) (A:Option Addr) (B:Option Addr) (d:Pl.Dg):Prop where
 s:RowT w 3 A d.n (d.sg.map (.int .i64))
 m:RowT w 3 B (4 * d.n) ((nats d.mt).map (.int .i64))
theorem DgT.at {w:World} {A B:Option Addr} {d:Pl.Dg} (h:DgT w A B d):DgAt w A B d := ⟨h.s.row,h.m.row⟩
theorem DgT.keep {w w':World} {A B:Option Addr} {d:Pl.Dg} (h:DgT w A B d) (hb:Below w.heap.size w w'):DgT w' A B d := ⟨h.s.keep hb,h.m.keep hb⟩
theorem own_intsT {w:World} {base:Nat} {e:TypeId} {A:Option Addr} {n c:Nat} {zs:List Int} (h:w.ownsRow base e 1 (.slice A n c) n (zs.map (.int .i64))):RowT w e A n (zs.map (.int .i64)) := by
 have hl:=h.1
 refine ⟨by simpa using hl,fun hn => ?_⟩
 rcases h.2 with ⟨_,h2⟩ | ⟨g,cap,cur,h1,_,h3,_,_,_,h7⟩
 ·omega
 ·injection h1 with h1 _ _
  refine ⟨g,0,cur,(0,0),h1,h3,fun j u hu => ?_⟩
  rw [Nat.zero_add,← Array.getElem?_toList]
  have h9:=hu
  rw [← h7,List.getElem?_take] at h9
  split at h9
  ·exact h9
  ·exact absurd h9 (by simp)
theorem OwnN.intsT {w:World} {base g n c:Nat} {l:List Nat} (h:OwnN w base g n c l):RowT w 3 (some ⟨g,0,none⟩) n ((nats l).map (.int .i64)) := by
 refine own_intsT (base := base) (e := 3) (c := c) ?_
 unfold OwnN at h
 unfold nats
 rw [List.map_map]
 exact h
def ResOk (r:Pl.Dg) (mv:Mv) (e:Ending) (w':World):Prop :=
 ∃ (A B:Option Addr) (c1 c2:Nat),e = .returned (.tuple #[.agg #[.slice A r.n c1,.slice B (4 * r.n) c2,.int .i64 r.lp],mv.v,.int .i64 0]) ∧ DgT w' A B r
theorem fin8 {W:World} {gd gm:Nat} {vs us:List Value} (h1:Row W gd 24 vs) (h2:Row W gm 43 us) (l1:vs.length = 3) (l2:us.length = 5) (hne:gd ≠ gm) (y0 y1 y2 z0 z1 z2 z3 z4:Value) :
 ((((((((W.setCell ⟨gd,0,none⟩ y0).setCell ⟨gd,1,none⟩ y1).setCell ⟨gd,2,none⟩ y2).setCell ⟨gm,0,none⟩ z0).setCell ⟨gm,1,none⟩ z1).setCell ⟨gm,2,none⟩ z2).setCell ⟨gm,3,none⟩ z3).setCell ⟨gm,4,none⟩ z4).cell? ⟨gd,0,none⟩ = some y0 ∧ ((((((((W.setCell ⟨gd,0,none⟩ y0).setCell ⟨gd,1,none⟩ y1).setCell ⟨gd,2,none⟩ y2).setCell ⟨gm,0,none⟩ z0).setCell ⟨gm,1,none⟩ z1).setCell ⟨gm,2,none⟩ z2).setCell ⟨gm,3,none⟩ z3).setCell ⟨gm,4,none⟩ z4).cell? ⟨gd,1,none⟩ = some y1 ∧ ((((((((W.setCell ⟨gd,0,none⟩ y0).setCell ⟨gd,1,none⟩ y1).setCell ⟨gd,2,none⟩ y2).setCell ⟨gm,0,none⟩ z0).setCell ⟨gm,1,none⟩ z1).setCell ⟨gm,2,none⟩ z2).setCell ⟨gm,3,none⟩ z3).setCell ⟨gm,4,none⟩ z4).cell? ⟨gd,2,none⟩ = some y2 ∧ ((((((((W.setCell ⟨gd,0,none⟩ y0).setCell ⟨gd,1,none⟩ y1).setCell ⟨gd,2,none⟩ y2).setCell ⟨gm,0,none⟩ z0).setCell ⟨gm,1,none⟩ z1).setCell ⟨gm,2,none⟩ z2).setCell ⟨gm,3,none⟩ z3).setCell ⟨gm,4,none⟩ z4).cell? ⟨gm,0,none⟩ = some z0 ∧ ((((((((W.setCell ⟨gd,0,none⟩ y0).setCell ⟨gd,1,none⟩ y1).setCell ⟨gd,2,none⟩ y2).setCell ⟨gm,0,none⟩ z0).setCell ⟨gm,1,none⟩ z1).setCell ⟨gm,2,none⟩ z2).setCell ⟨gm,3,none⟩ z3).setCell ⟨gm,4,none⟩ z4).cell? ⟨gm,1,none⟩ = some z1 ∧ ((((((((W.setCell ⟨gd,0,none⟩ y0).setCell ⟨gd,1,none⟩ y1).setCell ⟨gd,2,none⟩ y2).setCell ⟨gm,0,none⟩ z0).setCell ⟨gm,1,none⟩ z1).setCell ⟨gm,2,none⟩ z2).setCell ⟨gm,3,none⟩ z3).setCell ⟨gm,4,none⟩ z4).cell? ⟨gm,2,none⟩ = some z2 ∧ ((((((((W.setCell ⟨gd,0,none⟩ y0).setCell ⟨gd,1,none⟩ y1).setCell ⟨gd,2,none⟩ y2).setCell ⟨gm,0,none⟩ z0).setCell ⟨gm,1,none⟩ z1).setCell ⟨gm,2,none⟩ z2).setCell ⟨gm,3,none⟩ z3).setCell ⟨gm,4,none⟩ z4).cell? ⟨gm,3,none⟩ = some z3 ∧ ((((((((W.setCell ⟨gd,0,none⟩ y0).setCell ⟨gd,1,none⟩ y1).setCell ⟨gd,2,none⟩ y2).setCell ⟨gm,0,none⟩ z0).setCell ⟨gm,1,none⟩ z1).setCell ⟨gm,2,none⟩ z2).setCell ⟨gm,3,none⟩ z3).setCell ⟨gm,4,none⟩ z4).cell? ⟨gm,4,none⟩ = some z4 := by
 obtain ⟨a,b,c,rfl⟩:∃ a b c,vs = [a,b,c] := by
  match vs,l1 with
  | [a,b,c],_ => exact ⟨a,b,c,rfl⟩
 obtain ⟨a',b',c',d',e',rfl⟩:∃ a b c d e,us = [a,b,c,d,e] := by
  match us,l2 with
  | [a,b,c,d,e],_ => exact ⟨a,b,c,d,e,rfl⟩
 have r1:=((((((((h1.set 0 y0).set 1 y1).set 2 y2).other (a := ⟨gm,0,none⟩) hne z0).other (a := ⟨gm,1,none⟩) hne z1).other (a := ⟨gm,2,none⟩) hne z2).other (a := ⟨gm,3,none⟩) hne z3).other (a := ⟨gm,4,none⟩) hne z4)
 have r2:=((((((((h2.other (a := ⟨gd,0,none⟩) (Ne.symm hne) y0).other (a := ⟨gd,1,none⟩) (Ne.symm hne) y1).other (a := ⟨gd,2,none⟩) (Ne.symm hne) y2).set 0 z0).set 1 z1).set 2 z2).set 3 z3).set 4 z4)
 exact ⟨r1.cell (i := 0) (by simp),r1.cell (i := 1) (by simp),r1.cell (i := 2) (by simp),r2.cell (i := 0) (by simp),r2.cell (i := 1) (by simp),r2.cell (i := 2) (by simp),r2.cell (i := 3) (by simp),r2.cell (i := 4) (by simp)⟩
theorem box3 {W:World} {g:Nat} {t:TypeId} {a b c:Value} (h:Row W g t [a,b,c]):W.cell? ⟨g,0,none⟩ = some a ∧ W.cell? ⟨g,1,none⟩ = some b ∧ W.cell? ⟨g,2,none⟩ = some c ∧ ∀ o,W.frozen? ⟨g,o,none⟩ = false :=
 ⟨h.cell (i := 0) (by simp),h.cell (i := 1) (by simp),h.cell (i := 2) (by simp),h.free⟩
theorem box5 {W:World} {g:Nat} {t:TypeId} {a b c d e:Value} (h:Row W g t [a,b,c,d,e]):W.cell? ⟨g,0,none⟩ = some a ∧ W.cell? ⟨g,1,none⟩ = some b ∧ W.cell? ⟨g,2,none⟩ = some c ∧ W.cell? ⟨g,3,none⟩ = some d ∧ W.cell? ⟨g,4,none⟩ = some e ∧ ∀ o,W.frozen? ⟨g,o,none⟩ = false :=
 ⟨h.cell (i := 0) (by simp),h.cell (i := 1) (by simp),h.cell (i := 2) (by simp),h.cell (i := 3) (by simp),h.cell (i := 4) (by simp),h.free⟩
theorem own_grown {w w':World} {base:Nat} {e:TypeId} {g g' n c:Nat} {xs:List Value} (h:w.ownsRow base e 1 (.slice (some ⟨g,0,none⟩) n c) n xs) (hg:w.grownBy w' (some g')) (hne:g ≠ g'):w'.ownsRow base e 1 (.slice (some ⟨g,0,none⟩) n c) n xs := by
 refine ⟨h.1,?_⟩
 rcases h.2 with hz | ⟨k,cap,cur,r1,r2,r3,r4⟩
 ·exact .inl hz
 ·injection r1 with e1 e2 e3
  injection e1 with e1
  injection e1 with e1
  subst e1
  subst e3
  exact .inr ⟨g,c,cur,rfl,r2,(hg.block g (lt_of_heap r3) (by intro h; injection h; omega)).trans r3,r4⟩
theorem own_ints {w:World} {base:Nat} {e:TypeId} {g n c:Nat} {zs:List Int} (h:w.ownsRow base e 1 (.slice (some ⟨g,0,none⟩) n c) n (zs.map (.int .i64))):IntsAt w (some ⟨g,0,none⟩) n zs := by
 have hl:=h.1
 refine ⟨by simpa using hl,fun _ => ⟨g,0,rfl,fun j u hu => ?_⟩⟩
 rw [Nat.zero_add]
 have hj:j < n:=by
  have:=(List.getElem?_eq_some_iff.mp hu).1
  simp at this hl
  omega
 rw [World.ownsRow.cellAt h j (by simpa using hj)]
 exact hu
theorem OwnN.ints {w:World} {base g n c:Nat} {l:List Nat} (h:OwnN w base g n c l):IntsAt w (some ⟨g,0,none⟩) n (nats l) := by
 refine own_ints (base := base) (e := 3) (c := c) ?_
 unfold OwnN at h
 unfold nats
 rw [List.map_map]
 exact h
theorem OwnN.drew' {w W:World} {base g n c:Nat} {l:List Nat} (e:W = w.drew) (h:OwnN w base g n c l):OwnN W base g n c l := by subst e; exact h
def kI0 (n:Nat) (sg:Int) (ov:Bool):Nat := if ov then (if sg = -1 then 4 * n + 1 else 4 * n + 3) else 4 * n
def kO0 (n:Nat) (sg:Int) (ov:Bool):Nat := if ov then (if sg = -1 then 4 * n + 3 else 4 * n + 1) else 4 * n + 2
def kI1 (n:Nat) (sg:Int) (ov:Bool):Nat := if ov then 4 * n else (if sg = -1 then 4 * n + 1 else 4 * n + 3)
def kO1 (n:Nat) (sg:Int) (ov:Bool):Nat := if ov then 4 * n + 2 else (if sg = -1 then 4 * n + 3 else 4 * n + 1)
def crl (d:Pl.Dg) (x sg:Int) (ov:Bool):Pl.Dg where
 sg := d.sg ++ [sg]
 mt := if x < 0 then jn (jn (d.mt ++ List.replicate 4 0) (kO0 d.n sg ov) (kI1 d.n sg ov)) (kO1 d.n sg ov) (kI0 d.n sg ov) else jn (jn (jn (d.mt ++ List.replicate 4 0) (kO0 d.n sg ov) (kI1 d.n sg ov)) (kO1 d.n sg ov) (d.m x.toNat)) x.toNat (kI0 d.n sg ov)
 lp := if x < 0 then d.lp - 1 else d.lp
theorem crl_n (d:Pl.Dg) (x sg:Int) (ov:Bool):(crl d x sg ov).n = d.n + 1 := by unfold Pl.Dg.n crl; simp
end Go.Proofs.YtghdiolnonejaaaGreatDoor
end
section
namespace Go.Proofs.YtghdiolnonejaaaGreatDoor
open Go.RowKit
def ClosedPost (l:List Nat) (base g n cap a b:Nat) (w:World) (e:Ending) (w':World):Prop :=
 e = .returned (.int .i64 (if l.getD a 0 = b then 1 else 0)) ∧ OwnN w' base g n cap (if l.getD a 0 = b then l else jn l (l.getD a 0) (l.getD b 0)) ∧ w.grownBy w' (some g)
theorem grown_refl (w:World) (r:Option Nat):w.grownBy w r := ⟨rfl,rfl,rfl,Nat.le_refl _,fun _ _ _ => rfl⟩
theorem grown_drew {w W w':World} {r:Option Nat} (e:W = w.drew) (h:W.grownBy w' r):w.grownBy w' r := by subst e; exact ⟨h.os,h.tape,h.output,h.size,h.block⟩
set_option maxRecDepth 100000 in
set_option maxHeartbeats 1000000 in
theorem closed_any (base g n cap a b:Nat) (l:List Nat) (w:World) (h:OwnN w base g n cap l) (ha:a < n) (hb:b < n) (hn:n ≤ 100000) (hl:∀ k,k < n → l.getD k 0 < n) :
 Calls Tryz.prog 77 #[.slice (some ⟨g,0,none⟩) n cap,.int .i64 (a:Int),.int .i64 (b:Int)] w (ClosedPost l base g n cap a b w) := by
 have c1:=h.cell ha
 have c2:=h.cell hb
 have la:=hl a ha
 have lb:=hl b hb
 obtain ⟨x,hx⟩:∃ x,x = l.getD a 0 := ⟨_,rfl⟩
 obtain ⟨y,hy⟩:∃ y,y = l.getD b 0 := ⟨_,rfl⟩
 rw [← hx] at c1 la
 rw [← hy] at c2 lb
 have HH:=hide h
 have HX:=hide hx
 have HY:=hide hy
 clear h hx hy
 go_enter Tryz.func77,Tryz.ntmps77
 by_cases hxb:x = b
 ·subst hxb
  go_wp2
  go_ret
  refine ⟨ret_int ?_,?_,grown_refl _ _⟩
  ·rw [if_pos HX.out.symm]
  ·rw [if_pos HX.out.symm]; exact HH.out
 ·have t1:((x:Int) == (b:Int)) = false:=by rw [beq_eq_false_iff_ne]; omega
  have i1:(a:Int) < (n:Int):=by omega
  have i2:(b:Int) < (n:Int):=by omega
  have i3:(0:Int) ≤ (a:Int):=by omega
  have i4:(0:Int) ≤ (b:Int):=by omega
  go_wp2_with fail
  go_still_tail 9,(by kernel_rfl)
  change wpList _ _ _ _ _ w.drew
  obtain ⟨W6,hW6⟩:∃ W6:World,W6 = w.drew := ⟨_,rfl⟩
  rw [← hW6]
  have O6:=hide (OwnN.drew' hW6 HH.out)
  have HW:=hide hW6
  clear hW6 c1 c2
  go_wp2_with fail
  refine (join_any base g n cap x y l W6 O6.out la lb hn).mono ?_
  rintro e w5 ⟨rfl,own5,gr5⟩
  have OWN5:=hide own5
  have GR5:=hide gr5
  clear own5 gr5
  go_wp2_with fail
  go_ret
  have hne:¬ l.getD a 0 = b:=by rw [← HX.out]; exact hxb
  refine ⟨ret_int ?_,?_,grown_drew HW.out GR5.out⟩
  ·rw [if_neg hne]
  ·rw [if_neg hne,← HX.out,← HY.out]; exact OWN5.out
end Go.Proofs.YtghdiolnonejaaaGreatDoor
end
section
namespace Go.Proofs.YtghdiolnonejaaaGreatDoor
open Go.RowKit
def boxV (A B:Option Addr) (n cp q cq:Nat) (l:Value):List Value := [.slice A n cp,.slice B q cq,l]
set_option maxRecDepth 100000 in
set_option maxHeartbeats 4000000 in
theorem label_any (d:Pl.Dg) (hd:Pl.Wf d) (A B:Option Addr) (cp cq:Nat) (l:Value) (w:World) (hg:DgAt w A B d) :
 Calls Tryz.prog 40 #[.agg #[.slice A d.n cp,.slice B (4 * d.n) cq,l]] w fun e w' =>
  ∃ (ps:List Int) (P g:Nat),e = .returned (.tuple #[.slice (some ⟨g,0,none⟩) d.n d.n,.int .i64 (P:Int)]) ∧ Pl.LB d ps P ∧ (∀ a,a < d.n → 0 ≤ Pl.pv ps a) ∧ w.heap.size ≤ g ∧ IRow w' g ps ∧ Below w.heap.size w w' := by
 have hn:=hd.few
 have HF:=hide hd
 clear hd
 have hmk:=run_ints d.n (by omega) (w.alloc (.cells #[.slice A d.n cp,.slice B (4 * d.n) cq,l] 24))
 go_enter Tryz.func40,Tryz.ntmps40
 go_wp2
 clear hmk
 obtain ⟨W1,hW1⟩:∃ W1:World,W1 = (w.alloc (.cells #[.slice A d.n cp,.slice B (4 * d.n) cq,l] 24)).alloc (.cells (Array.replicate d.n (Value.int .i64 0)) 3) := ⟨_,rfl⟩
 have B1:=hide (show Below w.heap.size w W1 by rw [hW1]; exact ((Below.refl _ _).alloc (Nat.le_refl _) _).alloc (by simp) _)
 have X1:=hide (show Row W1 w.heap.size 24 (boxV A B d.n cp (4 * d.n) cq l) by rw [hW1]; exact (Row.new w _ _).alloc _)
 have R1:=hide (show IRow W1 (w.heap.size + 1) (List.replicate d.n 0) by
  rw [hW1]
  have:=IRow.made (w.alloc (.cells #[.slice A d.n cp,.slice B (4 * d.n) cq,l] 24)) d.n
  simpa using this)
 rw [← hW1]
 clear hW1
 go_loopg [18] d.n (fun g i wx => ∃ k:Nat,k + g = d.n ∧ i = .int .i64 k ∧ Below w.heap.size w wx ∧ Row wx w.heap.size 24 (boxV A B d.n cp (4 * d.n) cq l) ∧ IRow wx (w.heap.size + 1) (List.replicate k (-1) ++ List.replicate (d.n - k) 0))
 case atStart => exact ⟨0,by omega,rfl,B1.out,X1.out,by simpa using R1.out⟩
 case round =>
  obtain ⟨k,hkg,rfl,b2,x2,r2⟩:=hrel
  have HG:=hide hkg
  have hks:k ≤ d.n:=by omega
  clear hkg
  by_cases hlt:k < d.n
  ·have c1:=r2.cell (i := k) (by simp; omega)
   have f1:=Row.free r2 k
   have B2:=hide b2
   have X2:=hide x2
   have R2:=hide r2
   clear b2 x2 r2
   go_wp2
   go_roundg (gk - 1)
   case measure => have := HG.out; omega
   case rel =>
    refine ⟨k + 1,by have := HG.out; omega,by go_num,?_,X2.out.other (by simp) _,?_⟩
    ·exact B2.out.setCell (by simp) _
    ·have:=R2.out.set k (-1)
     rwa [Pl.fill_set hlt] at this
  ·have hkn:k = d.n:=by omega
   have B2:=hide b2
   have X2:=hide x2
   have R2:=hide (show IRow wr (w.heap.size + 1) (List.replicate d.n (-1)) by subst hkn; simpa using r2)
   clear b2 x2 r2 hkn
   go_wp2
   go_loopg [6,27] d.n (fun g p i wx => ∃ (k P:Nat) (ps:List Int),k + g = d.n ∧ i = .int .i64 k ∧ p = .int .i64 P ∧ Pl.LB d ps P ∧ (∀ a,a < k → 0 ≤ Pl.pv ps a) ∧ Below w.heap.size w wx ∧ Row wx w.heap.size 24 (boxV A B d.n cp (4 * d.n) cq l) ∧ IRow wx (w.heap.size + 1) ps)
   case atStart => exact ⟨0,0,_,by omega,rfl,rfl,Pl.LB.start d,fun a ha => absurd ha (by omega),B2.out,X2.out,R2.out⟩
   case round =>
    clear B2 X2 R2 B1 X1 R1 HG hks hlt
    obtain ⟨j,P,ps,hjg,rfl,rfl,hlb,hall,b3,x3,r3⟩:=hrel
    have HG:=hide hjg
    have HL:=hide hlb
    have HA:=hide hall
    have hjs:j ≤ d.n:=by omega
    have hlen:ps.length = d.n:=hlb.len
    have hP:=hlb.le
    have HLen:=hide hlen
    clear hjg hlb hall
    by_cases hjn:j < d.n
    ·have c1:=r3.cell (i := j) (by omega)
     have f1:=Row.free r3 j
     have B3:=hide b3
     have X3:=hide x3
     have R3:=hide r3
     clear b3 x3 r3 hlen
     by_cases hlab:0 ≤ Pl.pv ps j
     ·go_wp2
      go_roundg (gk - 1)
      case measure => have := HG.out; omega
      case rel =>
       refine ⟨j + 1,P,ps,by have := HG.out; omega,by go_num,rfl,HL.out,fun a ha => ?_,B3.out,X3.out,R3.out⟩
       by_cases e:a = j
       ·rw [e]; exact hlab
       ·exact HA.out a (by omega)
     ·have hneg:Pl.pv ps j < 0:=by omega
      have hjl:j < ps.length:=by have := HLen.out; omega
      obtain ⟨wo,rfl⟩:∃ wo:World,wo = wr := ⟨_,rfl⟩
      have hwz:w.heap.size + 2 ≤ wo.heap.size:=by have := R3.out.lt; omega
      go_wp2
      obtain ⟨W2,hW2⟩:∃ W2:World,W2 = (wo.setCell ⟨w.heap.size + 1,j,none⟩ (.int .i64 P)).alloc (.cells #[.int .i64 j] 3) := ⟨_,rfl⟩
      have B4:=hide (show Below w.heap.size w W2 by rw [hW2]; exact (B3.out.setCell (by simp) _).alloc (by simp; omega) _)
      have X4:=hide (show Row W2 w.heap.size 24 (boxV A B d.n cp (4 * d.n) cq l) by rw [hW2]; exact (X3.out.other (by simp) _).alloc _)
      have R4:=hide (show IRow W2 (w.heap.size + 1) (ps.set j P) by rw [hW2]; exact Row.alloc (R3.out.set j P) _)
      have Q4:=hide (show OwnT W2 (w.heap.size + 2) 3 (.slice (some ⟨wo.heap.size,0,none⟩) 1 1) 1 [.int .i64 j] by
       rw [hW2]
       refine ⟨rfl,wo.heap.size,0,1,#[.int .i64 j],rfl,hwz,?_,by omega,by unfold maxLen; omega,by simp,rfl⟩
       have:=heap_alloc_new (wo.setCell ⟨w.heap.size + 1,j,none⟩ (.int .i64 P)) (.cells #[.int .i64 j] 3)
       simpa using this)
      have HQ:=hide (Pl.LQ.start HL.out hjn hneg)
      have HU:=hide (Pl.unl_set hjl hneg (v := (P:Int)) (by omega))
      rw [← hW2]
      clear hW2 B3 X3 R3 c1 f1 hneg hlab
      go_loopg [8] (Pl.unl (ps.set j P) + 1) (fun g v wx => ∃ (p1:List Int) (qs:List Nat),g = Pl.unl p1 + qs.length ∧ Pl.unl p1 + qs.length ≤ d.n ∧ Pl.LQ d j ps P p1 qs d.n 0 ∧ OwnT wx (w.heap.size + 2) 3 v qs.length (qs.map (fun q:Nat => Value.int .i64 q)) ∧ Below w.heap.size w wx ∧ Row wx w.heap.size 24 (boxV A B d.n cp (4 * d.n) cq l) ∧ IRow wx (w.heap.size + 1) p1)
      case atStart => exact ⟨_,[j],rfl,by have h1 := HU.out; have h2:Pl.unl ps ≤ ps.length := List.countP_le_length; have h3 := HLen.out; simp only [List.length_singleton]; omega,HQ.out,Q4.out,B4.out,X4.out,R4.out⟩
      case round =>
       clear B4 X4 R4 Q4 HQ HU
       obtain ⟨p1,qs,hgk,hgn,hlq,hown,b5,x5,r5⟩:=hrel
       have HGN:=hide hgn
       have HGK:=hide hgk
       have HQ:=hide hlq
       have B5:=hide b5
       have X5:=hide x5
       have R5:=hide r5
       clear hgk hgn hlq b5 x5 r5
       cases qs with
       | nil =>
         obtain ⟨g0,off,cap,rfl,_,_,_,_,_⟩:=hown.cells
         have HD:=hide (Pl.LQ.done HF.out HQ.out)
         simp only [List.length_nil]
         go_wp2
         go_roundg (d.n - (j + 1))
         case measure => have := HG.out; omega
         case rel =>
          refine ⟨j + 1,P + 1,p1,by omega,by go_num,by go_num,HD.out.1,fun a ha => ?_,B5.out,X5.out,R5.out⟩
          by_cases e:a = j
          ·rw [e]; exact HD.out.2.2
          ·exact HD.out.2.1 a (by omega) (HA.out a (by omega))
       | cons q qs =>
         have hqn:q < d.n:=(HQ.out.wait q (by simp)).1
         have HQP:=hide ((HQ.out.wait q (by simp)).2)
         have hown':=hown
         obtain ⟨g0,off,cap,rfl,hg0,hg1,hcl,hcm,hcells⟩:=hown'.cells
         have cq0:wr.cell? ⟨g0,off,none⟩ = some (.int .i64 (q:Int)):=by
          have:=hcells 0 (.int .i64 (q:Int)) rfl
          simpa using this
         rw [List.length_cons] at hown hcl
         rw [List.map_cons] at hown
         have HO:=hide hown
         simp only [List.length_cons]
         unfold maxLen at hcm
         clear hown hcells
         obtain ⟨wo,rfl⟩:∃ wo:World,wo = wr := ⟨_,rfl⟩
         have HP:=hide (HQ.out.pop rfl)
         by_cases hcap:cap = 1
         case' pos =>
          have Q6:=hide (HO.out.tail0 hcap)
          have hq0:qs.length = 0:=by omega
          have HQ0:=hide hq0
          go_wp2
          have HC:=hide hcap
          clear hq0 hcap
         case' neg =>
          have Q6:=hide (show OwnT wo (w.heap.size + 2) 3 (.slice (some ⟨g0,off + 1,none⟩) qs.length (cap - 1)) qs.length (qs.map (fun q:Nat => Value.int .i64 q)) from HO.out.tail)
          go_wp2
         all_goals
          clear HO cq0
          go_loopg [8,49] 4 (fun g v i wx => ∃ (p2:List Int) (qs2:List Nat) (s:Nat),s + g = 4 ∧ i = .int .i64 s ∧ Pl.unl p2 + qs2.length = Pl.unl p1 + qs.length ∧ Pl.LQ d j ps P p2 qs2 q s ∧ Pl.pv p2 q = P ∧ OwnT wx (w.heap.size + 2) 3 v qs2.length (qs2.map (fun q:Nat => Value.int .i64 q)) ∧ Below w.heap.size w wx ∧ Row wx w.heap.size 24 (boxV A B d.n cp (4 * d.n) cq l) ∧ IRow wx (w.heap.size + 1) p2)
          case atStart =>
           refine ⟨p1,qs,0,rfl,rfl,rfl,HP.out,HQP.out,?_,B5.out,X5.out,R5.out⟩
           first
            | exact Q6.out
            | (have h6 := Q6.out; rw [HQ0.out,HC.out] at h6; rw [HQ0.out]; exact h6)
          case round =>
           clear B5 X5 R5 HP HQP Q6
           obtain ⟨p2,qs2,s,hsg,rfl,hum,hlq2,hpq,hown2,b6,x6,r6⟩:=hrel
           have HSG:=hide hsg
           have HUM:=hide hum
           have HQ2:=hide hlq2
           have HPQ:=hide hpq
           have HO2:=hide hown2
           have hs4:s ≤ 4:=by omega
           have HL2:=hide hlq2.len
           obtain ⟨g2,off2,cap2,rfl,hg20,hg21,hcl2,hcm2,_⟩:=hown2.cells
           unfold maxLen at hcm2
           clear hsg hum hlq2 hpq hown2
           by_cases hs:s < 4
           ·have hi:4 * q + s < 4 * d.n:=by omega
            obtain ⟨bb,bo,rfl,hmc⟩:=mate_at hg.m hi
            have hmc':=cell_below hmc b6
            have hnb:=Pl.nb_lt HF.out hqn hs
            have hml:=HF.out.lt _ hi
            have hnl:Pl.nb d q s < p2.length:=by have := HL2.out; omega
            have c7:=r6.cell hnl
            have f7:=Row.free r6 (Pl.nb d q s)
            have B6:=hide b6
            have X6:=hide x6
            have R6:=hide r6
            have x7:=x6.cell (i := 1) (by show 1 < 3; omega)
            have x7':wr.cell? ⟨w.heap.size,1,none⟩ = some (.slice (some ⟨bb,bo,none⟩) (4 * d.n) cq):=x7
            unfold Pl.nb at c7 f7
            clear b6 x6 r6 x7 hmc
            by_cases hneg:Pl.pv p2 (d.m (4 * q + s) / 4) < 0
            ·obtain ⟨wq,rfl⟩:∃ wq:World,wq = wr := ⟨_,rfl⟩
             have hq65:qs2.length ≤ 1000:=by
              have h1:=HUM.out
              have h2:=HGN.out
              rw [List.length_cons] at h2
              omega
             obtain ⟨i0,hi0,hz0,hz1,hz2⟩:=info_parts intInfo
             have hwz2:w.heap.size + 2 ≤ wq.heap.size:=by have := R6.out.lt; omega
             have HC1:=hide (show ((wq.setCell ⟨w.heap.size + 1,d.m (4 * q + s) / 4,none⟩ (.int .i64 P)).alloc (.cells #[.int .i64 ((d.m (4 * q + s):Int) / 4)] 3)).cell? ((⟨wq.heap.size,0,none⟩:Addr).add 0) = some (.int .i64 ((d.m (4 * q + s):Int) / 4)) by
              have h8:=Lib.cell_of_heap (heap_alloc_new (wq.setCell ⟨w.heap.size + 1,d.m (4 * q + s) / 4,none⟩ (.int .i64 P)) (.cells #[.int .i64 ((d.m (4 * q + s):Int) / 4)] 3)) 0
              simpa [Addr.add] using h8)
             go_wp2_with (at_builtin; refine wpList_append_tail _ rfl _ _ 22 rfl (w.heap.size + 2) 3 i0 (.int .i64 0) 8 Tryz.underlying22 hi0 hz0 hz1 hz2 rfl (.slice (some ⟨g2,off2,none⟩) qs2.length cap2) qs2.length (qs2.map (fun q:Nat => Value.int .i64 q)) (by rfl) (OwnT.below (OwnT.keep HO2.out (w' := wq.setCell ⟨w.heap.size + 1,d.m (4 * q + s) / 4,none⟩ (.int .i64 P)) (fun g h1 h2 h3 => Below.heap_setCell _ _ _ _ (by simp; omega))) ((Below.refl _ _).alloc (Nat.le_refl _) _)) ⟨wq.heap.size,0,none⟩ 1 (.int .i64 ((d.m (4 * q + s):Int) / 4)) (by rfl) HC1.out rfl (by unfold maxLen; omega) (by omega) (by simp; omega) ?_; intro v7 w7 own7 grow7)
             have hne2:(Value.slice (some ⟨g2,off2,none⟩) qs2.length cap2).ownBlock = some g2:=rfl
             rw [hne2] at grow7
             go_roundg (gk - 1)
             case measure => have := HSG.out; omega
             case rel =>
              have hu:=Pl.unl_set (ps := p2) (i := Pl.nb d q s) (by have := HL2.out; omega) hneg (v := (P:Int)) (by omega)
              refine ⟨p2.set (Pl.nb d q s) P,qs2 ++ [Pl.nb d q s],s + 1,by have := HSG.out; omega,by go_num,?_,HQ2.out.push HF.out hqn HPQ.out hs hneg,?_,?_,?_,?_,?_⟩
              ·have:=HUM.out; rw [List.length_append,List.length_singleton]; omega
              ·rw [Pl.pv_set (by have := HL2.out; omega)]; split; rfl; exact HPQ.out
              ·rw [List.length_append,List.length_singleton,List.map_append]
               have e9:(Value.int .i64 ((Pl.nb d q s:Nat):Int)) = Value.int .i64 ((d.m (4 * q + s):Int) / 4):=by
                congr 1
               rw [List.map_cons,List.map_nil,e9]
               exact own7
              ·exact (Below.alloc (B6.out.setCell (by simp) _) (by simp; omega) _).grown grow7 (by simp; omega) (fun k hk => by injection hk with hk; omega)
              ·exact Row.grown ((X6.out.other (by simp) _).alloc _) grow7 (by intro e; injection e with e; omega)
              ·exact Row.grown (Row.alloc (R6.out.set _ P) _) grow7 (by intro e; injection e with e; omega)
            ·go_wp2
             go_roundg (gk - 1)
             case measure => have := HSG.out; omega
             case rel =>
              exact ⟨p2,qs2,s + 1,by have := HSG.out; omega,by go_num,HUM.out,HQ2.out.skip (by unfold Pl.nb; omega),HPQ.out,HO2.out,B6.out,X6.out,R6.out⟩
           ·have hs4':s = 4:=by omega
            have B6:=hide b6
            have X6:=hide x6
            have R6:=hide r6
            clear b6 x6 r6
            go_wp2
            go_roundg (Pl.unl p1 + qs.length)
            case measure => have := HGK.out; rw [List.length_cons] at this; omega
            case rel =>
             exact ⟨p2,qs2,HUM.out.symm,by have h8 := HUM.out; have h9 := HGN.out; rw [List.length_cons] at h9; omega,by have h7 := HQ2.out; rw [hs4'] at h7; exact h7.rest,HO2.out,B6.out,X6.out,R6.out⟩
    ·have hjn':j = d.n:=by omega
     have B3:=hide b3
     have R3:=hide r3
     have hwz3:w.heap.size + 1 < wr.heap.size:=r3.lt
     clear b3 x3 r3 hlen
     go_wp2
     go_ret2
     exact ⟨ps,P,w.heap.size + 1,rfl,HL.out,fun a ha => HA.out a (by omega),by omega,R3.out,B3.out⟩
theorem label_m (d:Pl.Dg) (hd:Pl.Wf d) (A B:Option Addr) (cp cq m:Nat) (l:Value) (w:World) (hm:m = 4 * d.n) (hg:DgAt w A B d) :
 Calls Tryz.prog 40 #[.agg #[.slice A d.n cp,.slice B m cq,l]] w fun e w' =>
  ∃ (ps:List Int) (P g:Nat),e = .returned (.tuple #[.slice (some ⟨g,0,none⟩) d.n d.n,.int .i64 (P:Int)]) ∧ Pl.LB d ps P ∧ (∀ a,a < d.n → 0 ≤ Pl.pv ps a) ∧ w.heap.size ≤ g ∧ IRow w' g ps ∧ Below w.heap.size w w' := by
 subst hm; exact label_any d hd A B cp cq l w hg
end Go.Proofs.YtghdiolnonejaaaGreatDoor
end
section
namespace Go.Proofs.YtghdiolnonejaaaGreatDoor.Pl
variable {d:Dg}
noncomputable def vb (p:Prop):Bool := open Classical in decide p
theorem vb_true {p:Prop} (h:p):vb p = true := by unfold vb; simpa using h
theorem vb_false {p:Prop} (h:¬ p):vb p = false := by unfold vb; simpa using h
theorem vb_iff {p:Prop}:vb p = true ↔ p := by unfold vb; simp
theorem Wf.nxb (hd:Wf d):Bij (4 * d.n) (dart d) (nx d) := hd.hm.pb
def gb (bs:List Bool) (g:Nat):Bool := bs.getD g false
theorem gb_set {bs:List Bool} {i:Nat} (hi:i < bs.length) (v:Bool) (a:Nat):gb (bs.set i v) a = if a = i then v else gb bs a := by
 unfold gb
 rw [List.getD_eq_getElem?_getD,List.getD_eq_getElem?_getD,List.getElem?_set]
 by_cases h:i = a
 ·subst h; simp [hi]
 ·rw [if_neg h,if_neg (fun e => h e.symm)]
def uns (bs:List Bool):Nat := bs.countP (fun b => !b)
theorem uns_set {bs:List Bool} {i:Nat} (hi:i < bs.length) (hn:gb bs i = false):uns (bs.set i true) + 1 = uns bs := by
 have e:gb bs i = bs[i]:=by unfold gb; rw [List.getD_eq_getElem?_getD,List.getElem?_eq_getElem hi]; rfl
 have hb:bs[i] = false:=by rw [← e,hn]
 have hp:0 < uns bs:=by
  unfold uns
  rw [List.countP_pos_iff]
  exact ⟨bs[i],List.getElem_mem hi,by rw [hb]; rfl⟩
 unfold uns at hp ⊢
 rw [List.countP_set hi,hb]
 simp only [Bool.not_false,if_true,Bool.not_true,Bool.false_eq_true,if_false]
 omega
structure SQ (d:Dg) (k:Nat) (bs:List Bool):Prop where
 len:bs.length = 4 * d.n
 iff:∀ g,g < 4 * d.n → (gb bs g = true ↔ ∃ h,h < k ∧ Orb (nx d) h g)
theorem SQ.start (d:Dg):SQ d 0 (List.replicate (4 * d.n) false) := by
 refine ⟨by simp,fun g hg => ?_⟩
 have:gb (List.replicate (4 * d.n) false) g = false:=by
  unfold gb; rw [List.getD_eq_getElem?_getD,List.getElem?_replicate,if_pos hg]; rfl
 rw [this]
 exact ⟨fun h => (Bool.false_ne_true h).elim,fun ⟨h,h1,_⟩ => by omega⟩
structure SI (d:Dg) (k i:Nat) (bs:List Bool):Prop where
 len:bs.length = 4 * d.n
 hk:k < 4 * d.n
 new:¬ ∃ h,h < k ∧ Orb (nx d) h k
 iff:∀ g,g < 4 * d.n → (gb bs g = true ↔ (∃ h,h < k ∧ Orb (nx d) h g) ∨ ∃ j,j < i ∧ it (nx d) j k = g)
theorem SQ.seen (hd:Wf d) {k:Nat} {bs:List Bool} (h:SQ d k bs) (hk:k < 4 * d.n) (hs:gb bs k = true):SQ d (k + 1) bs ∧ ¬ Least (nx d) k := by
 obtain ⟨h0,h1,h2⟩:=(h.iff k hk).1 hs
 have h0n:h0 < 4 * d.n:=by omega
 refine ⟨⟨h.len,fun g hg => (h.iff g hg).trans ⟨fun ⟨x,hx,e⟩ => ⟨x,by omega,e⟩,fun ⟨x,hx,e⟩ => ?_⟩⟩,fun hl => ?_⟩
 ·by_cases e2:x = k
  ·subst e2; exact ⟨h0,h1,h2.trans e⟩
  ·exact ⟨x,by omega,e⟩
 ·obtain ⟨j,hj⟩:=hd.nxb.symm h0n h2
  have:=hl j
  omega
theorem SQ.enter (hd:Wf d) {k:Nat} {bs:List Bool} (h:SQ d k bs) (hk:k < 4 * d.n) (hs:gb bs k = false):SI d k 0 bs ∧ Least (nx d) k := by
 have hn:¬ ∃ h,h < k ∧ Orb (nx d) h k:=fun e => by rw [(h.iff k hk).2 e] at hs; cases hs
 refine ⟨⟨h.len,hk,hn,fun g hg => (h.iff g hg).trans ⟨.inl,fun e => e.resolve_right (fun ⟨j,hj,_⟩ => by omega)⟩⟩,fun j => ?_⟩
 refine Nat.le_of_not_lt fun hlt => hn ⟨_,hlt,hd.nxb.symm hk ⟨j,rfl⟩⟩
theorem SI.lt (hd:Wf d) {k i:Nat} {bs:List Bool} (h:SI d k i bs):it (nx d) i k < 4 * d.n := hd.nxb.it i k h.hk
theorem SI.step (hd:Wf d) {k i:Nat} {bs:List Bool} (h:SI d k i bs):SI d k (i + 1) (bs.set (it (nx d) i k) true) := by
 have hl:it (nx d) i k < bs.length:=by rw [h.len]; exact h.lt hd
 refine ⟨by rw [List.length_set,h.len],h.hk,h.new,fun g hg => ?_⟩
 rw [gb_set hl]
 by_cases e:g = it (nx d) i k
 ·rw [if_pos e]
  exact ⟨fun _ => .inr ⟨i,by omega,e.symm⟩,fun _ => rfl⟩
 ·rw [if_neg e,h.iff g hg]
  constructor
  ·rintro (h1 | ⟨j,hj,e1⟩)
   ·exact .inl h1
   ·exact .inr ⟨j,by omega,e1⟩
  ·rintro (h1 | ⟨j,hj,e1⟩)
   ·exact .inl h1
   ·by_cases e2:j = i
    ·subst e2; exact absurd e1.symm e
    ·exact .inr ⟨j,by omega,e1⟩
theorem SI.done (hd:Wf d) {k i:Nat} {bs:List Bool} (h:SI d k i bs) (hs:gb bs (it (nx d) i k) = true):SQ d (k + 1) bs := by
 have hb:=hd.nxb
 -- the face has come back
 have hback:∃ p,0 < p ∧ p ≤ i ∧ it (nx d) p k = k:=by
  rcases (h.iff _ (h.lt hd)).1 hs with ⟨x,hx,e⟩ | ⟨j,hj,e⟩
  ·exact absurd ⟨x,hx,e.trans (hb.symm h.hk ⟨i,rfl⟩)⟩ h.new
  ·refine ⟨i - j,by omega,by omega,?_⟩
   have e2:it (nx d) i k = it (nx d) j (it (nx d) (i - j) k):=by rw [← it_add,Nat.add_sub_cancel' (by omega)]
   rw [e2] at e
   exact (hb.it_inj j _ _ h.hk (hb.it _ k h.hk) e).symm
 obtain ⟨p,hp,hpi,e⟩:=hback
 have all:∀ g,Orb (nx d) k g → ∃ j,j < i ∧ it (nx d) j k = g:=by
  intro g hg
  have:∃ j,j < p ∧ it (nx d) j k = g:=orb_closed (P := fun g => ∃ j,j < p ∧ it (nx d) j k = g) (fun z ⟨j,hj,ej⟩ => by
   by_cases e3:j + 1 = p
   ·refine ⟨0,hp,?_⟩
    rw [← ej]
    show k = it (nx d) (j + 1) k
    rw [e3,e]
   ·exact ⟨j + 1,by omega,by rw [← ej]; rfl⟩) ⟨0,hp,rfl⟩ hg
  obtain ⟨j,hj,ej⟩:=this
  exact ⟨j,by omega,ej⟩
 refine ⟨h.len,fun g hg => (h.iff g hg).trans ⟨?_,?_⟩⟩
 ·rintro (⟨x,hx,e1⟩ | ⟨j,_,e1⟩)
  ·exact ⟨x,by omega,e1⟩
  ·exact ⟨k,by omega,j,e1⟩
 ·rintro ⟨x,hx,e1⟩
  by_cases e2:x = k
  ·subst e2; exact .inr (all g e1)
  ·exact .inl ⟨x,by omega,e1⟩
noncomputable def nv (ps:List Int) (p k:Nat):Nat := cnt (fun a => pv ps a = p) k
noncomputable def nf (d:Dg) (ps:List Int) (p k:Nat):Nat := cnt (fun h => Least (nx d) h ∧ pv ps (h / 4) = p) k
def Ex (d:Dg) (ps es:List Int) (P k m:Nat):Prop := es.length = P ∧ ∀ p,p < P → pv es p = (nf d ps p m:Int) - (nv ps p k:Int)
theorem Ex.start (d:Dg) (ps:List Int) (P:Nat):Ex d ps (List.replicate P 0) P 0 0 := by
 refine ⟨by simp,fun p hp => ?_⟩
 have:pv (List.replicate P 0) p = 0:=by
  unfold pv; rw [List.getD_eq_getElem?_getD,List.getElem?_replicate,if_pos hp]; rfl
 rw [this]
 simp [nf,nv,cnt]
theorem Ex.less {ps es:List Int} {P k:Nat} (h:Ex d ps es P k 0) {q:Nat} (hq:q < P) (e:pv ps k = q):Ex d ps (es.set q (pv es q - 1)) P (k + 1) 0 := by
 refine ⟨by rw [List.length_set,h.1],fun p hp => ?_⟩
 rw [pv_set (by rw [h.1]; exact hq)]
 have hp0:=h.2 p hp
 by_cases e2:p = q
 ·subst e2
  rw [if_pos rfl,hp0]
  unfold nv
  rw [cnt_step_pos e]; omega
 ·rw [if_neg e2,hp0]
  unfold nv
  rw [cnt_step_neg (fun e3 => e2 (by rw [e] at e3; omega))]
theorem Ex.more {ps es:List Int} {P k m:Nat} (h:Ex d ps es P k m) {q:Nat} (hq:q < P) (e:pv ps (m / 4) = q) (hl:Least (nx d) m):Ex d ps (es.set q (pv es q + 1)) P k (m + 1) := by
 refine ⟨by rw [List.length_set,h.1],fun p hp => ?_⟩
 rw [pv_set (by rw [h.1]; exact hq)]
 have hp0:=h.2 p hp
 by_cases e2:p = q
 ·subst e2
  rw [if_pos rfl,hp0]
  unfold nf
  rw [cnt_step_pos ⟨hl,e⟩]; omega
 ·rw [if_neg e2,hp0]
  unfold nf
  rw [cnt_step_neg (fun e3 => e2 (by have := e3.2; rw [e] at this; omega))]
theorem Ex.same {ps es:List Int} {P k m:Nat} (h:Ex d ps es P k m) (hl:¬ Least (nx d) m):Ex d ps es P k (m + 1) := by
 refine ⟨h.1,fun p hp => ?_⟩
 rw [h.2 p hp]
 unfold nf
 rw [cnt_step_neg (fun e3 => hl e3.1)]
def Rule (d:Dg):Prop := ∀ c,c < d.n → cnt (fun h => Least (nx d) h ∧ Comp d c (h / 4)) (4 * d.n) = cnt (fun b => Comp d c b) d.n + 2
theorem Ex.rule (hd:Wf d) {ps es:List Int} {P:Nat} (hb:LB d ps P) (hall:∀ a,a < d.n → 0 ≤ pv ps a) (h:Ex d ps es P d.n (4 * d.n)):(∀ p,p < P → pv es p = 2) ↔ Rule d := by
 have key:∀ c p:Nat,c < d.n → pv ps c = p → nf d ps p (4 * d.n) = cnt (fun h => Least (nx d) h ∧ Comp d c (h / 4)) (4 * d.n) ∧ nv ps p d.n = cnt (fun b => Comp d c b) d.n:=by
  intro c p hc e
  have one:∀ b,b < d.n → (pv ps b = p ↔ Comp d c b):=fun b hb' => ⟨fun e2 => hb.conn c b hc hb' (hall c hc) (by rw [e,e2]),fun e2 => by rw [hb.same c b hc e2 (hall c hc),e]⟩
  refine ⟨cnt_congr _ (fun x hx => ?_),cnt_congr _ (fun x hx => one x hx)⟩
  rw [one (x / 4) (by omega)]
 constructor
 ·intro h2 c hc
  have hlo:=hb.lo c hc
  have h0:=hall c hc
  obtain ⟨p,hp⟩:∃ p:Nat,pv ps c = p := ⟨(pv ps c).toNat,by omega⟩
  obtain ⟨k1,k2⟩:=key c p hc hp
  have h3:=h2 p (by omega)
  rw [h.2 p (by omega),k1,k2] at h3
  omega
 ·intro h2 p hp
  obtain ⟨c,hc,e⟩:=hb.all p hp
  obtain ⟨k1,k2⟩:=key c p hc e
  rw [h.2 p hp,k1,k2,h2 c hc]
  omega
end Go.Proofs.YtghdiolnonejaaaGreatDoor.Pl
end
section
namespace Go.Proofs.YtghdiolnonejaaaGreatDoor
open Go.RowKit
set_option maxRecDepth 100000 in
set_option maxHeartbeats 4000000 in
theorem spherical_any (d:Pl.Dg) (hd:Pl.Wf d) (A B:Option Addr) (cp cq:Nat) (l:Value) (w:World) (hl:l = .int .i64 d.lp) (hg:DgAt w A B d) :
 Calls Tryz.prog 21 #[.agg #[.slice A d.n cp,.slice B (4 * d.n) cq,l]] w fun e w' => e = .returned (.bool (Pl.vb (Pl.Rule d))) ∧ Below w.heap.size w w' := by
 subst hl
 have hn:=hd.few
 have HF:=hide hd
 clear hd
 obtain ⟨m,hm⟩:∃ m,m = 4 * d.n := ⟨_,rfl⟩
 rw [← hm]
 have HM:=hide hm
 have hm6:m ≤ 256:=by omega
 clear hm
 go_enter Tryz.func21,Tryz.ntmps21
 go_wp2_with fail
 have b0:Below w.heap.size w (w.alloc (.cells #[.slice A d.n cp,.slice B m cq,.int .i64 d.lp] 24)):=(Below.refl _ _).alloc (Nat.le_refl _) _
 have x0:Row (w.alloc (.cells #[.slice A d.n cp,.slice B m cq,.int .i64 d.lp] 24)) w.heap.size 24 (boxV A B d.n cp m cq (.int .i64 d.lp)):=Row.new w _ _
 refine (label_m d HF.out A B cp cq m _ _ HM.out (hg.keep b0)).mono ?_
 rintro e w1 ⟨ps,P,g,rfl,hlb,hall,hgb,hrow,hb1⟩
 have X1:=hide (x0.below hb1)
 have B1:=hide (b0.trans (hb1.mono (by simp)))
 have hPn:=hlb.le
 have HLB:=hide hlb
 have HALL:=hide hall
 have HLen:=hide hlb.len
 have R1:=hide hrow
 have hg0:w.heap.size + 1 ≤ g:=by simpa using hgb
 have hg1:g < w1.heap.size:=hrow.lt
 clear b0 x0 hb1 hlb hall hrow hgb
 have hmk:=run_ints P (by omega) w1
 go_wp2
 clear hmk
 obtain ⟨W2,hW2⟩:∃ W2:World,W2 = w1.alloc (.cells (Array.replicate P (Value.int .i64 0)) 3) := ⟨_,rfl⟩
 have B2:=hide (show Below w.heap.size w W2 by rw [hW2]; exact B1.out.alloc (by omega) _)
 have X2:=hide (show Row W2 w.heap.size 24 (boxV A B d.n cp m cq (.int .i64 d.lp)) by rw [hW2]; exact X1.out.alloc _)
 have R2:=hide (show IRow W2 g ps by rw [hW2]; exact Row.alloc R1.out _)
 have E2:=hide (show IRow W2 w1.heap.size (List.replicate P 0) by rw [hW2]; exact IRow.made w1 P)
 rw [← hW2]
 clear hW2 B1 X1 R1
 generalize w1.heap.size = eb at hg1 E2 ⊢
 go_loopg [22] d.n (fun g' i wx => ∃ (k:Nat) (es:List Int),k + g' = d.n ∧ i = .int .i64 k ∧ Pl.Ex d ps es P k 0 ∧ Below w.heap.size w wx ∧ Row wx w.heap.size 24 (boxV A B d.n cp m cq (.int .i64 d.lp)) ∧ IRow wx g ps ∧ IRow wx eb es)
 case atStart => exact ⟨0,_,by omega,rfl,Pl.Ex.start d ps P,B2.out,X2.out,R2.out,E2.out⟩
 case round =>
  clear B2 X2 R2 E2
  obtain ⟨k,es,hkg,rfl,hex,b3,x3,r3,e3⟩:=hrel
  have HG:=hide hkg
  have HE:=hide hex
  have hks:k ≤ d.n:=by omega
  have hel:=hex.1
  have HEL:=hide hel
  clear hkg hex
  by_cases hlt:k < d.n
  ·obtain ⟨q,hq⟩:∃ q:Nat,Pl.pv ps k = q := ⟨(Pl.pv ps k).toNat,by have := HALL.out k hlt; omega⟩
   have hqP:q < P:=by have := (HLB.out.lo k hlt).2; omega
   have c1:=r3.cell (i := k) (by have := HLen.out; omega)
   rw [hq] at c1
   have c2:=e3.cell (i := q) (by omega)
   have f2:=Row.free e3 q
   have hlo:-1000 ≤ Pl.pv es q ∧ Pl.pv es q ≤ 1000:=by
    have h1:=HE.out.2 q hqP
    have h2:Pl.nf d ps q 0 = 0:=rfl
    have h3:Pl.nv ps q k ≤ k:=Pl.cnt_top _ k
    omega
   have HQ:=hide hq
   have B3:=hide b3
   have X3:=hide x3
   have R3:=hide r3
   have E3:=hide e3
   clear hq b3 x3 r3 e3 hel
   go_wp2
   go_roundg (gk - 1)
   case measure => have := HG.out; omega
   case rel =>
    refine ⟨k + 1,_,by have := HG.out; omega,by go_num,HE.out.less hqP HQ.out,B3.out.setCell (by simp; omega) _,X3.out.other (by simp; omega) _,Row.other R3.out (by simp; omega) _,E3.out.set q (Pl.pv es q - 1)⟩
  ·have hkn:k = d.n:=by omega
   have HE':=hide (show Pl.Ex d ps es P d.n 0 by have := HE.out; rw [hkn] at this; exact this)
   have hmk2:=run_bools m (by omega) wr
   have B3:=hide b3
   have X3:=hide x3
   have R3:=hide r3
   have E3:=hide e3
   have x3c:wr.cell? ⟨w.heap.size,1,none⟩ = some (.slice B m cq):=x3.cell (i := 1) (by show 1 < 3; omega)
   have ewz:eb < wr.heap.size:=e3.lt
   have x3d:(wr.alloc (.cells (Array.replicate m (Value.bool false)) 4)).cell? ⟨w.heap.size,1,none⟩ = some (.slice B m cq):=(x3.alloc _).cell (i := 1) (by show 1 < 3; omega)
   clear b3 x3 r3 e3 hkn HE hel
   go_wp2
   clear hmk2 x3c x3d
   obtain ⟨W4,hW4⟩:∃ W4:World,W4 = wr.alloc (.cells (Array.replicate m (Value.bool false)) 4) := ⟨_,rfl⟩
   have B4:=hide (show Below w.heap.size w W4 by rw [hW4]; exact B3.out.alloc (by omega) _)
   have X4:=hide (show Row W4 w.heap.size 24 (boxV A B d.n cp m cq (.int .i64 d.lp)) by rw [hW4]; exact X3.out.alloc _)
   have R4:=hide (show IRow W4 g ps by rw [hW4]; exact Row.alloc R3.out _)
   have E4:=hide (show IRow W4 eb es by rw [hW4]; exact Row.alloc E3.out _)
   have S4:=hide (show BRow W4 wr.heap.size (List.replicate (4 * d.n) false) by rw [hW4,← HM.out]; exact BRow.made wr m)
   rw [← hW4]
   clear hW4 B3 X3 R3 E3
   generalize wr.heap.size = sb at ewz S4 ⊢
   go_loopg [40] m (fun g' i wx => ∃ (k:Nat) (es:List Int) (bs:List Bool),k + g' = m ∧ i = .int .i64 k ∧ Pl.Ex d ps es P d.n k ∧ Pl.SQ d k bs ∧ Below w.heap.size w wx ∧ Row wx w.heap.size 24 (boxV A B d.n cp m cq (.int .i64 d.lp)) ∧ IRow wx g ps ∧ IRow wx eb es ∧ BRow wx sb bs)
   case atStart => exact ⟨0,es,_,by omega,rfl,HE'.out,Pl.SQ.start d,B4.out,X4.out,R4.out,E4.out,S4.out⟩
   case round =>
    clear B4 X4 R4 E4 S4 HG HEL HE'
    obtain ⟨j,e5,bs,hjg,rfl,hex,hsq,b6,x6,r6,e6,s6⟩:=hrel
    have HG:=hide hjg
    have HE:=hide hex
    have HS:=hide hsq
    have hjs:j ≤ m:=by omega
    have HEL:=hide hex.1
    have HSL:=hide hsq.len
    clear hjg hex hsq
    by_cases hjm:j < m
    ·have hj4:j < 4 * d.n:=by have := HM.out; omega
     have c1:=s6.cell (i := j) (by have := HSL.out; omega)
     by_cases hseen:Pl.gb bs j = true
     ·have c1':wr.cell? ⟨sb,j,none⟩ = some (.bool true):=by rw [c1]; exact congrArg (fun b => some (Value.bool b)) hseen
      have B6:=hide b6
      have X6:=hide x6
      have R6:=hide r6
      have E6:=hide e6
      have S6:=hide s6
      have HSE:=hide (HS.out.seen HF.out hj4 hseen)
      clear c1 b6 x6 r6 e6 s6 hseen
      go_wp2
      go_roundg (gk - 1)
      case measure => have := HG.out; omega
      case rel => exact ⟨j + 1,e5,bs,by have := HG.out; omega,by go_num,HE.out.same HSE.out.2,HSE.out.1,B6.out,X6.out,R6.out,E6.out,S6.out⟩
     ·have hseen':Pl.gb bs j = false:=by simpa using hseen
      have c1':wr.cell? ⟨sb,j,none⟩ = some (.bool false):=by rw [c1]; exact congrArg (fun b => some (Value.bool b)) hseen'
      have HSE:=hide (HS.out.enter HF.out hj4 hseen')
      have hj4':j / 4 < d.n:=by omega
      obtain ⟨q,hq⟩:∃ q:Nat,Pl.pv ps (j / 4) = q := ⟨(Pl.pv ps (j / 4)).toNat,by have := HALL.out (j / 4) hj4'; omega⟩
      have hqP:q < P:=by have := (HLB.out.lo (j / 4) hj4').2; omega
      have c2:=r6.cell (i := j / 4) (by have := HLen.out; omega)
      rw [hq] at c2
      have c3:=e6.cell (i := q) (by have := HEL.out; omega)
      have f3:=Row.free e6 q
      have hlo:-1000 ≤ Pl.pv e5 q ∧ Pl.pv e5 q ≤ 1000:=by
       have h1:=HE.out.2 q hqP
       have h2:Pl.nf d ps q j ≤ j:=Pl.cnt_top _ j
       have h3:Pl.nv ps q d.n ≤ d.n:=Pl.cnt_top _ d.n
       omega
      have HQ:=hide hq
      have B6:=hide b6
      have X6:=hide x6
      have R6:=hide r6
      have E6:=hide e6
      have S6:=hide s6
      obtain ⟨wo,rfl⟩:∃ wo:World,wo = wr := ⟨_,rfl⟩
      clear c1 b6 x6 r6 e6 s6 hseen hseen' hq
      go_wp2
      obtain ⟨W5,hW5⟩:∃ W5:World,W5 = wo.setCell ⟨eb,q,none⟩ (.int .i64 (Pl.pv e5 q + 1)) := ⟨_,rfl⟩
      have B7:=hide (show Below w.heap.size w W5 by rw [hW5]; exact B6.out.setCell (by simp; omega) _)
      have X7:=hide (show Row W5 w.heap.size 24 (boxV A B d.n cp m cq (.int .i64 d.lp)) by rw [hW5]; exact X6.out.other (by simp; omega) _)
      have R7:=hide (show IRow W5 g ps by rw [hW5]; exact Row.other R6.out (by simp; omega) _)
      have E7:=hide (show IRow W5 eb (e5.set q (Pl.pv e5 q + 1)) by rw [hW5]; exact E6.out.set q _)
      have S7:=hide (show BRow W5 sb bs by rw [hW5]; exact Row.other S6.out (by simp; omega) _)
      rw [← hW5]
      clear hW5 B6 X6 R6 E6 S6 c1' c2 c3 f3
      go_loopg [10] (Pl.uns bs) (fun g' v wx => ∃ (i:Nat) (b8:List Bool),g' = Pl.uns b8 ∧ v = .int .i64 (Pl.it (Pl.nx d) i j:Nat) ∧ Pl.SI d j i b8 ∧ Below w.heap.size w wx ∧ Row wx w.heap.size 24 (boxV A B d.n cp m cq (.int .i64 d.lp)) ∧ IRow wx g ps ∧ IRow wx eb (e5.set q (Pl.pv e5 q + 1)) ∧ BRow wx sb b8)
      case atStart => exact ⟨0,bs,rfl,rfl,HSE.out.1,B7.out,X7.out,R7.out,E7.out,S7.out⟩
      case round =>
       clear B7 X7 R7 E7 S7
       obtain ⟨i,b8,hgk,rfl,hsi,b9,x9,r9,e9,s9⟩:=hrel
       have HGK:=hide hgk
       have HSI:=hide hsi
       have HSZ:=hide hsi.len
       have hcur4:=hsi.lt HF.out
       clear hgk hsi
       obtain ⟨cur,hcur⟩:∃ cur,cur = Pl.it (Pl.nx d) i j := ⟨_,rfl⟩
       rw [← hcur] at hcur4 ⊢
       have HC:=hide hcur
       clear hcur
       have hcm:cur < m:=by have := HM.out; omega
       have c1:=s9.cell (i := cur) (by have := HSZ.out; omega)
       have f1:=Row.free s9 cur
       by_cases hseen:Pl.gb b8 cur = true
       ·have c1':wr.cell? ⟨sb,cur,none⟩ = some (.bool true):=by rw [c1]; exact congrArg (fun b => some (Value.bool b)) hseen
        have HD:=hide (HSI.out.done HF.out (by rw [← HC.out]; exact hseen))
        have B9:=hide b9
        have X9:=hide x9
        have R9:=hide r9
        have E9:=hide e9
        have S9:=hide s9
        clear c1 f1 b9 x9 r9 e9 s9 hseen
        go_wp2
        go_roundg (m - (j + 1))
        case measure => have := HG.out; omega
        case rel => exact ⟨j + 1,_,b8,by omega,by go_num,HE.out.more hqP HQ.out HSE.out.2,HD.out,B9.out,X9.out,R9.out,E9.out,S9.out⟩
       ·have hseen':Pl.gb b8 cur = false:=by simpa using hseen
        have c1':wr.cell? ⟨sb,cur,none⟩ = some (.bool false):=by rw [c1]; exact congrArg (fun b => some (Value.bool b)) hseen'
        obtain ⟨bb,bo,rfl,hmc⟩:=mate_at hg.m hcur4
        have hml:=HF.out.lt _ hcur4
        have b10:Below w.heap.size w (wr.setCell ⟨sb,cur,none⟩ (.bool true)):=b9.setCell (by simp; omega) _
        have c2:=cell_below hmc b10
        have x10:Row (wr.setCell ⟨sb,cur,none⟩ (.bool true)) w.heap.size 24 (boxV A (some ⟨bb,bo,none⟩) d.n cp m cq (.int .i64 d.lp)):=x9.other (by simp; omega) _
        have c3:(wr.setCell ⟨sb,cur,none⟩ (.bool true)).cell? ⟨w.heap.size,1,none⟩ = some (.slice (some ⟨bb,bo,none⟩) m cq):=x10.cell (i := 1) (by show 1 < 3; omega)
        have B9:=hide b10
        have X9:=hide x10
        have R9:=hide (show IRow (wr.setCell ⟨sb,cur,none⟩ (.bool true)) g ps from Row.other r9 (by simp; omega) _)
        have E9:=hide (show IRow (wr.setCell ⟨sb,cur,none⟩ (.bool true)) eb (e5.set q (Pl.pv e5 q + 1)) from Row.other e9 (by simp; omega) _)
        have S9:=hide (s9.set cur true)
        have HU:=hide (Pl.uns_set (by have := HSZ.out; omega) hseen')
        clear c1 b10 x10 b9 x9 r9 e9 s9 hseen hseen' hmc
        go_wp2_with fail
        refine (turn_back _ _ (by omega)).mono ?_
        rintro e w9 ⟨rfl,rfl⟩
        go_wp2
        go_roundg (gk - 1)
        case measure => have h1 := HGK.out; have h2 := HU.out; omega
        case rel => exact ⟨i + 1,b8.set cur true,by have h1 := HGK.out; have h2 := HU.out; omega,by rw [HC.out]; rfl,by have := HSI.out.step HF.out; rw [← HC.out] at this; exact this,B9.out,X9.out,R9.out,E9.out,S9.out⟩
    ·have hjm':j = 4 * d.n:=by have := HM.out; omega
     have HE':=hide (show Pl.Ex d ps e5 P d.n (4 * d.n) by have := HE.out; rw [hjm'] at this; exact this)
     have HR:=hide (HE'.out.rule HF.out HLB.out HALL.out)
     have B6:=hide b6
     have E6:=hide e6
     clear b6 x6 r6 e6 s6 hjm' HE
     go_wp2
     go_loopg [75] P (fun g' i wx => ∃ k:Nat,k + g' = P ∧ i = .int .i64 k ∧ (∀ p,p < k → Pl.pv e5 p = 2) ∧ Below w.heap.size w wx ∧ IRow wx eb e5)
     case atStart => exact ⟨0,by omega,rfl,fun p hp => absurd hp (by omega),B6.out,E6.out⟩
     case round =>
      clear B6 E6
      obtain ⟨k,hkg,rfl,hall2,b7,e7⟩:=hrel
      have HGG:=hide hkg
      have HA2:=hide hall2
      have hkP:k ≤ P:=by omega
      clear hkg hall2
      by_cases hlt:k < P
      ·have c1:=e7.cell (i := k) (by have := HEL.out; omega)
       have B7:=hide b7
       have E7:=hide e7
       clear b7 e7
       by_cases h2:Pl.pv e5 k = 2
       ·have H2:=hide h2
        rw [h2] at c1
        clear h2
        go_wp2
        go_roundg (gk - 1)
        case measure => have := HGG.out; omega
        case rel =>
         refine ⟨k + 1,by have := HGG.out; omega,by go_num,fun p hp => ?_,B7.out,E7.out⟩
         by_cases e:p = k
         ·rw [e]; exact H2.out
         ·exact HA2.out p (by omega)
       ·have hb2:(Pl.pv e5 k != 2) = true:=by rw [bne_iff_ne]; exact h2
        have H2:=hide h2
        clear h2
        go_wp2
        go_ret
        exact ⟨ret_bool (Pl.vb_false (fun hr => H2.out (HR.out.2 hr k hlt))).symm,B7.out⟩
      ·have hkP':k = P:=by omega
       have B7:=hide b7
       clear b7 e7
       go_wp2
       go_ret
       exact ⟨ret_bool (Pl.vb_true (HR.out.1 (fun p hp => HA2.out p (by omega)))).symm,B7.out⟩
theorem spherical_n (d:Pl.Dg) (hd:Pl.Wf d) (A B:Option Addr) (n q cp cq:Nat) (l:Value) (w:World) (e1:n = d.n) (e2:q = 4 * d.n) (hl:l = .int .i64 d.lp) (hg:DgAt w A B d) :
 Calls Tryz.prog 21 #[.agg #[.slice A n cp,.slice B q cq,l]] w fun e w' => e = .returned (.bool (Pl.vb (Pl.Rule d))) ∧ Below w.heap.size w w' := by
 subst e1; subst e2; exact spherical_any d hd A B cp cq l w hl hg
end Go.Proofs.YtghdiolnonejaaaGreatDoor
end
section
namespace Go.Proofs.YtghdiolnonejaaaGreatDoor.Pl
def mk (sg mt:List Int) (lp:Int):Dg := ⟨sg,mt.map Int.toNat,lp.toNat⟩
def VL (sg mt:List Int) (lp:Int):Prop := Valid (mk sg mt lp) ∧ (∀ z,z ∈ mt → 0 ≤ z) ∧ 0 ≤ lp
variable {sg mt:List Int} {lp:Int}
theorem mk_n (sg mt:List Int) (lp:Int):(mk sg mt lp).n = sg.length := rfl
theorem mk_m {h:Nat} (hh:h < mt.length):(mk sg mt lp).m h = (pv mt h).toNat := by
 unfold Dg.m mk pv
 rw [List.getD_eq_getElem?_getD,List.getD_eq_getElem?_getD,List.getElem?_map,List.getElem?_eq_getElem hh]; rfl
theorem nats_mk (h:∀ z,z ∈ mt → 0 ≤ z):(mk sg mt lp).mt.map (fun m:Nat => (m:Int)) = mt := by
 unfold mk
 rw [List.map_map]
 refine (List.map_congr_left (fun z hz => ?_)).trans (List.map_id mt)
 have:=h z hz
 simp only [Function.comp_apply,id_eq]
 omega
theorem pv_mem {l:List Int} {h:Nat} (hh:h < l.length):pv l h ∈ l := by
 unfold pv
 rw [List.getD_eq_getElem?_getD,List.getElem?_eq_getElem hh]
 exact List.getElem_mem hh
theorem VL.few (h:VL sg mt lp):sg.length ≤ 64 := h.1.wf.few
theorem VL.len (h:VL sg mt lp):mt.length = 4 * sg.length := by have := h.1.wf.len; unfold mk Dg.n at this; simpa using this
theorem VL.loops (h:VL sg mt lp):0 ≤ lp ∧ lp ≤ 64 := by
 have h1:=h.1.wf.lp
 have h2:=h.2.2
 unfold mk at h1
 simp only at h1
 omega
theorem VL.sign (h:VL sg mt lp) {c:Nat} (hc:c < sg.length):pv sg c = 1 ∨ pv sg c = -1 := h.1.wf.sign c hc
theorem VL.mate (h:VL sg mt lp) {k:Nat} (hk:k < mt.length):0 ≤ pv mt k ∧ pv mt k < mt.length ∧ pv mt k ≠ k ∧ pv mt (pv mt k).toNat = k ∧ out (mk sg mt lp) k ≠ out (mk sg mt lp) (pv mt k).toNat := by
 have hl:=h.len
 have hw:=h.1.wf
 have h0:=h.2.1 _ (pv_mem hk)
 have hk4:k < 4 * (mk sg mt lp).n:=by rw [mk_n]; omega
 have h1:=hw.lt k hk4
 have h2:=hw.ne k hk4
 have h3:=hw.inv k hk4
 have h4:=hw.way k hk4
 rw [mk_m hk] at h1 h2 h3 h4
 rw [mk_n] at h1
 have hm:(pv mt k).toNat < mt.length:=by omega
 rw [mk_m hm] at h3
 have h5:=h.2.1 _ (pv_mem hm)
 exact ⟨h0,by omega,by omega,by omega,h4⟩
theorem wf_of (h1:sg.length ≤ 64) (h2:mt.length = 4 * sg.length) (h3:0 ≤ lp ∧ lp ≤ 64) (h4:∀ c,c < sg.length → pv sg c = 1 ∨ pv sg c = -1)
 (h5:∀ k,k < mt.length → 0 ≤ pv mt k ∧ pv mt k < mt.length ∧ pv mt k ≠ k ∧ pv mt (pv mt k).toNat = k ∧ out (mk sg mt lp) k ≠ out (mk sg mt lp) (pv mt k).toNat):Wf (mk sg mt lp) := by
 refine ⟨h1,by unfold mk Dg.n; simpa using h2,by unfold mk; simp only; omega,h4,fun h hh => ?_,fun h hh => ?_,fun h hh => ?_,fun h hh => ?_⟩
 all_goals
  rw [mk_n] at hh
  have hl:h < mt.length:=by omega
  obtain ⟨g1,g2,g3,g4,g5⟩:=h5 h hl
  rw [mk_m hl]
 ·rw [mk_n]; omega
 ·omega
 ·rw [mk_m (by omega),g4]; rfl
 ·exact g5
theorem VL.of (hw:Wf (mk sg mt lp)) (hp:∀ z,z ∈ mt → 0 ≤ z) (hl:0 ≤ lp):VL sg mt lp ↔ Rule (mk sg mt lp) :=
 ⟨fun h => h.1.flat,fun h => ⟨⟨hw,h⟩,hp,hl⟩⟩
theorem mem_pv {l:List Int} {z:Int} (h:z ∈ l):∃ k,k < l.length ∧ pv l k = z := by
 obtain ⟨k,hk,e⟩:=List.mem_iff_getElem.1 h
 exact ⟨k,hk,by unfold pv; rw [List.getD_eq_getElem?_getD,List.getElem?_eq_getElem hk]; exact e⟩
end Go.Proofs.YtghdiolnonejaaaGreatDoor.Pl
end
section
namespace Go.Proofs.YtghdiolnonejaaaGreatDoor
open Go.RowKit
theorem ints_pv {w:World} {A:Option Addr} {n k:Nat} {zs:List Int} (h:IntsAt w A n zs) (hk:k < n) :
 ∃ b o,A = some ⟨b,o,none⟩ ∧ w.cell? ⟨b,o + k,none⟩ = some (.int .i64 (Pl.pv zs k)) := h.at_ hk
set_option maxRecDepth 100000 in
set_option maxHeartbeats 1500000 in
theorem valid_any (sg mt:List Int) (lp:Int) (A B:Option Addr) (n q cp cq:Nat) (w:World) (hs:IntsAt w A n sg) (hm:IntsAt w B q mt) (hn:n ≤ maxLen) (hq:q ≤ maxLen) (hlp:-9223372036854775808 ≤ lp ∧ lp ≤ 9223372036854775807) :
 Calls Tryz.prog 8 #[.agg #[.slice A n cp,.slice B q cq,.int .i64 lp]] w fun e w' => e = .returned (.bool (Pl.vb (Pl.VL sg mt lp))) ∧ Below w.heap.size w w' := by
 unfold maxLen at hn hq
 have HLS:=hide hs.len
 have HLM:=hide hm.len
 have b0:Below w.heap.size w (w.alloc (.cells #[.slice A n cp,.slice B q cq,.int .i64 lp] 24)):=(Below.refl _ _).alloc (Nat.le_refl _) _
 by_cases h1:64 < n
 ·have HV:=hide (fun h:Pl.VL sg mt lp => show False by have := h.few; have := HLS.out; omega)
  go_enter Tryz.func8,Tryz.ntmps8
  go_wp2
  go_ret
  exact ⟨ret_bool (Pl.vb_false HV.out).symm,b0⟩
 ·have h1':decide (64 < (n:Int)) = false:=by simp; omega
  by_cases h2:q = 4 * n
  ·by_cases h3:0 ≤ lp ∧ lp ≤ 64
   ·have h2':(((q:Nat):Int) != 4 * (n:Int)) = false:=by simp; omega
    have h3a:decide (lp < 0) = false:=by simp; omega
    have h3b:decide (64 < lp) = false:=by simp; omega
    have HQ4:=hide h2
    have hq6:q ≤ 256:=by omega
    clear h2
    have x0:Row (w.alloc (.cells #[.slice A n cp,.slice B q cq,.int .i64 lp] 24)) w.heap.size 24 (boxV A B n cp q cq (.int .i64 lp)):=Row.new w _ _
    go_enter Tryz.func8,Tryz.ntmps8
    go_wp2
    have B0:=hide b0
    have X0:=hide x0
    clear b0 x0 h1' h2' h3a h3b
    go_loopg [34] n (fun g i wx => ∃ k:Nat,k + g = n ∧ i = .int .i64 k ∧ (∀ c,c < k → Pl.pv sg c = 1 ∨ Pl.pv sg c = -1) ∧ Below w.heap.size w wx ∧ Row wx w.heap.size 24 (boxV A B n cp q cq (.int .i64 lp)))
    case atStart => exact ⟨0,by omega,rfl,fun c hc => absurd hc (by omega),B0.out,X0.out⟩
    case round =>
     clear B0 X0
     obtain ⟨k,hkg,rfl,hsg,b1,x1⟩:=hrel
     have HG:=hide hkg
     have HSG:=hide hsg
     have hkn:k ≤ n:=by omega
     clear hkg hsg
     by_cases hlt:k < n
     ·obtain ⟨ab,ao,rfl,hc⟩:=ints_pv hs hlt
      have hc1:=cell_below hc b1
      have B1:=hide b1
      have X1:=hide x1
      clear b1 x1 hc
      by_cases hz:Pl.pv sg k = 1
      ·have HZ:=hide hz
       rw [hz] at hc1
       clear hz
       go_wp2
       go_roundg (gk - 1)
       case measure => have := HG.out; omega
       case rel =>
        refine ⟨k + 1,by have := HG.out; omega,by go_num,fun c hc => ?_,B1.out,X1.out⟩
        by_cases e:c = k
        ·rw [e]; exact .inl HZ.out
        ·exact HSG.out c (by omega)
      ·by_cases hz2:Pl.pv sg k = -1
       ·have HZ:=hide hz2
        rw [hz2] at hc1
        clear hz hz2
        go_wp2
        go_roundg (gk - 1)
        case measure => have := HG.out; omega
        case rel =>
         refine ⟨k + 1,by have := HG.out; omega,by go_num,fun c hc => ?_,B1.out,X1.out⟩
         by_cases e:c = k
         ·rw [e]; exact .inr HZ.out
         ·exact HSG.out c (by omega)
       ·have HV := hide (fun h : Pl.VL sg mt lp => show False by
         rcases h.sign (c := k) (by have := HLS.out; omega) with e | e
         ·exact hz e
         ·exact hz2 e)
        have t1:(Pl.pv sg k != 1) = true:=by rw [bne_iff_ne]; exact hz
        have t2:(Pl.pv sg k != -1) = true:=by rw [bne_iff_ne]; exact hz2
        clear hz hz2
        go_wp2
        go_ret
        exact ⟨ret_bool (Pl.vb_false HV.out).symm,B1.out⟩
     ·have HSG':=hide (fun (c:Nat) (hc:c < sg.length) => HSG.out c (by have := HLS.out; omega))
      have B1:=hide b1
      have X1:=hide x1
      have x1c:wr.cell? ⟨w.heap.size,1,none⟩ = some (.slice B q cq):=x1.cell (i := 1) (by show 1 < 3; omega)
      clear b1 x1 HSG HG
      go_wp2
      clear x1c
      go_loopg [48] q (fun g i wx => ∃ k:Nat,k + g = q ∧ i = .int .i64 k ∧ (∀ h,h < k → 0 ≤ Pl.pv mt h ∧ Pl.pv mt h < mt.length ∧ Pl.pv mt h ≠ h ∧ Pl.pv mt (Pl.pv mt h).toNat = h ∧ Pl.out (Pl.mk sg mt lp) h ≠ Pl.out (Pl.mk sg mt lp) (Pl.pv mt h).toNat) ∧ Below w.heap.size w wx ∧ Row wx w.heap.size 24 (boxV A B n cp q cq (.int .i64 lp)))
      case atStart => exact ⟨0,by omega,rfl,fun c hc => absurd hc (by omega),B1.out,X1.out⟩
      case round =>
       clear B1 X1
       obtain ⟨j,hjg,rfl,hmo,b2,x2⟩:=hrel
       have HG:=hide hjg
       have HMO:=hide hmo
       have hjq:j ≤ q:=by omega
       clear hjg hmo
       by_cases hlt2:j < q
       ·obtain ⟨bb,bo,rfl,hc⟩:=ints_pv hm hlt2
        have hc1:=cell_below hc b2
        have x2c:wr.cell? ⟨w.heap.size,1,none⟩ = some (.slice (some ⟨bb,bo,none⟩) q cq):=x2.cell (i := 1) (by show 1 < 3; omega)
        have hjl:j < mt.length:=by have := HLM.out; omega
        have B2:=hide b2
        have X2:=hide x2
        clear b2 x2 hc
        by_cases hz0:Pl.pv mt j < 0
        ·have HV:=hide (fun h:Pl.VL sg mt lp => show False by have := (h.mate hjl).1; omega)
         have t1:decide (Pl.pv mt j < 0) = true:=by simpa using hz0
         clear hz0
         go_wp2
         go_ret
         exact ⟨ret_bool (Pl.vb_false HV.out).symm,B2.out⟩
        ·have t1:decide (Pl.pv mt j < 0) = false:=by simpa using hz0
         by_cases hz1:Pl.pv mt j < q
         ·obtain ⟨t,ht⟩:∃ t:Nat,Pl.pv mt j = t := ⟨(Pl.pv mt j).toNat,by omega⟩
          have htq:t < q:=by omega
          have t2:decide (4 * (n:Int) ≤ (t:Int)) = false:=by have := HQ4.out; simp; omega
          rw [ht] at hc1 t1
          have HT:=hide ht
          have hj4:j < 4 * n:=by have := HQ4.out; omega
          have ht4:t < 4 * n:=by have := HQ4.out; omega
          clear hz0 hz1 ht
          by_cases htj:t = j
          ·have HV:=hide (fun h:Pl.VL sg mt lp => show False by have := (h.mate hjl).2.2.1; rw [HT.out] at this; omega)
           have t3:(((t:Nat):Int) == (j:Int)) = true:=by simp; omega
           clear htj
           go_wp2
           go_ret
           exact ⟨ret_bool (Pl.vb_false HV.out).symm,B2.out⟩
          ·have t3:(((t:Nat):Int) == (j:Int)) = false:=by simp; omega
           obtain ⟨bb',bo',ebb,hcb⟩:=ints_pv hm htq
           injection ebb with ebb
           injection ebb with ebb1 ebb2
           subst ebb1; subst ebb2
           have hc2:=cell_below hcb B2.out
           clear hcb
           by_cases hinv:Pl.pv mt t = j
           ·have HI:=hide hinv
            rw [hinv] at hc2
            clear hinv
            have HSS:=hide (fun (p:Cls (fun w' => Row w' w.heap.size 24 (boxV A (some ⟨bb,bo,none⟩) n cp q cq (.int .i64 lp)) ∧ Below w.heap.size w w')) (h:Nat) (hh:h < 4 * n) =>
             calls_cls (C := fun w' => Row w' w.heap.size 24 (boxV A (some ⟨bb,bo,none⟩) n cp q cq (.int .i64 lp)) ∧ Below w.heap.size w w')
              (out_n (Pl.mk sg mt lp) A (some ⟨bb,bo,none⟩) n cp q cq (.int .i64 lp) h p.w HLS.out.symm hh (by omega) (hs.keep p.ok.2)) (fun e w' h => ⟨h.1,p.ok.1.below h.2,p.ok.2.trans (h.2.mono p.ok.2.size)⟩))
            have c30:∀ p:Cls (fun w' => Row w' w.heap.size 24 (boxV A (some ⟨bb,bo,none⟩) n cp q cq (.int .i64 lp)) ∧ Below w.heap.size w w'),p.w.cell? ⟨w.heap.size,0,none⟩ = some (.slice A n cp):=fun p => p.ok.1.cell (i := 0) (by show 0 < 3; omega)
            have c31:∀ p:Cls (fun w' => Row w' w.heap.size 24 (boxV A (some ⟨bb,bo,none⟩) n cp q cq (.int .i64 lp)) ∧ Below w.heap.size w w'),p.w.cell? ⟨w.heap.size,1,none⟩ = some (.slice (some ⟨bb,bo,none⟩) q cq):=fun p => p.ok.1.cell (i := 1) (by show 1 < 3; omega)
            have c32:∀ p:Cls (fun w' => Row w' w.heap.size 24 (boxV A (some ⟨bb,bo,none⟩) n cp q cq (.int .i64 lp)) ∧ Below w.heap.size w w'),p.w.cell? ⟨w.heap.size,2,none⟩ = some (.int .i64 lp):=fun p => p.ok.1.cell (i := 2) (by show 2 < 3; omega)
            go_wp2
            refine wp_region_cls (fun w' => Row w' w.heap.size 24 (boxV A (some ⟨bb,bo,none⟩) n cp q cq (.int .i64 lp)) ∧ Below w.heap.size w w') (by kernel_rfl) (by kernel_rfl) ⟨X2.out.drew,B2.out.drew⟩ (fun hne => ?_)
            repeat (quiet_step ((go_at_call 20; exact HSS.out _ _ (by omega))))
            refine wpQuiet_nil ?_
            rintro _ ⟨p,rfl⟩
            have hp1:=hide p.ok.1
            have hp2:=hide p.ok.2
            clear HSS c30 c31 c32
            go_wp2
            ·have t5:(Pl.out (Pl.mk sg mt lp) j == Pl.out (Pl.mk sg mt lp) t) = true:=by assumption
             go_ret
             refine ⟨ret_bool (Pl.vb_false fun h => ?_).symm,hp2.out⟩
             have h5:=(h.mate hjl).2.2.2.2
             rw [HT.out,Int.toNat_natCast] at h5
             exact h5 (beq_iff_eq.1 t5)
            ·have t5:(Pl.out (Pl.mk sg mt lp) j == Pl.out (Pl.mk sg mt lp) t) = false:=by assumption
             go_roundg (gk - 1)
             case measure => have := HG.out; omega
             case rel =>
              refine ⟨j + 1,by have := HG.out; omega,by go_num,fun h hh => ?_,hp2.out,hp1.out⟩
              by_cases e:h = j
              ·subst e
               rw [HT.out,Int.toNat_natCast]
               exact ⟨by omega,by have := HLM.out; omega,by omega,HI.out,beq_eq_false_iff_ne.1 t5⟩
              ·exact HMO.out h (by omega)
           ·have HV := hide (fun h : Pl.VL sg mt lp => show False by
             have:=(h.mate hjl).2.2.2.1
             rw [HT.out,Int.toNat_natCast] at this
             exact hinv this)
            have t4:(Pl.pv mt t != (j:Int)) = true:=by rw [bne_iff_ne]; exact hinv
            clear hinv
            go_wp2
            go_ret
            exact ⟨ret_bool (Pl.vb_false HV.out).symm,B2.out⟩
         ·have HV:=hide (fun h:Pl.VL sg mt lp => show False by have := (h.mate hjl).2.1; have := HLM.out; omega)
          have t2:decide (4 * (n:Int) ≤ Pl.pv mt j) = true:=by have := HQ4.out; simp; omega
          clear hz0 hz1
          go_wp2
          go_ret
          exact ⟨ret_bool (Pl.vb_false HV.out).symm,B2.out⟩
       ·have hjq':j = q:=by omega
        have hw:=Pl.wf_of (sg := sg) (mt := mt) (lp := lp) (by have := HLS.out; omega) (by have := HLS.out; have := HLM.out; have := HQ4.out; omega) h3 HSG'.out (fun k hk => HMO.out k (by have := HLM.out; omega))
        have hpos:∀ z,z ∈ mt → 0 ≤ z:=fun z hz => by
         obtain ⟨k,hk,rfl⟩:=Pl.mem_pv hz
         exact (HMO.out k (by have := HLM.out; omega)).1
        have HW:=hide hw
        have HR:=hide (Pl.VL.of hw hpos h3.1)
        have HN:=hide (Pl.nats_mk (sg := sg) (lp := lp) hpos)
        have B2:=hide b2
        have x20:wr.cell? ⟨w.heap.size,0,none⟩ = some (.slice A n cp):=x2.cell (i := 0) (by show 0 < 3; omega)
        have x21:wr.cell? ⟨w.heap.size,1,none⟩ = some (.slice B q cq):=x2.cell (i := 1) (by show 1 < 3; omega)
        have x22:wr.cell? ⟨w.heap.size,2,none⟩ = some (.int .i64 lp):=x2.cell (i := 2) (by show 2 < 3; omega)
        clear b2 x2 hw hpos hjq'
        go_wp2_with fail
        refine (spherical_n (Pl.mk sg mt lp) HW.out A B n q cp cq (.int .i64 lp) _ HLS.out.symm (by have := HQ4.out; have := HLS.out; rw [Pl.mk_n]; omega) ?_ ⟨?_,?_⟩).mono ?_
        ·show Value.int .i64 lp = .int .i64 ((lp.toNat:Nat):Int)
         rw [Int.toNat_of_nonneg h3.1]
        ·rw [Pl.mk_n,HLS.out]; exact hs.keep B2.out
        ·unfold nats
         rw [HN.out,Pl.mk_n,HLS.out,← HQ4.out]; exact hm.keep B2.out
        rintro e w3 ⟨rfl,hb3⟩
        go_wp2
        go_ret
        exact ⟨ret_bool (congrArg Pl.vb (propext HR.out.symm)),B2.out.trans (hb3.mono B2.out.size)⟩
   ·have HV:=hide (fun h:Pl.VL sg mt lp => show False by have := h.loops; omega)
    have h2':(((q:Nat):Int) != 4 * (n:Int)) = false:=by simp; omega
    have HQ2:=hide h2
    clear h2
    go_enter Tryz.func8,Tryz.ntmps8
    go_wp2
    all_goals
     go_ret
     exact ⟨ret_bool (Pl.vb_false HV.out).symm,b0⟩
  ·have HV:=hide (fun h:Pl.VL sg mt lp => show False by have := h.len; have := HLS.out; have := HLM.out; omega)
   have h2':(((q:Nat):Int) != 4 * (n:Int)) = true:=by simp; omega
   go_enter Tryz.func8,Tryz.ntmps8
   go_wp2
   go_ret
   exact ⟨ret_bool (Pl.vb_false HV.out).symm,b0⟩
end Go.Proofs.YtghdiolnonejaaaGreatDoor
end
section
namespace Go.Proofs.YtghdiolnonejaaaGreatDoor.Pl
def shf (gs:List Nat) (h:Nat):Nat := h - 4 * (gs.filter (fun c => decide (c < h / 4))).length
def left (n:Nat) (gs:List Nat):List Nat := (List.range n).filter (fun c => !gs.contains c)
def four (f:Nat → Nat) (c:Nat):List Nat := [f (4 * c),f (4 * c + 1),f (4 * c + 2),f (4 * c + 3)]
def shrS (gs:List Nat) (sg:List Int):List Int := (left sg.length gs).map (fun c => sg.getD c 0)
def shrM (gs:List Nat) (n:Nat) (mt:List Nat):List Nat := (left n gs).flatMap (four (fun h => shf gs (mt.getD h 0)))
theorem left_succ (n:Nat) (gs:List Nat):left (n + 1) gs = left n gs ++ if gs.contains n then [] else [n] := by
 unfold left
 rw [List.range_succ,List.filter_append]
 congr 1
 cases h:gs.contains n
 ·rw [List.filter_cons,if_pos (by rw [h]; rfl)]; rfl
 ·rw [List.filter_cons,if_neg (by rw [h]; decide)]; rfl
theorem left_zero (gs:List Nat):left 0 gs = [] := rfl
theorem left_le (n:Nat) (gs:List Nat):(left n gs).length ≤ n := by
 unfold left
 have:=List.length_filter_le (fun c => !gs.contains c) (List.range n)
 simpa using this
theorem flat4 (l:List Nat) (f:Nat → Nat):(l.flatMap (four f)).length = 4 * l.length := by
 induction l with
 | nil => rfl
 | cons a l ih => rw [List.flatMap_cons,List.length_append,ih,List.length_cons]; unfold four; simp only [List.length_cons,List.length_nil]; omega
theorem shrM_len (gs:List Nat) (n:Nat) (mt:List Nat):(shrM gs n mt).length = 4 * (left n gs).length := flat4 _ _
theorem shrS_len (gs:List Nat) (sg:List Int):(shrS gs sg).length = (left sg.length gs).length := by unfold shrS; rw [List.length_map]
theorem left_one {n c:Nat} (h:c < n):(left n [c]).length + 1 = n := by
 induction n with
 | zero => omega
 | succ n ih =>
   rw [left_succ]
   by_cases e:c = n
   ·subst e
    have:∀ k,k ≤ c → (left k [c]).length = k:=by
     intro k
     induction k with
     | zero => intro _; rfl
     | succ k ihk => intro hk; rw [left_succ, List.length_append, ihk (by omega)]; have : [c].contains k = false := by simp; omega
                     rw [this]; rfl
    have h2:=this c (Nat.le_refl _)
    simp [h2]
   ·have h2:=ih (by omega)
    have:[c].contains n = false:=by simp; omega
    rw [this,List.length_append]
    simp
    omega
theorem left_two {n x y:Nat} (h:x < y) (hy:y < n):(left n [x,y]).length + 2 = n := by
 induction n with
 | zero => omega
 | succ n ih =>
   rw [left_succ,List.length_append]
   by_cases e:y = n
   ·subst e
    have:∀ k,k ≤ y → left k [x,y] = left k [x]:=by
     intro k
     induction k with
     | zero => intro _; rfl
     | succ k ihk =>
       intro hk
       rw [left_succ,left_succ,ihk (by omega)]
       congr 1
       have:([x,y].contains k) = ([x].contains k):=by
        rw [Bool.eq_iff_iff]; simp; omega
       rw [this]
    rw [this y (Nat.le_refl _)]
    have:=left_one h
    simp
    omega
   ·have h2:=ih (by omega)
    have:[x,y].contains n = false:=by simp; omega
    rw [this]
    simp
    omega
theorem shf_one (c h:Nat):shf [c] h = if c < h / 4 then h - 4 else h := by
 unfold shf
 by_cases e:c < h / 4 <;> simp [List.filter_cons,e]
def Few (gs:List Nat):Prop := ∀ q:Nat,(gs.filter (fun c => decide (c < q))).length ≤ q
theorem few_one (c:Nat):Few [c] := by
 intro q
 by_cases e:c < q
 ·simp [List.filter_cons,e]; omega
 ·simp [List.filter_cons,e]
theorem few_two {x y:Nat} (h:x < y):Few [x,y] := by
 intro q
 by_cases e:x < q <;> by_cases e2:y < q <;> simp [List.filter_cons,e,e2] <;> omega
theorem shf_le {gs:List Nat} (hf:Few gs) (h:Nat):4 * (gs.filter (fun c => decide (c < h / 4))).length ≤ h := by
 have:=hf (h / 4)
 omega
end Go.Proofs.YtghdiolnonejaaaGreatDoor.Pl
end
section
namespace Go.Proofs.YtghdiolnonejaaaGreatDoor
open Go.RowKit
theorem out2_i (d:Pl.Dg) (A B:Option Addr) (n cp q cq:Nat) (l:Value) (h:Int) (w:World) (e:n = d.n) (hh:0 ≤ h ∧ h < 4 * (n:Int)) (hn:n ≤ 1000) (hs:IntsAt w A n d.sg) :
 Calls Tryz.prog 105 #[.agg #[.slice A n cp,.slice B q cq,l],.int .i64 h] w fun e w' => e = .returned (.bool (Pl.out d h.toNat)) ∧ Below w.heap.size w w' := by
 obtain ⟨k,rfl⟩:=Int.eq_ofNat_of_zero_le hh.1
 exact out2_n d A B n cp q cq l k w e (by omega) hn hs
theorem opp_i (h:Int) (w:World) (hh:0 ≤ h ∧ h ≤ 1000000) :
 Calls Tryz.prog 60 #[.int .i64 h] w fun e w' => e = .returned (.int .i64 (Pl.tn h.toNat 2:Nat)) ∧ w' = w := by
 obtain ⟨k,rfl⟩:=Int.eq_ofNat_of_zero_le hh.1
 refine (opposite_any k w (by omega)).mono ?_
 rintro e w' ⟨rfl,rfl⟩
 exact ⟨rfl,rfl⟩
theorem below_drewN {B:Nat} {a w:World} (h:Below B a w) (n:Nat):Below B a (w.drewN n) := ⟨h.os,h.tape,h.output,h.size,h.block⟩
def kk (d:Pl.Dg) (c:Nat):Nat := if d.m (4 * c + 2) / 4 = c then 4 * c + 2 else if d.s c = 1 then 4 * c + 1 else 4 * c + 3
def isK (d:Pl.Dg) (c:Nat):Prop := d.m (kk d c) / 4 = c
def kinkE (d:Pl.Dg) (c:Nat) (b:Bool):Ending := if b then .returned (.tuple #[.int .i64 (Pl.tn (kk d c) 2:Nat),.int .i64 (Pl.tn (d.m (kk d c)) 2:Nat),.bool true]) else .returned (.tuple #[.int .i64 0,.int .i64 0,.bool false])
def KinkPost (d:Pl.Dg) (c:Nat) (w:World) (e:Ending) (w':World):Prop := e = kinkE d c (Pl.vb (isK d c)) ∧ Below w.heap.size w w'
theorem kink_at {d:Pl.Dg} {c o:Nat} {w:World} {e:Ending} {w':World} (h:kk d c = o) (hm:d.m o / 4 = c) (he:e = .returned (.tuple #[.int .i64 (Pl.tn o 2:Nat),.int .i64 (Pl.tn (d.m o) 2:Nat),.bool true])) (hb:Below w.heap.size w w'):KinkPost d c w e w' := by
 refine ⟨?_,hb⟩
 rw [Pl.vb_true (show isK d c by unfold isK; rw [h]; exact hm)]
 unfold kinkE
 rw [if_pos rfl,h,he]
theorem kink_no {d:Pl.Dg} {c:Nat} {w:World} {e:Ending} {w':World} (h:¬ d.m (kk d c) / 4 = c) (he:e = .returned (.tuple #[.int .i64 0,.int .i64 0,.bool false])) (hb:Below w.heap.size w w'):KinkPost d c w e w' := by
 refine ⟨?_,hb⟩
 rw [Pl.vb_false (show ¬ isK d c from h)]
 exact he
set_option maxRecDepth 100000 in
set_option maxHeartbeats 2000000 in
theorem kink_any (d:Pl.Dg) (hd:Pl.Wf d) (A B:Option Addr) (cp cq m c:Nat) (w:World) (hm:m = 4 * d.n) (hg:DgAt w A B d) (hc:c < d.n) :
 Calls Tryz.prog 76 #[.agg #[.slice A d.n cp,.slice B m cq,.int .i64 d.lp],.int .i64 (c:Int)] w (KinkPost d c w) := by
 have hn:=hd.few
 have HM:=hide hm
 clear hm
 have hmm:m ≤ 256:=by have := HM.out; omega
 have HG:=hide hg
 clear hg
 have x0:Row (w.alloc (.cells #[.slice A d.n cp,.slice B m cq,.int .i64 d.lp] 24)) w.heap.size 24 [.slice A d.n cp,.slice B m cq,.int .i64 d.lp]:=Row.new w _ _
 have X0:=hide x0
 have B0:=hide (show Below w.heap.size w (w.alloc (.cells #[.slice A d.n cp,.slice B m cq,.int .i64 d.lp] 24)) from (Below.refl _ _).alloc (Nat.le_refl _) _)
 clear x0
 go_enter Tryz.func76,Tryz.ntmps76
 go_wp2
 go_loopg [11] 3 (fun g i wx => ∃ k:Nat,k + g = 3 ∧ i = .int .i64 k ∧ (0 < k → ¬ d.m (4 * c + 2) / 4 = c) ∧ (1 < k → d.s c = 1 → ¬ d.m (4 * c + 1) / 4 = c) ∧ (2 < k → d.s c = -1 → ¬ d.m (4 * c + 3) / 4 = c) ∧ Below w.heap.size w wx ∧ Row wx w.heap.size 24 [.slice A d.n cp,.slice B m cq,.int .i64 d.lp])
 case atStart => exact ⟨0,rfl,rfl,fun h => absurd h (by omega),fun h => absurd h (by omega),fun h => absurd h (by omega),B0.out,X0.out⟩
 case round =>
  clear B0 X0
  obtain ⟨k,hkg,rfl,q0,q1,q2,b1,x1⟩:=hrel
  have HG0:=hide hkg
  have Q0:=hide q0
  have Q1:=hide q1
  have Q2:=hide q2
  have B1:=hide b1
  have X1:=hide x1
  have hk4:k = 0 ∨ k = 1 ∨ k = 2 ∨ k = 3:=by omega
  obtain ⟨e0,e1,e2,e3⟩:=box3 x1
  have i0:∀ W,(Instr.index 153 (.agg #[.int .i64 2,.int .i64 1,.int .i64 3]) (.int .i64 0)).run Tryz.prog W = .ok (.int .i64 2) W:=fun _ => by kernel_rfl
  have i1:∀ W,(Instr.index 153 (.agg #[.int .i64 2,.int .i64 1,.int .i64 3]) (.int .i64 1)).run Tryz.prog W = .ok (.int .i64 1) W:=fun _ => by kernel_rfl
  have i2:∀ W,(Instr.index 153 (.agg #[.int .i64 2,.int .i64 1,.int .i64 3]) (.int .i64 2)).run Tryz.prog W = .ok (.int .i64 3) W:=fun _ => by kernel_rfl
  clear hkg q0 q1 q2 b1 x1
  rcases hk4 with rfl | rfl | rfl | rfl
  ·go_wp2_with fail
   refine (out2_i d A B d.n cp m cq (.int .i64 d.lp) _ _ rfl (by omega) (by omega) (HG.out.s.keep B1.out)).mono ?_
   rintro e w2 ⟨rfl,hb2⟩
   have B2:=hide (B1.out.trans (hb2.mono B1.out.size))
   have X2:=hide (X1.out.below hb2)
   have HG2:=hide (HG.out.keep B2.out)
   have et:(4 * (c:Int) + 2).toNat = 4 * c + 2:=by omega
   rw [et]
   clear et hb2
   obtain ⟨b,o,rfl,cm⟩:=mate_at HG2.out.m (k := 4 * c + 2) (by omega)
   obtain ⟨f0,f1,f2,f3⟩:=box3 X2.out
   have g1:(0:Int) ≤ 4 * (c:Int) + 2:=by omega
   have g2:4 * (c:Int) + 2 < (m:Int):=by have := HM.out; omega
   have lt:=hd.lt (4 * c + 2) (by omega)
   obtain ⟨x,hx⟩:∃ x,x = d.m (4 * c + 2) := ⟨_,rfl⟩
   rw [← hx] at cm lt
   have HX:=hide hx
   clear hx
   have hO:Pl.out d (4 * c + 2) = true:=out_two (by omega)
   rw [hO]
   clear hO
   by_cases hk:x / 4 = c
   ·have t1:((x:Int) / 4 == (c:Int)) = true:=by rw [beq_iff_eq]; omega
    have HK:=hide hk
    clear hk
    go_wp2_with fail
    go_quiet ((go_at_call 60; exact Calls.quiet_of_same (opp_i _ _ (by omega))))
    go_wp2
    go_ret3
    have hkk:kk d c = 4 * c + 2:=by unfold kk; rw [if_pos (by rw [← HX.out]; exact HK.out)]
    refine kink_at hkk (by rw [← HX.out]; exact HK.out) ?_ (below_drewN B2.out _)
    rw [← HX.out,show (4 * (c:Int) + 2).toNat = 4 * c + 2 by omega,Int.toNat_natCast]
    rfl
   ·have t1:((x:Int) / 4 == (c:Int)) = false:=by rw [beq_eq_false_iff_ne]; omega
    have HK:=hide hk
    clear hk
    go_wp2
    go_roundg 2
    case measure => have := HG0.out; omega
    case rel => exact ⟨1,rfl,by go_num,fun _ => by rw [← HX.out]; exact HK.out,fun h => absurd h (by omega),fun h => absurd h (by omega),B2.out,X2.out⟩
  ·go_wp2_with fail
   refine (out2_i d A B d.n cp m cq (.int .i64 d.lp) _ _ rfl (by omega) (by omega) (HG.out.s.keep B1.out)).mono ?_
   rintro e w2 ⟨rfl,hb2⟩
   have B2:=hide (B1.out.trans (hb2.mono B1.out.size))
   have X2:=hide (X1.out.below hb2)
   have HG2:=hide (HG.out.keep B2.out)
   have et:(4 * (c:Int) + 1).toNat = 4 * c + 1:=by omega
   rw [et]
   clear et hb2
   obtain ⟨b,o,rfl,cm⟩:=mate_at HG2.out.m (k := 4 * c + 1) (by omega)
   obtain ⟨f0,f1,f2,f3⟩:=box3 X2.out
   have g1:(0:Int) ≤ 4 * (c:Int) + 1:=by omega
   have g2:4 * (c:Int) + 1 < (m:Int):=by have := HM.out; omega
   have lt:=hd.lt (4 * c + 1) (by omega)
   obtain ⟨x,hx⟩:∃ x,x = d.m (4 * c + 1) := ⟨_,rfl⟩
   rw [← hx] at cm lt
   have HX:=hide hx
   clear hx
   by_cases hs1:d.s c = 1
   ·have S1:=hide hs1
    clear hs1
    have hO:Pl.out d (4 * c + 1) = true:=by rw [out_one (by omega),show (4 * c + 1) / 4 = c by omega,S1.out]; rfl
    rw [hO]
    clear hO
    by_cases hk:x / 4 = c
    ·have t1:((x:Int) / 4 == (c:Int)) = true:=by rw [beq_iff_eq]; omega
     have HK:=hide hk
     clear hk
     go_wp2_with fail
     go_quiet ((go_at_call 60; exact Calls.quiet_of_same (opp_i _ _ (by omega))))
     go_wp2
     go_ret3
     have hkk:kk d c = 4 * c + 1:=by unfold kk; rw [if_neg (Q0.out (by omega)),if_pos S1.out]
     refine kink_at hkk (by rw [← HX.out]; exact HK.out) ?_ (below_drewN B2.out _)
     rw [← HX.out,show (4 * (c:Int) + 1).toNat = 4 * c + 1 by omega,Int.toNat_natCast]
     rfl
    ·have t1:((x:Int) / 4 == (c:Int)) = false:=by rw [beq_eq_false_iff_ne]; omega
     have HK:=hide hk
     clear hk
     go_wp2
     go_roundg 1
     case measure => have := HG0.out; omega
     case rel => exact ⟨2,rfl,by go_num,fun _ => Q0.out (by omega),fun _ _ => by rw [← HX.out]; exact HK.out,fun h => absurd h (by omega),B2.out,X2.out⟩
   ·have S1:=hide hs1
    clear hs1
    have hO:Pl.out d (4 * c + 1) = false:=by rw [out_one (by omega),show (4 * c + 1) / 4 = c by omega,beq_eq_false_iff_ne]; exact S1.out
    rw [hO]
    clear hO
    go_wp2
    go_roundg 1
    case measure => have := HG0.out; omega
    case rel => exact ⟨2,rfl,by go_num,fun _ => Q0.out (by omega),fun _ h => absurd h S1.out,fun h => absurd h (by omega),B2.out,X2.out⟩
  ·go_wp2_with fail
   refine (out2_i d A B d.n cp m cq (.int .i64 d.lp) _ _ rfl (by omega) (by omega) (HG.out.s.keep B1.out)).mono ?_
   rintro e w2 ⟨rfl,hb2⟩
   have B2:=hide (B1.out.trans (hb2.mono B1.out.size))
   have X2:=hide (X1.out.below hb2)
   have HG2:=hide (HG.out.keep B2.out)
   have et:(4 * (c:Int) + 3).toNat = 4 * c + 3:=by omega
   rw [et]
   clear et hb2
   obtain ⟨b,o,rfl,cm⟩:=mate_at HG2.out.m (k := 4 * c + 3) (by omega)
   obtain ⟨f0,f1,f2,f3⟩:=box3 X2.out
   have g1:(0:Int) ≤ 4 * (c:Int) + 3:=by omega
   have g2:4 * (c:Int) + 3 < (m:Int):=by have := HM.out; omega
   have lt:=hd.lt (4 * c + 3) (by omega)
   obtain ⟨x,hx⟩:∃ x,x = d.m (4 * c + 3) := ⟨_,rfl⟩
   rw [← hx] at cm lt
   have HX:=hide hx
   clear hx
   by_cases hs1:d.s c = -1
   ·have S1:=hide hs1
    have S2:=hide (show ¬ d.s c = 1 by omega)
    clear hs1
    have hO:Pl.out d (4 * c + 3) = true:=by rw [out_three (by omega),show (4 * c + 3) / 4 = c by omega,S1.out]; rfl
    rw [hO]
    clear hO
    by_cases hk:x / 4 = c
    ·have t1:((x:Int) / 4 == (c:Int)) = true:=by rw [beq_iff_eq]; omega
     have HK:=hide hk
     clear hk
     go_wp2_with fail
     go_quiet ((go_at_call 60; exact Calls.quiet_of_same (opp_i _ _ (by omega))))
     go_wp2
     go_ret3
     have hkk:kk d c = 4 * c + 3:=by unfold kk; rw [if_neg (Q0.out (by omega)),if_neg S2.out]
     refine kink_at hkk (by rw [← HX.out]; exact HK.out) ?_ (below_drewN B2.out _)
     rw [← HX.out,show (4 * (c:Int) + 3).toNat = 4 * c + 3 by omega,Int.toNat_natCast]
     rfl
    ·have t1:((x:Int) / 4 == (c:Int)) = false:=by rw [beq_eq_false_iff_ne]; omega
     have HK:=hide hk
     clear hk
     go_wp2
     go_roundg 0
     case measure => have := HG0.out; omega
     case rel => exact ⟨3,rfl,by go_num,fun _ => Q0.out (by omega),fun _ => Q1.out (by omega),fun _ _ => by rw [← HX.out]; exact HK.out,B2.out,X2.out⟩
   ·have S1:=hide hs1
    clear hs1
    have hO:Pl.out d (4 * c + 3) = false:=by rw [out_three (by omega),show (4 * c + 3) / 4 = c by omega,beq_eq_false_iff_ne]; exact S1.out
    rw [hO]
    clear hO
    go_wp2
    go_roundg 0
    case measure => have := HG0.out; omega
    case rel => exact ⟨3,rfl,by go_num,fun _ => Q0.out (by omega),fun _ => Q1.out (by omega),fun _ h => absurd h S1.out,B2.out,X2.out⟩
  ·go_wp2
   go_ret3
   refine kink_no ?_ rfl B1.out
   unfold kk
   have h0:=Q0.out (by omega)
   rw [if_neg h0]
   rcases hd.sign c hc with h | h
   ·rw [if_pos h]; exact Q1.out (by omega) h
   ·rw [if_neg (by omega)]; exact Q2.out (by omega) h
end Go.Proofs.YtghdiolnonejaaaGreatDoor
end
section
namespace Go.Proofs.YtghdiolnonejaaaGreatDoor
open Go.RowKit
def ahd (gs:List Nat) (h k:Nat):Nat := ((gs.take k).filter (fun c => decide (c < h / 4))).length
theorem ahd_le (gs:List Nat) (h k:Nat):ahd gs h k ≤ k := by
 unfold ahd
 have:=List.length_filter_le (fun c => decide (c < h / 4)) (gs.take k)
 have:=List.length_take_le k gs
 omega
theorem ahd_succ {gs:List Nat} {k:Nat} (hk:k < gs.length) (h:Nat):ahd gs h (k + 1) = ahd gs h k + if gs.getD k 0 < h / 4 then 1 else 0 := by
 unfold ahd
 rw [List.take_succ_eq_append_getElem hk,List.filter_append,List.length_append,List.getD_eq_getElem?_getD,List.getElem?_eq_getElem hk]
 by_cases e:gs[k] < h / 4 <;> simp [List.filter_cons,e]
theorem ahd_all {gs:List Nat} {k:Nat} (hk:gs.length ≤ k) (h:Nat):ahd gs h k = (gs.filter (fun c => decide (c < h / 4))).length := by
 unfold ahd
 rw [List.take_of_length_le hk]
theorem nats_at {w:World} {A:Option Addr} {n k:Nat} {gs:List Nat} (h:IntsAt w A n (nats gs)) (hk:k < n) :
 ∃ b o,A = some ⟨b,o,none⟩ ∧ w.cell? ⟨b,o + k,none⟩ = some (.int .i64 (gs.getD k 0:Nat)) := by
 obtain ⟨b,o,e,hc⟩:=h.at_ hk
 refine ⟨b,o,e,hc.trans ?_⟩
 have hl:=h.len
 unfold nats at hl ⊢
 rw [List.length_map] at hl
 rw [List.getD_eq_getElem?_getD,List.getD_eq_getElem?_getD,List.getElem?_map,List.getElem?_eq_getElem (by omega)]; rfl
set_option maxRecDepth 100000 in
set_option maxHeartbeats 1000000 in
theorem shifted_any (gs:List Nat) (A:Option Addr) (n c h:Nat) (w:World) (hg:IntsAt w A n (nats gs)) (hn:n ≤ 100) (hh:h ≤ 100000) (hf:Pl.Few gs) :
 Calls Tryz.prog 78 #[.int .i64 (h:Int),.slice A n c] w fun e w' => e = .returned (.int .i64 (Pl.shf gs h:Nat)) ∧ w' = w := by
 have hl:=hg.len
 unfold nats at hl
 rw [List.length_map] at hl
 have HL:=hide hl
 have HG:=hide hg
 clear hl hg
 go_enter Tryz.func78,Tryz.ntmps78
 go_wp2
 go_loop [5,10] (fun b i => ∃ k:Nat,k ≤ n ∧ i = .int .i64 k ∧ b = .int .i64 (4 * (ahd gs h k:Nat))) (fun _ i => n - (intOf i).toNat)
 case atStart => exact ⟨0,by omega,rfl,rfl⟩
 case round =>
  obtain ⟨k,hk,rfl,rfl⟩:=hrel
  have hle:=ahd_le gs h k
  by_cases hlt:k < n
  ·obtain ⟨b,o,rfl,hc⟩:=nats_at HG.out hlt
   have HS:=hide (ahd_succ (gs := gs) (k := k) (by have := HL.out; omega) h)
   obtain ⟨x,hx⟩:∃ x,x = gs.getD k 0 := ⟨_,rfl⟩
   rw [← hx] at hc HS
   clear hx
   by_cases ht:x < h / 4
   ·have HT:=hide ht
    have t1:decide ((x:Int) < (h:Int) / 4) = true:=by simp; omega
    clear ht
    go_wp2
    go_round
    case rel => exact ⟨k + 1,by omega,by go_num,by rw [HS.out,if_pos HT.out]; go_num⟩
    case measure => simp [intOf]; omega
   ·have HT:=hide ht
    have t1:decide ((x:Int) < (h:Int) / 4) = false:=by simp; omega
    clear ht
    go_wp2
    go_round
    case rel => exact ⟨k + 1,by omega,by go_num,by rw [HS.out,if_neg HT.out]; go_num⟩
    case measure => simp [intOf]; omega
  ·go_wp2
   go_ret
   refine ⟨ret_int ?_,rfl⟩
   have h1:=ahd_all (gs := gs) (k := k) (by have := HL.out; omega) h
   have h2:=Pl.shf_le hf h
   unfold Pl.shf
   rw [h1]
   omega
end Go.Proofs.YtghdiolnonejaaaGreatDoor
end
section
namespace Go.Proofs.YtghdiolnonejaaaGreatDoor
open Go Go.RowKit
structure Shk (w:World) (vS vM:Value) (ss:List Int) (ms:List Nat) (lp:Int) (W:World):Prop where
 res:Row W w.heap.size 24 [.slice none 0 0,.slice none 0 0,.int .i64 0]
 box:Row W (w.heap.size + 1) 24 [vS,vM,.int .i64 lp]
 s:W.ownsRow (w.heap.size + 2) 3 1 vS ss.length (ss.map (.int .i64))
 m:W.ownsRow (w.heap.size + 2) 3 1 vM ms.length (ms.map (fun k:Nat => Value.int .i64 k))
 ne:∀ g,vS.ownBlock = some g → vM.ownBlock ≠ some g
 bel:Below w.heap.size w W
theorem Shk.big {w:World} {vS vM:Value} {ss:List Int} {ms:List Nat} {lp:Int} {W:World} (h:Shk w vS vM ss ms lp W):w.heap.size + 2 ≤ W.heap.size := by have := h.box.lt; omega
theorem Shk.below {w:World} {vS vM:Value} {ss:List Int} {ms:List Nat} {lp:Int} {W W':World} (h:Shk w vS vM ss ms lp W) (hb:Below W.heap.size W W'):Shk w vS vM ss ms lp W' :=
 ⟨h.res.below hb,h.box.below hb,own_keep h.s hb (Nat.le_refl _),own_keep h.m hb (Nat.le_refl _),h.ne,h.bel.trans (hb.mono (by have := h.big; omega))⟩
theorem Shk.alloc {w:World} {vS vM:Value} {ss:List Int} {ms:List Nat} {lp:Int} {W:World} (h:Shk w vS vM ss ms lp W) (o:Obj):Shk w vS vM ss ms lp (W.alloc o) := h.below ((Below.refl _ _).alloc (Nat.le_refl _) o)
theorem row_apart {W:World} {g:Nat} {vs:List Value} {base:Nat} {v:Value} {n:Nat} {xs:List Value} (h:Row W g 24 vs) (ho:W.ownsRow base 3 1 v n xs):some g ≠ v.ownBlock := by
 intro e
 obtain ⟨cs,fr,h3⟩:=ownsRow_block ho g e.symm
 rw [h] at h3
 injection h3 with h3
 injection h3 with _ h4
 exact absurd h4 (by decide)
theorem Shk.appS {w:World} {vS vM v':Value} {ss:List Int} {ms:List Nat} {lp x:Int} {W W2:World} (h:Shk w vS vM ss ms lp W) (own:W2.ownsRow (w.heap.size + 2) 3 1 v' (ss.length + 1) (ss.map (.int .i64) ++ [.int .i64 x])) (gr:W.grownBy W2 vS.ownBlock) {g':Nat} (hv:v'.ownBlock = some g') (hat0:vS.ownBlock = some g' ∨ g' = W.heap.size) :
 Shk w v' vM (ss ++ [x]) ms lp (W2.setCell ⟨w.heap.size + 1,0,none⟩ v') := by
 have hat:v'.ownBlock = vS.ownBlock ∨ v'.ownBlock = some W.heap.size:=by
  rcases hat0 with e | e
  ·exact .inl (hv.trans e.symm)
  ·exact .inr (hv.trans (congrArg some e))
 have hlt:=h.s.lt
 have hlm:=h.m.lt
 refine ⟨(h.res.grown gr (row_apart h.res h.s)).other (by simp) _,(h.box.grown gr (row_apart h.box h.s)).set 0 v',?_,?_,?_,?_⟩
 ·refine ownsRow_setCell_below ?_ (by simp) _
  simpa using own
 ·refine ownsRow_setCell_below (h.m.kept gr ?_) (by simp) _
  cases hm:vM.ownBlock with
  | none => exact .inl rfl
  | some g => exact .inr (fun e => h.ne g e.symm hm)
 ·intro g hg hm
  rcases hat with e | e
  ·exact h.ne g (e ▸ hg) hm
  ·rw [e] at hg
   injection hg with hg
   have:=(hlm g hm).2
   omega
 ·exact (h.bel.grown gr h.bel.size (fun k hk => by have := (hlt k hk).1; omega)).setCell (by simp) _
theorem Shk.appM {w:World} {vS vM v':Value} {ss:List Int} {ms:List Nat} {lp:Int} {x:Nat} {W W2:World} (h:Shk w vS vM ss ms lp W) (own:W2.ownsRow (w.heap.size + 2) 3 1 v' (ms.length + 1) (ms.map (fun k:Nat => Value.int .i64 k) ++ [.int .i64 x])) (gr:W.grownBy W2 vM.ownBlock) {g':Nat} (hv:v'.ownBlock = some g') (hat0:vM.ownBlock = some g' ∨ g' = W.heap.size) :
 Shk w vS v' ss (ms ++ [x]) lp (W2.setCell ⟨w.heap.size + 1,1,none⟩ v') := by
 have hat:v'.ownBlock = vM.ownBlock ∨ v'.ownBlock = some W.heap.size:=by
  rcases hat0 with e | e
  ·exact .inl (hv.trans e.symm)
  ·exact .inr (hv.trans (congrArg some e))
 have hlt:=h.s.lt
 have hlm:=h.m.lt
 refine ⟨(h.res.grown gr (row_apart h.res h.m)).other (by simp) _,(h.box.grown gr (row_apart h.box h.m)).set 1 v',?_,?_,?_,?_⟩
 ·refine ownsRow_setCell_below (h.s.kept gr ?_) (by simp) _
  cases hm:vS.ownBlock with
  | none => exact .inl rfl
  | some g => exact .inr (fun e => h.ne g hm e.symm)
 ·refine ownsRow_setCell_below ?_ (by simp) _
  simpa using own
 ·intro g hg hm
  rcases hat with e | e
  ·exact h.ne g hg (e ▸ hm)
  ·rw [e] at hm
   injection hm with hm
   have:=(hlt g hg).2
   omega
 ·exact (h.bel.grown gr h.bel.size (fun k hk => by have := (hlm k hk).1; omega)).setCell (by simp) _
theorem one_news (W:World) (x:Value):∀ j u,[x][j]? = some u → (W.alloc (.cells #[x] 3)).cell? ((⟨W.heap.size,0,none⟩:Addr).add j) = some u := by
 intro j u hu
 match j,hu with
 | 0,hu => simp at hu; subst hu; exact (Lib.cell_of_heap (heap_alloc_new W _) 0).trans rfl
theorem contains_nats (gs:List Nat) (k:Nat):(gs.map (fun m:Nat => (m:Int))).contains (k:Int) = gs.contains k := by
 rw [Bool.eq_iff_iff]
 simp
 exact ⟨fun ⟨a,h,e⟩ => (show a = k by omega) ▸ h,fun h => ⟨k,h,rfl⟩⟩
theorem contains_any (gs:List Nat) (A:Option Addr) (n c k:Nat) (w:World) (hg:IntsAt w A n (nats gs)) (hn:1 ≤ n ∧ n ≤ 100) :
 Calls Tryz.prog 107 #[.slice A n c,.int .i64 (k:Int)] w fun e w' => e = .returned (.bool (gs.contains k)) ∧ w' = w := by
 have hl:=hg.len
 obtain ⟨b,o,rfl,hc⟩:=hg.2 (by omega)
 have:=Tryz.slices_Contains_int b o n c (nats gs) (k:Int) w (by omega) (by omega) (fun j hj => hc j _ (by
  rw [List.getElem?_map,List.getElem?_eq_getElem hj,List.getD_eq_getElem?_getD,List.getElem?_eq_getElem hj]; rfl))
 refine this.mono ?_
 rintro e w' ⟨rfl,rfl⟩
 refine ⟨?_,rfl⟩
 rw [List.take_of_length_le (by omega)]
 unfold nats
 rw [contains_nats]
def shM (gs:List Nat) (mt:List Nat) (k:Nat):List Nat := (Pl.left k gs).flatMap (Pl.four (fun h => Pl.shf gs (mt.getD h 0)))
def shS (gs:List Nat) (sg:List Int) (k:Nat):List Int := (Pl.left k gs).map (fun c => sg.getD c 0)
theorem shM_stay {gs:List Nat} {k:Nat} (h:gs.contains k = false) (mt:List Nat):shM gs mt (k + 1) = shM gs mt k ++ [Pl.shf gs (mt.getD (4 * k) 0),Pl.shf gs (mt.getD (4 * k + 1) 0),Pl.shf gs (mt.getD (4 * k + 2) 0),Pl.shf gs (mt.getD (4 * k + 3) 0)] := by
 unfold shM
 rw [Pl.left_succ,h,List.flatMap_append]
 rfl
theorem shM_gone {gs:List Nat} {k:Nat} (h:gs.contains k = true) (mt:List Nat):shM gs mt (k + 1) = shM gs mt k := by
 unfold shM
 rw [Pl.left_succ,h]
 simp
theorem shS_stay {gs:List Nat} {k:Nat} (h:gs.contains k = false) (sg:List Int):shS gs sg (k + 1) = shS gs sg k ++ [sg.getD k 0] := by
 unfold shS
 rw [Pl.left_succ,h,List.map_append]
 rfl
theorem shS_gone {gs:List Nat} {k:Nat} (h:gs.contains k = true) (sg:List Int):shS gs sg (k + 1) = shS gs sg k := by
 unfold shS
 rw [Pl.left_succ,h]
 simp
theorem shS_len (gs:List Nat) (sg:List Int) (k:Nat):(shS gs sg k).length ≤ k := by unfold shS; rw [List.length_map]; exact Pl.left_le k gs
theorem shM_len (gs:List Nat) (mt:List Nat) (k:Nat):(shM gs mt k).length ≤ 4 * k := by unfold shM; rw [Pl.flat4]; have := Pl.left_le k gs; omega
theorem shr_fin {w:World} {vS vM:Value} {ss:List Int} {ms:List Nat} {lp:Int} {W:World} (h:Shk w vS vM ss ms lp W) :
 (((W.setCell ⟨w.heap.size,0,none⟩ vS).setCell ⟨w.heap.size,1,none⟩ vM).setCell ⟨w.heap.size,2,none⟩ (.int .i64 lp)).cell? ⟨w.heap.size,0,none⟩ = some vS ∧
 (((W.setCell ⟨w.heap.size,0,none⟩ vS).setCell ⟨w.heap.size,1,none⟩ vM).setCell ⟨w.heap.size,2,none⟩ (.int .i64 lp)).cell? ⟨w.heap.size,1,none⟩ = some vM ∧
 (((W.setCell ⟨w.heap.size,0,none⟩ vS).setCell ⟨w.heap.size,1,none⟩ vM).setCell ⟨w.heap.size,2,none⟩ (.int .i64 lp)).cell? ⟨w.heap.size,2,none⟩ = some (.int .i64 lp) := by
 have r:=((h.res.set 0 vS).set 1 vM).set 2 (.int .i64 lp)
 exact ⟨r.cell (i := 0) (by simp),r.cell (i := 1) (by simp),r.cell (i := 2) (by simp)⟩
theorem four_take {f:Nat → Nat} (k:Nat) {j:Nat} (hj:j < 4):(Pl.four f k).take (j + 1) = (Pl.four f k).take j ++ [f (4 * k + j)] := by
 have h:j = 0 ∨ j = 1 ∨ j = 2 ∨ j = 3:=by omega
 rcases h with rfl | rfl | rfl | rfl <;> rfl
def ShrPost (gs:List Nat) (sg:List Int) (mt:List Nat) (lp:Int) (w:World) (e:Ending) (w':World):Prop :=
 ∃ vS vM:Value,e = .returned (.agg #[vS,vM,.int .i64 lp]) ∧ w'.ownsRow (w.heap.size + 2) 3 1 vS (Pl.left sg.length gs).length ((Pl.shrS gs sg).map (.int .i64)) ∧ w'.ownsRow (w.heap.size + 2) 3 1 vM (4 * (Pl.left sg.length gs).length) ((Pl.shrM gs sg.length mt).map (fun k:Nat => Value.int .i64 k)) ∧ Below w.heap.size w w'
set_option maxRecDepth 100000 in
set_option maxHeartbeats 2000000 in
theorem shrunk_any (gs:List Nat) (sg:List Int) (mt:List Nat) (lp:Int) (A B C:Option Addr) (n q r cp cq cr:Nat) (w:World) (hs:IntsAt w A n sg) (hm:IntsAt w B q (nats mt)) (hg:IntsAt w C r (nats gs)) (hf:Pl.Few gs)
 (hq:q = 4 * n) (hcq:q ≤ cq) (hcq2:cq ≤ maxLen) (hn:n ≤ 100) (hr:1 ≤ r ∧ r ≤ 100) (hmt:∀ h,mt.getD h 0 ≤ 1000) :
 Calls Tryz.prog 79 #[.slice A n cp,.slice B q cq,.int .i64 lp,.slice C r cr] w (ShrPost gs sg mt lp w) := by
 unfold maxLen at hcq2
 have hls:=hs.len
 have HQ:=hide hq
 have HS:=hide hs
 have HMT:=hide hm
 have HG:=hide hg
 have HLS:=hide hls
 clear hq hs hm hg hls
 go_enter Tryz.func79,Tryz.ntmps79
 go_wp2
 have H0:=hide (show Shk w (.slice none 0 0) (.slice none 0 0) [] [] lp ((w.alloc (.cells #[.slice none 0 0,.slice none 0 0,.int .i64 0] 24)).alloc (.cells #[.slice none 0 0,.slice none 0 0,.int .i64 lp] 24)) from
  ⟨(Row.new w _ [_,_,_]).alloc _,by have := Row.new (w.alloc (.cells #[.slice none 0 0,.slice none 0 0,.int .i64 0] 24)) 24 [.slice none 0 0,.slice none 0 0,.int .i64 lp]; simpa using this,
   World.ownsRow_nil _ _ _ _,World.ownsRow_nil _ _ _ _,fun g h => by simp [Value.ownBlock] at h,((Below.refl _ _).alloc (Nat.le_refl _) _).alloc (by simp) _⟩)
 go_loopg [18] n (fun g i wx => ∃ (k:Nat) (vS vM:Value),k + g = n ∧ i = .int .i64 k ∧ Shk w vS vM (shS gs sg k) (shM gs mt k) lp wx)
 case atStart => exact ⟨0,.slice none 0 0,.slice none 0 0,by omega,rfl,H0.out⟩
 case round =>
  clear H0
  obtain ⟨k,vS,vM,hkg,rfl,hk⟩:=hrel
  have HKG:=hide hkg
  have hkn:k ≤ n:=by omega
  have HK:=hide hk
  clear hkg hk
  obtain ⟨go,rfl⟩:∃ go,go = gk := ⟨_,rfl⟩
  by_cases hlt:k < n
  ·obtain ⟨ab,ao,rfl,hca⟩:=ints_pv (HS.out.keep HK.out.bel) hlt
   obtain ⟨x,hx⟩:∃ x,x = Pl.pv sg k := ⟨_,rfl⟩
   rw [← hx] at hca
   have HX:=hide hx
   clear hx
   go_wp2_with fail
   refine (contains_any gs C r cr k _ (HG.out.keep HK.out.bel) hr).mono ?_
   rintro e w1 ⟨rfl,rfl⟩
   cases hc:gs.contains k with
   | true =>
     have HC:=hide hc
     clear hc
     go_wp2
     go_roundg (go - 1)
     case measure => have := HKG.out; omega
     case rel => exact ⟨k + 1,vS,vM,by have := HKG.out; omega,by go_num,by rw [shM_gone HC.out,shS_gone HC.out]; exact HK.out⟩
   | false =>
     have HC:=hide hc
     clear hc
     obtain ⟨i0,hi0,hz0,hz1,hz2⟩:=info_parts intInfo
     obtain ⟨e0,e1,e2,e3⟩:=box3 HK.out.box
     have hbig:=HK.out.big
     have hsl:=shS_len gs sg k
     obtain ⟨mb,mo,rfl,_⟩:=nats_at HMT.out (k := 4 * k) (by have := HQ.out; omega)
     have hq1:(4:Int) * (k:Int) + 4 ≤ (q:Int):=by have := HQ.out; omega
     have hq2:(4:Int) * (k:Int) + 4 ≤ (cq:Int):=by omega
     have hq3:(q:Int) ≤ (cq:Int):=by omega
     go_wp2_with (at_builtin; refine wpList_append_lies _ (by rfl) _ _ 22 (by rfl) (w.heap.size + 2) 3 i0 (.int .i64 0) 1 8 Tryz.underlying22 hi0 hz0 hz1 hz2 rfl (by omega) vS (shS gs sg k).length ((shS gs sg k).map (.int .i64)) (by rfl) (HK.out.s.alloc _) ⟨w1.heap.size,0,none⟩ 1 1 [.int .i64 x] (by rfl) (by rfl) (one_news w1 (.int .i64 x)) (by simp [Value.oneCell']) (by omega) (by unfold maxLen; omega) (by omega) (by simp; omega) (w1.heap.size + 1) (by simp) ?_; intro g2 c2 w2 own2 grow2 at2 lt2; obtain ⟨q0,q1,q2,q3⟩:=box3 (Row.grown (Row.alloc HK.out.box (.cells #[.int .i64 x] 3)) grow2 (row_apart (Row.alloc HK.out.box (.cells #[.int .i64 x] 3)) (World.ownsRow.alloc HK.out.s (.cells #[.int .i64 x] 3)))); have OWN2 := hide own2; have GR2 := hide grow2; have AT2 := hide at2; clear own2 grow2 at2)
     have H3:=hide (Shk.appS (HK.out.alloc (.cells #[.int .i64 x] 3)) OWN2.out GR2.out rfl (by simpa using AT2.out))
     clear q0 q1 q2 q3 e0 e1 e2 e3
     obtain ⟨vS',hvS'⟩:∃ v,v = Value.slice (some ⟨g2,0,none⟩) ((shS gs sg k).length + 1) c2 := ⟨_,rfl⟩
     rw [← hvS'] at H3
     rw [HX.out,show Pl.pv sg k = sg.getD k 0 from rfl,← shS_stay HC.out] at H3
     have HV:=hide hvS'
     clear hvS'
     rw [show 4 * k + 4 - 4 * k = 4 from by omega]
     go_loopg [40] 4 (fun g i wx => ∃ (j:Nat) (vN:Value),j + g = 4 ∧ i = .int .i64 j ∧ Shk w vS' vN (shS gs sg (k + 1)) (shM gs mt k ++ (Pl.four (fun h => Pl.shf gs (mt.getD h 0)) k).take j) lp wx)
     case atStart => exact ⟨0,vM,by omega,rfl,by rw [← HV.out]; simpa using H3.out⟩
     case round =>
      clear H3
      obtain ⟨j,vN,hjg,rfl,hj⟩:=hrel
      have HJG:=hide hjg
      have hj4:j ≤ 4:=by omega
      have HJ:=hide hj
      clear hjg hj
      by_cases hlj:j < 4
      ·obtain ⟨mb',mo',e',hcm⟩:=nats_at (HMT.out.keep HJ.out.bel) (k := 4 * k + j) (by have := HQ.out; omega)
       injection e' with e'
       injection e' with e1' e2'
       subst e1'
       subst e2'
       obtain ⟨y,hy⟩:∃ y,y = mt.getD (4 * k + j) 0 := ⟨_,rfl⟩
       have hy1:=hmt (4 * k + j)
       rw [← hy,← Nat.add_assoc] at hcm
       rw [← hy] at hy1
       have HY:=hide hy
       clear hy
       obtain ⟨e0,e1,e2,e3⟩:=box3 HJ.out.box
       have hml:=shM_len gs mt k
       have htl:((Pl.four (fun h => Pl.shf gs (mt.getD h 0)) k).take j).length ≤ 4:=by have := List.length_take_le j (Pl.four (fun h => Pl.shf gs (mt.getD h 0)) k); omega
       have hll:(shM gs mt k ++ (Pl.four (fun h => Pl.shf gs (mt.getD h 0)) k).take j).length ≤ 404:=by rw [List.length_append]; omega
       obtain ⟨l,hl⟩:∃ l,l = shM gs mt k ++ (Pl.four (fun h => Pl.shf gs (mt.getD h 0)) k).take j := ⟨_,rfl⟩
       rw [← hl] at hll HJ
       have HL:=hide hl
       clear hl hml htl
       have hbig2:=HJ.out.big
       go_wp2_with fail
       have P1:∀ u ∈ [Value.int .i64 (Pl.shf gs y:Nat)],u.oneCell' = true:=by simp [Value.oneCell']
       have P2:l.length + 1 ≤ maxLen:=by unfold maxLen; omega
       have P3:(l.length + 1) * 8 ≤ 140737488355328:=by omega
       have P4:w.heap.size + 2 ≤ (wr.alloc (.cells #[.int .i64 (Pl.shf gs y:Nat)] 3)).drew.heap.size:=by simp; omega
       have P5:(wr.alloc (.cells #[.int .i64 (Pl.shf gs y:Nat)] 3)).drew.heap.size = wr.heap.size + 1:=by simp
       have PP:=hide P1
       have P5H:=hide P5
       have KB:=hide (show Row (wr.alloc (.cells #[.int .i64 (Pl.shf gs y:Nat)] 3)).drew (w.heap.size + 1) 24 [vS',vN,.int .i64 lp] from Row.drew (Row.alloc HJ.out.box _))
       have KM:=hide (show (wr.alloc (.cells #[.int .i64 (Pl.shf gs y:Nat)] 3)).drew.ownsRow (w.heap.size + 2) 3 1 vN l.length (l.map (fun k:Nat => Value.int .i64 k)) from ((HJ.out.m.alloc _).drew))
       clear P1 P5
       have HGd:IntsAt wr.drew C r (nats gs):=IntsAt.drew (HG.out.keep HJ.out.bel)
       obtain ⟨_,kb1,_,kb3⟩:=box3 KB.out
       go_region_law
        (first
          | (refine step_append_lies _ ?_ (.tmp 45) (.tmp 49) 22 ?_ (w.heap.size + 2) 3 i0 (.int .i64 0) 1 8 Tryz.underlying22 hi0 hz0 hz1 hz2 rfl Nat.zero_lt_one vN l.length (l.map (fun k : Nat => Value.int .i64 k)) ?_ KM.out ⟨wr.heap.size, 0, none⟩ 1 1 [.int .i64 (Pl.shf gs y : Nat)] ?_ rfl (World.news_of_block (cs := #[.int .i64 (Pl.shf gs y : Nat)]) (t := 3) (fr := (0, 0)) (heap_alloc_new wr _)) PP.out Nat.zero_lt_one P2 P3 P4 (wr.heap.size + 1) P5H.out ?_
             ·rfl
             ·rfl
             ·rfl
             ·rfl
             intro g3 c3 w3 own3 grow3 at3 lt3
             obtain ⟨q0,q1,q2,q3⟩:=box3 (KB.out.grown grow3 (row_apart KB.out KM.out))
             have OWN3:=hide own3
             have GR3:=hide grow3
             have AT3:=hide at3
             clear own3 grow3 at3 q0 q2)
          | (go_simp
             go_wp2_with ((go_at_call 78); refine Calls.mono (shifted_any gs C r cr y _ ?_ (by omega) (by omega) hf) ?_; (focus (exact HGd)); rintro e w5 ⟨rfl,rfl⟩)))
       all_goals
        go_wp2
        go_roundg (gk - 1)
        case measure => have := HJG.out; omega
        case rel =>
         refine ⟨j + 1,.slice (some ⟨g3,0,none⟩) (l.length + 1) c3,by have := HJG.out; omega,by go_num,?_⟩
         have hh:=Shk.appM (x := Pl.shf gs y) (Shk.below (HJ.out.alloc (.cells #[.int .i64 (Pl.shf gs y:Nat)] 3)) ((Below.refl _ _).drew)) OWN3.out GR3.out rfl (by simpa using AT3.out)
         rw [HL.out,HY.out,List.append_assoc,← four_take (f := fun h => Pl.shf gs (mt.getD h 0)) k hlj,← HL.out] at hh
         exact hh
      ·have hj44:j = 4:=by omega
       subst hj44
       go_wp2
       go_roundg (go - 1)
       case measure => have := HKG.out; omega
       case rel =>
        refine ⟨k + 1,vS',vN,by have := HKG.out; omega,by go_num,?_⟩
        rw [shM_stay HC.out]
        exact HJ.out
  ·obtain ⟨A2,c2,rfl⟩:=owns_slice HK.out.s
   obtain ⟨A3,c3,rfl⟩:=owns_slice HK.out.m
   obtain ⟨e0,e1,e2,e3⟩:=box3 HK.out.box
   obtain ⟨f0,f1,f2,f3⟩:=box3 HK.out.res
   have HFIN:=hide (shr_fin HK.out)
   obtain rfl:k = n := by omega
   go_wp2
   refine bodyPost_ret (v := .agg #[.slice A2 (shS gs sg k).length c2,.slice A3 (shM gs mt k).length c3,.int .i64 lp]) ?_ rfl ?_
   ·obtain ⟨r0,r1,r2⟩:=HFIN.out
    simp [results,Tryz.results79,go_sem,r0,r1,r2]
   ·have e1:shS gs sg k = Pl.shrS gs sg:=by unfold shS Pl.shrS; rw [HLS.out]
    have e2:shM gs mt k = Pl.shrM gs sg.length mt:=by unfold shM Pl.shrM; rw [HLS.out]
    refine ⟨.slice A2 (shS gs sg k).length c2,.slice A3 (shM gs mt k).length c3,rfl,?_,?_,?_⟩
    ·rw [← Pl.shrS_len,← e1]
     exact ownsRow_setCell_below (ownsRow_setCell_below (ownsRow_setCell_below HK.out.s (by simp) _) (by simp) _) (by simp) _
    ·rw [← Pl.shrM_len gs sg.length mt,← e2]
     exact ownsRow_setCell_below (ownsRow_setCell_below (ownsRow_setCell_below HK.out.m (by simp) _) (by simp) _) (by simp) _
    ·exact ((HK.out.bel.setCell (by simp) _).setCell (by simp) _).setCell (by simp) _
end Go.Proofs.YtghdiolnonejaaaGreatDoor
end
section
namespace Go.Proofs.YtghdiolnonejaaaGreatDoor
open Go Go.RowKit
structure UC (w:World) (gi:Nat) (x0 x1 x2 y0 y1 y2 y3 y4:Value) (W:World):Prop where
 d:Row W w.heap.size 24 [x0,x1,x2]
 i:Row W gi 43 [y0,y1,y2,y3,y4]
 rd:∃ vs,Row W (w.heap.size + 1 + 1) 24 vs ∧ vs.length = 3
 rm:∃ us,Row W (w.heap.size + 1 + 1 + 1) 43 us ∧ us.length = 5
 bel:Below w.heap.size w W
 lo:w.heap.size + 1 + 1 + 1 < gi
section
variable {w:World} {gi:Nat} {x0 x1 x2 y0 y1 y2 y3 y4:Value} {W W':World}
theorem UC.drew (h:UC w gi x0 x1 x2 y0 y1 y2 y3 y4 W):UC w gi x0 x1 x2 y0 y1 y2 y3 y4 W.drew := ⟨h.d,h.i,h.rd,h.rm,h.bel.drew,h.lo⟩
theorem UC.below (h:UC w gi x0 x1 x2 y0 y1 y2 y3 y4 W) (hb:Below W.heap.size W W'):UC w gi x0 x1 x2 y0 y1 y2 y3 y4 W' :=
 let ⟨vs,r1,l1⟩:=h.rd
 let ⟨us,r2,l2⟩:=h.rm
 ⟨h.d.below hb,h.i.below hb,⟨vs,r1.below hb,l1⟩,⟨us,r2.below hb,l2⟩,h.bel.trans (hb.mono h.bel.size),h.lo⟩
theorem UC.alloc (h:UC w gi x0 x1 x2 y0 y1 y2 y3 y4 W) (o:Obj):UC w gi x0 x1 x2 y0 y1 y2 y3 y4 (W.alloc o) := h.below ((Below.refl _ _).alloc (Nat.le_refl _) o)
theorem UC.setD (h:UC w gi x0 x1 x2 y0 y1 y2 y3 y4 W) (o:Nat) (v:Value):UC w gi x0 x1 x2 y0 y1 y2 y3 y4 (W.setCell ⟨w.heap.size + 1 + 1,o,none⟩ v) :=
 let ⟨vs,r1,l1⟩:=h.rd
 let ⟨us,r2,l2⟩:=h.rm
 have hl:=h.lo
 ⟨h.d.other (by show _ ≠ w.heap.size + 1 + 1; omega) v,h.i.other (by show _ ≠ w.heap.size + 1 + 1; omega) v,⟨vs.set o v,r1.set o v,by rw [List.length_set,l1]⟩,⟨us,r2.other (by show _ ≠ w.heap.size + 1 + 1; omega) v,l2⟩,h.bel.setCell (by show _ ≤ w.heap.size + 1 + 1; omega) v,h.lo⟩
theorem UC.setM (h:UC w gi x0 x1 x2 y0 y1 y2 y3 y4 W) (o:Nat) (v:Value):UC w gi x0 x1 x2 y0 y1 y2 y3 y4 (W.setCell ⟨w.heap.size + 1 + 1 + 1,o,none⟩ v) :=
 let ⟨vs,r1,l1⟩:=h.rd
 let ⟨us,r2,l2⟩:=h.rm
 have hl:=h.lo
 ⟨h.d.other (by show _ ≠ w.heap.size + 1 + 1 + 1; omega) v,h.i.other (by show _ ≠ w.heap.size + 1 + 1 + 1; omega) v,⟨vs,r1.other (by show _ ≠ w.heap.size + 1 + 1 + 1; omega) v,l1⟩,⟨us.set o v,r2.set o v,by rw [List.length_set,l2]⟩,h.bel.setCell (by show _ ≤ w.heap.size + 1 + 1 + 1; omega) v,h.lo⟩
theorem UC.all (h:UC w gi x0 x1 x2 y0 y1 y2 y3 y4 W):W.cell? ⟨w.heap.size,0,none⟩ = some x0 ∧ W.cell? ⟨gi,0,none⟩ = some y0 ∧ W.cell? ⟨gi,1,none⟩ = some y1 ∧ W.cell? ⟨gi,2,none⟩ = some y2 ∧ W.cell? ⟨gi,3,none⟩ = some y3 ∧ W.cell? ⟨gi,4,none⟩ = some y4 ∧
 W.cell? ⟨w.heap.size + 1 + 1,0,none⟩ = some (cv W ⟨w.heap.size + 1 + 1,0,none⟩) ∧ W.cell? ⟨w.heap.size + 1 + 1,1,none⟩ = some (cv W ⟨w.heap.size + 1 + 1,1,none⟩) ∧ W.cell? ⟨w.heap.size + 1 + 1,2,none⟩ = some (cv W ⟨w.heap.size + 1 + 1,2,none⟩) ∧
 W.cell? ⟨w.heap.size + 1 + 1 + 1,0,none⟩ = some (cv W ⟨w.heap.size + 1 + 1 + 1,0,none⟩) ∧ W.cell? ⟨w.heap.size + 1 + 1 + 1,1,none⟩ = some (cv W ⟨w.heap.size + 1 + 1 + 1,1,none⟩) ∧ W.cell? ⟨w.heap.size + 1 + 1 + 1,2,none⟩ = some (cv W ⟨w.heap.size + 1 + 1 + 1,2,none⟩) ∧ W.cell? ⟨w.heap.size + 1 + 1 + 1,3,none⟩ = some (cv W ⟨w.heap.size + 1 + 1 + 1,3,none⟩) ∧ W.cell? ⟨w.heap.size + 1 + 1 + 1,4,none⟩ = some (cv W ⟨w.heap.size + 1 + 1 + 1,4,none⟩) ∧
 (∀ o,W.frozen? ⟨w.heap.size + 1 + 1,o,none⟩ = false) ∧ (∀ o,W.frozen? ⟨w.heap.size + 1 + 1 + 1,o,none⟩ = false) ∧ UC w gi x0 x1 x2 y0 y1 y2 y3 y4 W := by
 obtain ⟨vs,r1,l1⟩:=h.rd
 obtain ⟨us,r2,l2⟩:=h.rm
 obtain ⟨d0,_,_,_⟩:=box3 h.d
 obtain ⟨i0,i1,i2,i3,i4,_⟩:=box5 h.i
 exact ⟨d0,i0,i1,i2,i3,i4,cv_some (r1.cell (i := 0) (by omega)),cv_some (r1.cell (i := 1) (by omega)),cv_some (r1.cell (i := 2) (by omega)),cv_some (r2.cell (i := 0) (by omega)),cv_some (r2.cell (i := 1) (by omega)),cv_some (r2.cell (i := 2) (by omega)),cv_some (r2.cell (i := 3) (by omega)),cv_some (r2.cell (i := 4) (by omega)),r1.free,r2.free,h⟩
end
theorem own_ints' {w:World} {base:Nat} {e:TypeId} {A:Option Addr} {n c:Nat} {zs:List Int} (h:w.ownsRow base e 1 (.slice A n c) n (zs.map (.int .i64))):IntsAt w A n zs := by
 have hl:=h.1
 rcases h.2 with ⟨h1,h2⟩ | ⟨g,cap,cur,h1,_⟩
 ·subst h2
  exact ⟨by simpa using hl,fun h => absurd h (by omega)⟩
 ·injection h1 with h1 _ h3
  subst h1
  exact own_ints h
theorem map_nats (l:List Nat):(nats l).map (Value.int .i64) = l.map (fun k:Nat => Value.int .i64 k) := by unfold nats; rw [List.map_map]; rfl
theorem getD_m {d:Pl.Dg} {k:Nat} (hk:k < d.mt.length):d.mt.getD k 0 = d.m k := by
 unfold Pl.Dg.m
 rw [List.getD_eq_getElem?_getD,List.getD_eq_getElem?_getD,List.getElem?_eq_getElem hk]; rfl
theorem getD_le {d:Pl.Dg} (hd:Pl.Wf d) (h:Nat):d.mt.getD h 0 ≤ 256 := by
 have hn:=hd.few
 have hl:=hd.len
 by_cases hh:h < d.mt.length
 ·rw [getD_m hh]
  have:=hd.lt h (by omega)
  omega
 ·rw [List.getD_eq_getElem?_getD,List.getElem?_eq_none (by omega)]
  exact Nat.zero_le _
theorem set_le {l:List Nat} {N a b:Nat} (h:∀ k,l.getD k 0 ≤ N) (hb:b ≤ N):∀ k,(l.set a b).getD k 0 ≤ N := by
 intro k
 have hk:=h k
 rw [List.getD_eq_getElem?_getD] at hk ⊢
 rw [List.getElem?_set]
 split
 ·split
  ·simpa using hb
  ·simp
 ·exact hk
theorem jn_le {l:List Nat} {N a b:Nat} (h:∀ k,l.getD k 0 ≤ N) (ha:a ≤ N) (hb:b ≤ N):∀ k,(jn l a b).getD k 0 ≤ N := set_le (set_le h hb) ha
def kA (d:Pl.Dg) (c:Nat):Nat := Pl.tn (kk d c) 2
def kB (d:Pl.Dg) (c:Nat):Nat := Pl.tn (d.m (kk d c)) 2
def uncC (d:Pl.Dg) (c:Nat):Int := if d.m (kk d c) / 4 = c then (if d.m (kA d c) = kB d c then (if 64 < d.lp + 1 then 5 else 0) else 0) else 6
def unM (d:Pl.Dg) (c:Nat):List Nat := if d.m (kA d c) = kB d c then d.mt else jn d.mt (d.m (kA d c)) (d.m (kB d c))
def unD (d:Pl.Dg) (c:Nat):Pl.Dg := ⟨Pl.shrS [c] d.sg,Pl.shrM [c] d.n (unM d c),if d.m (kA d c) = kB d c then d.lp + 1 else d.lp⟩
def unI (d:Pl.Dg) (c:Nat):Mv := ⟨1,if d.m (kA d c) = kB d c then -1 else (Pl.shf [c] (d.m (kA d c)):Nat),0,d.s c,decide (kA d c % 2 = 1)⟩
def UncPost (d:Pl.Dg) (c:Nat) (w:World) (e:Ending) (w':World):Prop := (uncC d c ≠ 0 → ResErr (uncC d c) e) ∧ (uncC d c = 0 → ResOk (unD d c) (unI d c) e w') ∧ Below w.heap.size w w'
theorem kk_lt {d:Pl.Dg} {c:Nat} (hc:c < d.n):kk d c < 4 * d.n := by unfold kk; split <;> (try split) <;> omega
theorem kA_lt {d:Pl.Dg} {c:Nat} (hc:c < d.n):kA d c < 4 * d.n := Pl.tn_lt (kk_lt hc)
theorem kB_lt {d:Pl.Dg} (hd:Pl.Wf d) {c:Nat} (hc:c < d.n):kB d c < 4 * d.n := Pl.tn_lt (hd.lt _ (kk_lt hc))
theorem shrunk_sl (gs:List Nat) (sg:List Int) (mt:List Nat) (lp:Int) (A B C:Option Addr) (n q r cp cq cr:Nat) (w:World) (hs:IntsAt w A n sg) (hm:IntsAt w B q (nats mt)) (hg:IntsAt w C r (nats gs)) (hf:Pl.Few gs)
 (hq:q = 4 * n) (hcq:q ≤ cq) (hcq2:cq ≤ maxLen) (hn:n ≤ 100) (hr:1 ≤ r ∧ r ≤ 100) (hmt:∀ h,mt.getD h 0 ≤ 1000) :
 Calls Tryz.prog 79 #[.slice A n cp,.slice B q cq,.int .i64 lp,.slice C r cr] w fun e w' => ∃ (A7 A8:Option Addr) (c7 c8:Nat),e = .returned (.agg #[.slice A7 (Pl.left sg.length gs).length c7,.slice A8 (4 * (Pl.left sg.length gs).length) c8,.int .i64 lp]) ∧
  w'.ownsRow (w.heap.size + 2) 3 1 (.slice A7 (Pl.left sg.length gs).length c7) (Pl.left sg.length gs).length ((Pl.shrS gs sg).map (.int .i64)) ∧ w'.ownsRow (w.heap.size + 2) 3 1 (.slice A8 (4 * (Pl.left sg.length gs).length) c8) (4 * (Pl.left sg.length gs).length) ((Pl.shrM gs sg.length mt).map (fun k:Nat => Value.int .i64 k)) ∧ Below w.heap.size w w' := by
 refine (shrunk_any gs sg mt lp A B C n q r cp cq cr w hs hm hg hf hq hcq hcq2 hn hr hmt).mono ?_
 rintro e w' ⟨vS,vM,rfl,o1,o2,hb⟩
 obtain ⟨A7,c7,rfl⟩:=owns_slice o1
 obtain ⟨A8,c8,rfl⟩:=owns_slice o2
 exact ⟨A7,A8,c7,c8,rfl,o1,o2,hb⟩
def W4 (w:World) (x0 x1 x2 y0 y1 y2 y3 y4:Value):World := ((((w.alloc (.cells #[x0,x1,x2] 24)).alloc (.cells #[y0,y1,y2,y3,y4] 43)).alloc (.cells #[.slice none 0 0,.slice none 0 0,.int .i64 0] 24)).alloc (.cells #[.int .i64 0,.int .i64 0,.int .i64 0,.int .i64 0,.bool false] 43))
theorem row_at {W:World} {t:TypeId} {vs:List Value} {g:Nat} (h:g = W.heap.size):Row (W.alloc (.cells vs.toArray t)) g t vs := by subst h; exact Row.new W t vs
theorem boxes4 (w:World) (x0 x1 x2 y0 y1 y2 y3 y4:Value) :
 Row (W4 w x0 x1 x2 y0 y1 y2 y3 y4) w.heap.size 24 [x0,x1,x2] ∧ Row (W4 w x0 x1 x2 y0 y1 y2 y3 y4) (w.heap.size + 1) 43 [y0,y1,y2,y3,y4] ∧ Row (W4 w x0 x1 x2 y0 y1 y2 y3 y4) (w.heap.size + 1 + 1) 24 [.slice none 0 0,.slice none 0 0,.int .i64 0] ∧
 Row (W4 w x0 x1 x2 y0 y1 y2 y3 y4) (w.heap.size + 1 + 1 + 1) 43 [.int .i64 0,.int .i64 0,.int .i64 0,.int .i64 0,.bool false] ∧ Below w.heap.size w (W4 w x0 x1 x2 y0 y1 y2 y3 y4) ∧ (W4 w x0 x1 x2 y0 y1 y2 y3 y4).heap.size = w.heap.size + 4 := by
 unfold W4
 refine ⟨(((row_at (vs := [x0,x1,x2]) rfl).alloc _).alloc _).alloc _,((row_at (vs := [y0,y1,y2,y3,y4]) (by simp)).alloc _).alloc _,(row_at (vs := [.slice none 0 0,.slice none 0 0,.int .i64 0]) (by simp)).alloc _,row_at (vs := [.int .i64 0,.int .i64 0,.int .i64 0,.int .i64 0,.bool false]) (by simp),?_,by simp⟩
 exact ((((Below.refl _ _).alloc (Nat.le_refl _) _).alloc (by simp) _).alloc (by simp; omega) _).alloc (by simp; omega) _
end Go.Proofs.YtghdiolnonejaaaGreatDoor
end
section
namespace Go.Proofs.YtghdiolnonejaaaGreatDoor.Pl
variable {N:Nat} {S:Nat → Prop} {f:Nat → Nat}
def Per (f:Nat → Nat) (x p:Nat):Prop := 0 < p ∧ it f p x = x ∧ ∀ i,0 < i → i < p → it f i x ≠ x
theorem least_nat {P:Nat → Prop}:∀ (n:Nat),P n → ∃ m,m ≤ n ∧ P m ∧ ∀ k,k < m → ¬ P k
 | 0,h => ⟨0,Nat.le_refl _,h,fun k hk => absurd hk (by omega)⟩
 | n + 1, h => by
   by_cases e:∃ k,k < n + 1 ∧ P k
   ·obtain ⟨k,hk,hp⟩:=e
    obtain ⟨m,h1,h2,h3⟩:=least_nat k hp
    exact ⟨m,by omega,h2,h3⟩
   ·exact ⟨n + 1,Nat.le_refl _,h,fun k hk hp => e ⟨k,hk,hp⟩⟩
termination_by n => n
theorem Bij.per (h:Bij N S f) {x:Nat} (hx:S x):∃ p,p ≤ N ∧ Per f x p := by
 obtain ⟨q,h1,h2,h3⟩:=h.back hx
 obtain ⟨m,g1,⟨g2,g3⟩,g4⟩:=least_nat (P := fun p => 0 < p ∧ Pl.it f p x = x) q ⟨h1,h3⟩
 exact ⟨m,by omega,g2,g3,fun i hi hm e => g4 i hm ⟨hi,e⟩⟩
def cyc (f:Nat → Nat) (x p:Nat):List Nat := (List.range p).map (fun i => it f i x)
theorem cyc_len (f:Nat → Nat) (x p:Nat):(cyc f x p).length = p := by unfold cyc; simp
theorem cyc_succ (f:Nat → Nat) (x p:Nat):cyc f x (p + 1) = cyc f x p ++ [it f p x] := by unfold cyc; rw [List.range_succ,List.map_append]; rfl
theorem cyc_get {f:Nat → Nat} {x p i:Nat} (hi:i < p):(cyc f x p).getD i 0 = it f i x := by
 unfold cyc
 rw [List.getD_eq_getElem?_getD,List.getElem?_map,List.getElem?_range hi]; rfl
theorem mem_cyc {x p:Nat} (hp:Per f x p) {y:Nat}:y ∈ cyc f x p ↔ Orb f x y := by
 unfold cyc
 rw [List.mem_map]
 constructor
 ·rintro ⟨i,_,e⟩; exact ⟨i,e⟩
 ·rintro ⟨k,e⟩
  refine ⟨k % p,List.mem_range.2 (Nat.mod_lt _ hp.1),?_⟩
  have h1:k = k % p + k / p * p:=by rw [Nat.mul_comm]; exact (Nat.mod_add_div k p).symm
  rw [h1,it_add,it_mul f p x hp.2.1] at e
  exact e
structure Fcs (f:Nat → Nat) (W:Nat → Prop) (N k:Nat) (fs:List (List Nat)) (bs:List Bool):Prop where
 len:bs.length = N
 is:∀ l,l ∈ fs → ∃ h p,h < N ∧ W h ∧ Per f h p ∧ l = cyc f h p
 seen:∀ h,h < N → (gb bs h = true ↔ ∃ l,l ∈ fs ∧ h ∈ l)
 all:∀ h,h < k → W h → gb bs h = true
 one:∀ (i j:Nat) (l m:List Nat) (h:Nat),fs[i]? = some l → fs[j]? = some m → h ∈ l → h ∈ m → i = j
theorem Fcs.start (f:Nat → Nat) (W:Nat → Prop) (N:Nat):Fcs f W N 0 [] (List.replicate N false) := by
 refine ⟨by simp,fun l h => by simp at h,fun h hh => ?_,fun h hh => absurd hh (by omega),fun i j l m h e => by simp at e⟩
 constructor
 ·intro e; unfold gb at e; rw [List.getD_eq_getElem?_getD,List.getElem?_replicate,if_pos hh] at e; exact absurd e (by decide)
 ·rintro ⟨l,h,_⟩; simp at h
theorem Fcs.skip {W:Nat → Prop} {k:Nat} {fs:List (List Nat)} {bs:List Bool} (h:Fcs f W N k fs bs) (hs:gb bs k = true ∨ ¬ W k):Fcs f W N (k + 1) fs bs :=
 ⟨h.len, h.is, h.seen, fun x hx hw => by
   by_cases e:x = k
   ·subst e
    rcases hs with hs | hs
    ·exact hs
    ·exact absurd hw hs
   ·exact h.all x (by omega) hw,h.one⟩
def mark (bs:List Bool):List Nat → List Bool
 | [] => bs
 | x :: l => mark (bs.set x true) l
theorem mark_append (bs:List Bool):∀ (l m:List Nat),mark bs (l ++ m) = mark (mark bs l) m := by
 intro l
 induction l generalizing bs with
 | nil => intro m; rfl
 | cons x l ih => intro m; exact ih (bs.set x true) m
theorem mark_len (bs:List Bool) (l:List Nat):(mark bs l).length = bs.length := by
 induction l generalizing bs with
 | nil => rfl
 | cons x l ih => show (mark (bs.set x true) l).length = _; rw [ih,List.length_set]
theorem gb_mark {bs:List Bool} {l:List Nat} (hl:∀ x,x ∈ l → x < bs.length) (h:Nat):gb (mark bs l) h = true ↔ gb bs h = true ∨ h ∈ l := by
 induction l generalizing bs with
 | nil => simp [mark]
 | cons x l ih =>
   show gb (mark (bs.set x true) l) h = true ↔ _
   rw [ih (fun y hy => by rw [List.length_set]; exact hl y (List.mem_cons_of_mem _ hy)),gb_set (hl x List.mem_cons_self) true h,List.mem_cons]
   by_cases e:h = x
   ·simp [e]
   ·simp [e]
theorem Fcs.add {W:Nat → Prop} (hb:Bij N S f) (hS:∀ x,x < N → S x) (hN:∀ x,S x → x < N) {k p:Nat} {fs:List (List Nat)} {bs:List Bool} (h:Fcs f W N k fs bs) (hk:k < N) (hw:W k) (hn:gb bs k = false) (hp:Per f k p) :
 Fcs f W N (k + 1) (fs ++ [cyc f k p]) (mark bs (cyc f k p)) := by
 have hin:∀ x,x ∈ cyc f k p → x < bs.length:=fun x hx => by
  rw [h.len]; exact hN x (hb.orb_mem (hS k hk) ((mem_cyc hp).1 hx))
 have apart:∀ l x,l ∈ fs → x ∈ l → ¬ x ∈ cyc f k p:=fun l x hl hx hc => by
  obtain ⟨g,q,h1,h2,h3,rfl⟩:=h.is l hl
  have e1:=(mem_cyc h3).1 hx
  have e2:=(mem_cyc hp).1 hc
  have e3:Orb f g k:=e1.trans (hb.symm (hS k hk) e2)
  have:=(h.seen k hk).2 ⟨_,hl,(mem_cyc h3).2 e3⟩
  rw [hn] at this
  exact absurd this (by decide)
 refine ⟨by rw [mark_len,h.len],fun l hl => ?_,fun x hx => ?_,fun x hx hwx => ?_,fun i j l m x e1 e2 h1 h2 => ?_⟩
 ·rcases List.mem_append.1 hl with hl | hl
  ·exact h.is l hl
  ·rw [List.mem_singleton] at hl
   exact ⟨k,p,hk,hw,hp,hl⟩
 ·rw [gb_mark hin,h.seen x hx]
  constructor
  ·rintro (⟨l,h1,h2⟩ | h2)
   ·exact ⟨l,List.mem_append_left _ h1,h2⟩
   ·exact ⟨_,List.mem_append_right _ (List.mem_singleton.2 rfl),h2⟩
  ·rintro ⟨l,h1,h2⟩
   rcases List.mem_append.1 h1 with h1 | h1
   ·exact .inl ⟨l,h1,h2⟩
   ·rw [List.mem_singleton] at h1; subst h1; exact .inr h2
 ·rw [gb_mark hin]
  by_cases e:x = k
  ·subst e; exact .inr ((mem_cyc hp).2 (Orb.refl f x))
  ·exact .inl (h.all x (by omega) hwx)
 ·rw [List.getElem?_append] at e1 e2
  by_cases c1:i < fs.length
  ·rw [if_pos c1] at e1
   by_cases c2:j < fs.length
   ·rw [if_pos c2] at e2
    exact h.one i j l m x e1 e2 h1 h2
   ·rw [if_neg c2] at e2
    have:=List.mem_of_getElem? e2
    rw [List.mem_singleton] at this
    subst this
    exact absurd h2 (apart l x (List.mem_of_getElem? e1) h1)
  ·rw [if_neg c1] at e1
   have t1:=List.mem_of_getElem? e1
   rw [List.mem_singleton] at t1
   by_cases c2:j < fs.length
   ·rw [if_pos c2] at e2
    subst t1
    exact absurd h1 (apart m x (List.mem_of_getElem? e2) h2)
   ·rw [if_neg c2] at e2
    have a1:=(List.getElem?_eq_some_iff.1 e1).1
    have a2:=(List.getElem?_eq_some_iff.1 e2).1
    simp only [List.length_singleton] at a1 a2
    omega
end Go.Proofs.YtghdiolnonejaaaGreatDoor.Pl
end
section
namespace Go.Proofs.YtghdiolnonejaaaGreatDoor
open Go Go.RowKit
def fv1 (k:Nat) (c:Value):Value := .func (.func k) #[] #[c]
def Steps (k:Nat) (c:Value) (N:Nat) (f:Nat → Nat) (w:World):Prop := ∀ w' h,Below w.heap.size w w' → h < N → Calls Tryz.prog k #[.int .i64 (h:Int),c] w' fun e w'' => e = .returned (.int .i64 (f h:Nat)) ∧ Below w'.heap.size w' w''
theorem Steps.keep {k:Nat} {c:Value} {N:Nat} {f:Nat → Nat} {w W:World} (h:Steps k c N f w) (hb:Below w.heap.size w W):Steps k c N f W :=
 fun w' x hb' hx => h w' x (hb.trans (hb'.mono hb.size)) hx
theorem own_one (W:World) (x:Value):(W.alloc (.cells #[x] 3)).ownsRow W.heap.size 3 1 (.slice (some ⟨W.heap.size,0,none⟩) 1 1) 1 [x] :=
 ⟨rfl,.inr ⟨W.heap.size,1,#[x],rfl,Nat.le_refl _,heap_alloc_new W _,Nat.le_refl _,by unfold maxLen; omega,rfl,rfl⟩⟩
theorem it_lt {f:Nat → Nat} {N:Nat} (hf:∀ x,x < N → f x < N) {h:Nat} (hh:h < N):∀ k,Pl.it f k h < N
 | 0 => hh
 | k + 1 => hf _ (it_lt hf hh k)
def CycPost (f:Nat → Nat) (h p:Nat) (w:World) (e:Ending) (w':World):Prop :=
 ∃ (A:Option Addr) (c:Nat),e = .returned (.slice A p c) ∧ w'.ownsRow w.heap.size 3 1 (.slice A p c) p ((Pl.cyc f h p).map (fun k:Nat => Value.int .i64 k)) ∧ Below w.heap.size w w'
end Go.Proofs.YtghdiolnonejaaaGreatDoor
end
section
namespace Go.Proofs.YtghdiolnonejaaaGreatDoor.Pl
variable {d:Dg}
structure PI (d:Dg) (ps:List Int):Prop where
 len:ps.length = d.n
 is:∀ c,c < d.n → ∃ b:Nat,pv ps c = b ∧ b ≤ c ∧ Comp d c b
end Go.Proofs.YtghdiolnonejaaaGreatDoor.Pl
end
section
namespace Go.Proofs.YtghdiolnonejaaaGreatDoor
open Go Go.RowKit
theorem next_i (d:Pl.Dg) (hd:Pl.Wf d) (B:Option Addr) (cq m:Nat) (h:Int) (w:World) (e:m = 4 * d.n) (hh:0 ≤ h ∧ h < (m:Int)) (hm:IntsAt w B m (nats d.mt)) :
 Calls Tryz.prog 91 #[.slice B m cq,.int .i64 h] w fun e w' => e = .returned (.int .i64 (Pl.nx d h.toNat:Nat)) ∧ w' = w := by
 subst e
 obtain ⟨k,rfl⟩:=Int.eq_ofNat_of_zero_le hh.1
 have hk:k < 4 * d.n:=by omega
 refine (next_any d B cq k w hk (by have := hd.few; omega) hm (hd.lt k hk)).mono ?_
 rintro e w' ⟨rfl,rfl⟩
 exact ⟨rfl,rfl⟩
def lnH (x y i:Nat):Nat := if i < 4 then 4 * x + i else 4 * y + i - 4
def lnO (x y i:Nat):Nat := if i < 4 then y else x
def isL (d:Pl.Dg) (x y i:Nat):Prop := Pl.nx d (lnH x y i) / 4 = lnO x y i ∧ Pl.nx d (Pl.nx d (lnH x y i)) = lnH x y i ∧ lnH x y i % 2 = d.m (lnH x y i) % 2
instance (d:Pl.Dg) (x y i:Nat):Decidable (isL d x y i) := by unfold isL; infer_instance
def lensI (d:Pl.Dg) (x y:Nat):Option Nat := (List.range 8).find? (fun i => decide (isL d x y i))
def lensV (d:Pl.Dg) (h:Nat):Value :=
 .agg #[.int .i64 (h:Int),.int .i64 (d.m (Pl.nx d h):Int),.int .i64 (Pl.tn h 2:Int),.int .i64 (Pl.tn (d.m (Pl.nx d h)) 2:Int),.int .i64 (Pl.tn (d.m h) 2:Int),.int .i64 (Pl.nx d h:Int),.int .i64 (d.m h:Int),.int .i64 (Pl.tn (Pl.nx d h) 2:Int)]
def noLens:Value := .agg #[.int .i64 0,.int .i64 0,.int .i64 0,.int .i64 0,.int .i64 0,.int .i64 0,.int .i64 0,.int .i64 0]
def findE (d:Pl.Dg) (x y:Nat):Option Nat → Ending
 | some i => .returned (.tuple #[lensV d (lnH x y i),.bool true])
 | none => .returned (.tuple #[noLens,.bool false])
def FindPost (d:Pl.Dg) (x y:Nat) (w:World) (e:Ending) (w':World):Prop := e = findE d x y (lensI d x y) ∧ Below w.heap.size w w'
theorem find_some {p:Nat → Bool} {k:Nat}:∀ n,k < n → p k = true → (∀ j,j < k → p j = false) → (List.range n).find? p = some k := by
 intro n
 induction n with
 | zero => intro h; omega
 | succ n ih =>
   intro hk hp hn
   rw [List.range_succ,List.find?_append]
   rcases Nat.lt_or_ge k n with h | h
   ·rw [ih h hp hn]; rfl
   ·have:k = n:=by omega
    subst this
    have h0:(List.range k).find? p = none:=by
     rw [List.find?_eq_none]
     intro x hx
     rw [hn x (List.mem_range.1 hx)]; decide
    rw [h0]
    simp [hp]
theorem find_none {p:Nat → Bool} {n:Nat} (hn:∀ j,j < n → p j = false):(List.range n).find? p = none := by
 rw [List.find?_eq_none]
 intro x hx
 rw [hn x (List.mem_range.1 hx)]; decide
theorem lens_at {d:Pl.Dg} {x y k:Nat} (hk:k < 8) (hp:isL d x y k) (hn:∀ j,j < k → ¬ isL d x y j):lensI d x y = some k :=
 find_some 8 hk (by simpa using hp) (fun j hj => by simpa using hn j hj)
theorem lens_no {d:Pl.Dg} {x y:Nat} (hn:∀ j,j < 8 → ¬ isL d x y j):lensI d x y = none := find_none (fun j hj => by simpa using hn j hj)
theorem find_more {p:Nat → Prop} {k:Nat} (h:∀ j,j < k → ¬ p j) (hk:¬ p k):∀ j,j < k + 1 → ¬ p j := fun j hj => by
 rcases Nat.lt_or_ge j k with h1 | h1
 ·exact h j h1
 ·have:j = k:=by omega
  subst this; exact hk
theorem row8 {W:World} {g:Nat} {t:TypeId} {vs:List Value} (h:Row W g t vs) (l:vs.length = 8) (y0 y1 y2 y3 y4 y5 y6 y7:Value) :
 Row ((((((((W.setCell ⟨g,0,none⟩ y0).setCell ⟨g,1,none⟩ y1).setCell ⟨g,2,none⟩ y2).setCell ⟨g,3,none⟩ y3).setCell ⟨g,4,none⟩ y4).setCell ⟨g,5,none⟩ y5).setCell ⟨g,6,none⟩ y6).setCell ⟨g,7,none⟩ y7) g t [y0,y1,y2,y3,y4,y5,y6,y7] := by
 obtain ⟨a,b,c,d,e,f,g',h',rfl⟩:∃ a b c d e f g h,vs = [a,b,c,d,e,f,g,h] := by
  match vs,l with
  | [a,b,c,d,e,f,g,h],_ => exact ⟨a,b,c,d,e,f,g,h,rfl⟩
 exact (((((((h.set 0 y0).set 1 y1).set 2 y2).set 3 y3).set 4 y4).set 5 y5).set 6 y6).set 7 y7
theorem box8 {W:World} {g:Nat} {t:TypeId} {a b c d e f p q:Value} (h:Row W g t [a,b,c,d,e,f,p,q]):W.cell? ⟨g,0,none⟩ = some a ∧ W.cell? ⟨g,1,none⟩ = some b ∧ W.cell? ⟨g,2,none⟩ = some c ∧ W.cell? ⟨g,3,none⟩ = some d ∧ W.cell? ⟨g,4,none⟩ = some e ∧ W.cell? ⟨g,5,none⟩ = some f ∧ W.cell? ⟨g,6,none⟩ = some p ∧ W.cell? ⟨g,7,none⟩ = some q ∧ ∀ o,W.frozen? ⟨g,o,none⟩ = false :=
 ⟨h.cell (i := 0) (by simp),h.cell (i := 1) (by simp),h.cell (i := 2) (by simp),h.cell (i := 3) (by simp),h.cell (i := 4) (by simp),h.cell (i := 5) (by simp),h.cell (i := 6) (by simp),h.cell (i := 7) (by simp),h.free⟩
theorem below_set8 {w W:World} {g:Nat} (h:Below w.heap.size w W) (hg:w.heap.size ≤ g) (y0 y1 y2 y3 y4 y5 y6 y7:Value) :
 Below w.heap.size w ((((((((W.setCell ⟨g,0,none⟩ y0).setCell ⟨g,1,none⟩ y1).setCell ⟨g,2,none⟩ y2).setCell ⟨g,3,none⟩ y3).setCell ⟨g,4,none⟩ y4).setCell ⟨g,5,none⟩ y5).setCell ⟨g,6,none⟩ y6).setCell ⟨g,7,none⟩ y7) :=
 (((((((h.setCell hg _).setCell hg _).setCell hg _).setCell hg _).setCell hg _).setCell hg _).setCell hg _).setCell hg _
set_option maxRecDepth 100000 in
set_option maxHeartbeats 4000000 in
theorem find_any (d:Pl.Dg) (hd:Pl.Wf d) (A B:Option Addr) (cp cq m x y:Nat) (w:World) (hm:m = 4 * d.n) (hg:DgAt w A B d) (hx:x < d.n) (hy:y < d.n) :
 Calls Tryz.prog 88 #[.agg #[.slice A d.n cp,.slice B m cq,.int .i64 d.lp],.int .i64 (x:Int),.int .i64 (y:Int)] w (FindPost d x y w) := by
 have hn:=hd.few
 have HM:=hide hm
 have HG:=hide hg
 have hm2:m ≤ 256:=by omega
 clear hm hg
 have X0:=hide (show Row ((w.alloc (.cells #[.slice A d.n cp,.slice B m cq,.int .i64 d.lp] 24)).alloc (.cells #[.int .i64 0,.int .i64 0,.int .i64 0,.int .i64 0,.int .i64 0,.int .i64 0,.int .i64 0,.int .i64 0] 131)) w.heap.size 24 [.slice A d.n cp,.slice B m cq,.int .i64 d.lp] from Row.alloc (Row.new w _ [_,_,_]) _)
 have R0:=hide (show Row ((w.alloc (.cells #[.slice A d.n cp,.slice B m cq,.int .i64 d.lp] 24)).alloc (.cells #[.int .i64 0,.int .i64 0,.int .i64 0,.int .i64 0,.int .i64 0,.int .i64 0,.int .i64 0,.int .i64 0] 131)) (w.heap.size + 1) 131 [.int .i64 0,.int .i64 0,.int .i64 0,.int .i64 0,.int .i64 0,.int .i64 0,.int .i64 0,.int .i64 0] from row_at (vs := [_,_,_,_,_,_,_,_]) (by simp))
 have B0:=hide (show Below w.heap.size w ((w.alloc (.cells #[.slice A d.n cp,.slice B m cq,.int .i64 d.lp] 24)).alloc (.cells #[.int .i64 0,.int .i64 0,.int .i64 0,.int .i64 0,.int .i64 0,.int .i64 0,.int .i64 0,.int .i64 0] 131)) from ((Below.refl _ _).alloc (Nat.le_refl _) _).alloc (by simp) _)
 go_enter Tryz.func88,Tryz.ntmps88
 go_wp2
 go_loopg [15] 8 (fun g i wx => ∃ k:Nat,k + g = 8 ∧ i = .int .i64 k ∧ (∀ j,j < k → ¬ isL d x y j) ∧ Below w.heap.size w wx ∧ Row wx w.heap.size 24 [.slice A d.n cp,.slice B m cq,.int .i64 d.lp] ∧ Row wx (w.heap.size + 1) 131 [.int .i64 0,.int .i64 0,.int .i64 0,.int .i64 0,.int .i64 0,.int .i64 0,.int .i64 0,.int .i64 0])
 case atStart => exact ⟨0,rfl,rfl,fun j h => absurd h (by omega),B0.out,X0.out,R0.out⟩
 case round =>
  clear B0 X0 R0
  obtain ⟨k,hkg,rfl,hno,b1,x1,r1⟩:=hrel
  have HKG:=hide hkg
  have HNO:=hide hno
  have B1:=hide b1
  have X1:=hide x1
  have R1:=hide r1
  clear hno b1 x1 r1
  by_cases hk:k = 8
  ·subst hk
   clear hkg
   obtain ⟨p0,p1,p2,p3,p4,p5,p6,p7,p8⟩:=box8 R1.out
   go_wp2
   refine bodyPost_ret (v := .tuple #[noLens,.bool false]) ?_ rfl ?_
   ·obtain ⟨e0,e1,e2,e3,e4,e5,e6,e7,_⟩:=box8 (row8 R1.out rfl (.int .i64 0) (.int .i64 0) (.int .i64 0) (.int .i64 0) (.int .i64 0) (.int .i64 0) (.int .i64 0) (.int .i64 0))
    unfold noLens
    simp [results,Tryz.results88,go_sem,e0,e1,e2,e3,e4,e5,e6,e7]
   ·refine ⟨?_,below_set8 B1.out (by omega) _ _ _ _ _ _ _ _⟩
    rw [lens_no HNO.out]
    rfl
  ·have hk8:k < 8:=by omega
   have HK8:=hide hk8
   clear hkg hk
   obtain ⟨f0,f1,f2,f3⟩:=box3 X1.out
   go_upto_if 24 with fail
   go_cut [9,10] (fun s9 s10 wx => s9 = .int .i64 (lnH x y k:Nat) ∧ s10 = .int .i64 (lnO x y k:Nat) ∧ wx = wr)
   case first =>
    by_cases h4:k < 4
    ·have e1:((lnH x y k:Nat):Int) = 4 * (x:Int) + (k:Int):=by unfold lnH; rw [if_pos h4]; omega
     have e2:lnO x y k = y:=by unfold lnO; rw [if_pos h4]
     have E1:=hide e1
     have E2:=hide e2
     clear e1 e2
     go_wp2_with fail
     go_meet
     exact ⟨by rw [E1.out],by rw [E2.out],rfl⟩
    ·have e1:((lnH x y k:Nat):Int) = 4 * (y:Int) + (k:Int) - 4:=by unfold lnH; rw [if_neg h4]; omega
     have e2:lnO x y k = x:=by unfold lnO; rw [if_neg h4]
     have E1:=hide e1
     have E2:=hide e2
     clear e1 e2
     go_wp2_with fail
     go_meet
     exact ⟨by rw [E1.out],by rw [E2.out],rfl⟩
   case rest =>
    obtain ⟨rfl,rfl,rfl⟩:=hcut
    have hh:lnH x y k < 4 * d.n:=by unfold lnH; split <;> omega
    have ho:lnO x y k < d.n:=by unfold lnO; split <;> omega
    obtain ⟨h,hH⟩:∃ h,h = lnH x y k := ⟨_,rfl⟩
    obtain ⟨o,hO⟩:∃ o,o = lnO x y k := ⟨_,rfl⟩
    rw [← hH] at hh ⊢
    rw [← hO] at ho ⊢
    have HH:=hide hH
    have HO:=hide hO
    clear hH hO
    have hmh:h < m:=by have := HM.out; omega
    have ih0:(0:Int) ≤ (h:Int):=by omega
    have ih1:(h:Int) < (m:Int):=by omega
    have HGc:=hide (HG.out.keep B1.out)
    have HGM:=hide (show IntsAt wc B m (nats d.mt) by rw [HM.out]; exact HGc.out.m)
    obtain ⟨mb,mo,rfl,cm⟩:=mate_at HGc.out.m hh
    have hmm:=hd.lt h hh
    have hgg:Pl.nx d h < 4 * d.n:=Pl.tn_lt (hd.lt h hh)
    obtain ⟨u,hu⟩:∃ u,u = d.m h := ⟨_,rfl⟩
    rw [← hu] at cm hmm
    obtain ⟨g,hgx⟩:∃ g,g = Pl.nx d h := ⟨_,rfl⟩
    rw [← hgx] at hgg
    have HU:=hide hu
    have HGX:=hide hgx
    clear hu hgx
    have hg2:Pl.nx d g < 4 * d.n:=Pl.tn_lt (hd.lt g hgg)
    have hgm:g < m:=by have := HM.out; omega
    have ig0:(0:Int) ≤ (g:Int):=by omega
    have ig1:(g:Int) < (m:Int):=by omega
    go_wp2_with fail
    refine (next_i d hd (some ⟨mb,mo,none⟩) cq m (h:Int) _ HM.out (by omega) HGM.out).mono ?_
    rintro e w2 ⟨rfl,rfl⟩
    rw [Int.toNat_natCast,← HGX.out]
    have HL:=hide (show isL d x y k ↔ (g / 4 = o ∧ Pl.nx d g = h ∧ h % 2 = u % 2) by unfold isL; rw [← HH.out,← HO.out,← HGX.out,← HU.out])
    obtain ⟨v,hv⟩:∃ v,v = Pl.nx d g := ⟨_,rfl⟩
    have HV:=hide hv
    clear hv cm
    by_cases c1:g / 4 = o
    ·have t1:((g:Int) / 4 != (o:Int)) = false:=by rw [bne_eq_false_iff_eq]; omega
     have C1:=hide c1
     clear c1
     go_wp2_with fail
     refine (next_i d hd (some ⟨mb,mo,none⟩) cq m (g:Int) _ HM.out (by omega) HGM.out).mono ?_
     rintro e w3 ⟨rfl,rfl⟩
     rw [Int.toNat_natCast,← HV.out]
     by_cases c2:v = h
     ·have t2:((v:Int) != (h:Int)) = false:=by rw [bne_eq_false_iff_eq]; omega
      by_cases c3:h % 2 = u % 2
      ·have t3:((h:Int) % 2 != (u:Int) % 2) = false:=by rw [bne_eq_false_iff_eq]; omega
       have E:=hide (lens_at HK8.out (HL.out.2 ⟨C1.out,by rw [← HV.out]; exact c2,c3⟩) HNO.out)
       have C2:=hide c2
       clear c2 c3
       have HGn:=hide (HG.out.keep B1.out)
       obtain ⟨mb',mo',hmb',cn⟩:=mate_at HGn.out.m hgg
       injection hmb' with hmb'
       injection hmb' with hmb1 hmb2
       subst hmb1
       subst hmb2
       have hmg:=hd.lt g hgg
       obtain ⟨up,hup⟩:∃ up,up = d.m g := ⟨_,rfl⟩
       rw [← hup] at cn hmg
       have HUP:=hide hup
       clear hup
       obtain ⟨p0,p1,p2,p3,p4,p5,p6,p7,p8⟩:=box8 R1.out
       go_wp2_with fail
       refine (opp_i (h:Int) _ (by omega)).mono ?_
       rintro e w4 ⟨rfl,rfl⟩
       go_wp2_with fail
       refine (opp_i (up:Int) _ (by omega)).mono ?_
       rintro e w5 ⟨rfl,rfl⟩
       go_wp2_with fail
       refine (opp_i (u:Int) _ (by omega)).mono ?_
       rintro e w6 ⟨rfl,rfl⟩
       go_wp2_with fail
       refine (opp_i (g:Int) _ (by omega)).mono ?_
       rintro e w7 ⟨rfl,rfl⟩
       have hlt:=R1.out.lt
       go_wp2
       refine bodyPost_ret (v := .tuple #[lensV d h,.bool true]) ?_ rfl ?_
       ·obtain ⟨e0,e1,e2,e3,e4,e5,e6,e7,_⟩:=box8 ((row8 R1.out rfl (.int .i64 (h:Int)) (.int .i64 (up:Int)) (.int .i64 (Pl.tn h 2:Int)) (.int .i64 (Pl.tn up 2:Int)) (.int .i64 (Pl.tn u 2:Int)) (.int .i64 (g:Int)) (.int .i64 (u:Int)) (.int .i64 (Pl.tn g 2:Int))).alloc (.cells #[.int .i64 (h:Int),.int .i64 (up:Int),.int .i64 (Pl.tn h 2:Int),.int .i64 (Pl.tn up 2:Int),.int .i64 (Pl.tn u 2:Int),.int .i64 (g:Int),.int .i64 (u:Int),.int .i64 (Pl.tn g 2:Int)] 131))
        unfold lensV
        rw [← HGX.out,← HU.out,← HUP.out]
        simp [results,Tryz.results88,go_sem,e0,e1,e2,e3,e4,e5,e6,e7]
       ·refine ⟨?_,Below.alloc (below_set8 B1.out (by omega) _ _ _ _ _ _ _ _) (below_set8 B1.out (by omega) _ _ _ _ _ _ _ _).size _⟩
        rw [E.out]
        show _ = Ending.returned (.tuple #[lensV d (lnH x y k),.bool true])
        rw [← HH.out]
      ·have t3:((h:Int) % 2 != (u:Int) % 2) = true:=by rw [bne_iff_ne]; omega
       have E:=hide (show ¬ isL d x y k from fun h => c3 (HL.out.1 h).2.2)
       clear c2 c3
       go_wp2_with fail
       go_roundg (gk - 1)
       case measure => have := HKG.out; have := HK8.out; omega
       case rel => exact ⟨k + 1,by have := HKG.out; have := HK8.out; omega,by go_num,find_more HNO.out E.out,B1.out,X1.out,R1.out⟩
     ·have t2:((v:Int) != (h:Int)) = true:=by rw [bne_iff_ne]; omega
      have E:=hide (show ¬ isL d x y k from fun h => c2 (by rw [HV.out]; exact (HL.out.1 h).2.1))
      clear c2
      go_wp2_with fail
      go_roundg (gk - 1)
      case measure => have := HKG.out; have := HK8.out; omega
      case rel => exact ⟨k + 1,by have := HKG.out; have := HK8.out; omega,by go_num,find_more HNO.out E.out,B1.out,X1.out,R1.out⟩
    ·have t1:((g:Int) / 4 != (o:Int)) = true:=by rw [bne_iff_ne]; omega
     have E:=hide (show ¬ isL d x y k from fun h => c1 (HL.out.1 h).1)
     clear c1
     go_wp2_with fail
     go_roundg (gk - 1)
     case measure => have := HKG.out; have := HK8.out; omega
     case rel => exact ⟨k + 1,by have := HKG.out; have := HK8.out; omega,by go_num,find_more HNO.out E.out,B1.out,X1.out,R1.out⟩
end Go.Proofs.YtghdiolnonejaaaGreatDoor
end
section
namespace Go.Proofs.YtghdiolnonejaaaGreatDoor
open Go Go.RowKit
theorem RowT.store {w:World} {t t':TypeId} {A:Option Addr} {n:Nat} {xs:List Value} {g i:Nat} {vs:List Value} (h:RowT w t A n xs) (hr:Row w g t' vs) (hne:t ≠ t') (v:Value):RowT (w.setCell ⟨g,i,none⟩ v) t A n xs :=
 ⟨h.1, fun hn => let ⟨b, o, cs, fr, e, hb, hc⟩ := h.2 hn; ⟨b, o, cs, fr, e, (Below.heap_setCell w _ v b (fun he => by
   have hr':=hr
   unfold Row at hr'
   have he':b = g:=he
   rw [he',hr'] at hb
   injection hb with hb
   injection hb with _ h4
   exact hne h4.symm)).trans hb,hc⟩⟩
theorem own_rowT {w:World} {base:Nat} {t:TypeId} {A:Option Addr} {n c:Nat} {xs:List Value} (h:w.ownsRow base t 1 (.slice A n c) n xs):RowT w t A n xs := by
 refine ⟨by simpa using h.1,fun hn => ?_⟩
 rcases h.2 with ⟨_,h2⟩ | ⟨g,cap,cur,h1,_,h3,_,_,_,h5⟩
 ·omega
 ·injection h1 with h1 _ _
  refine ⟨g,0,cur,(0,0),h1,h3,fun j u hu => ?_⟩
  rw [Nat.zero_add]
  have hj:j < n:=by
   have:=(List.getElem?_eq_some_iff.1 hu).1
   have:=h.1
   omega
  rw [← h5,List.getElem?_take,if_pos (by omega)] at hu
  rw [← hu]
  simp
def FaceAt (w:World) (v:Value) (l:List Nat):Prop := ∃ A c,v = .slice A l.length c ∧ RowT w 3 A l.length (l.map (fun k:Nat => Value.int .i64 k))
def Vs (w:World) (vs:List Value) (fs:List (List Nat)):Prop := vs.length = fs.length ∧ ∀ (i:Nat) l,fs[i]? = some l → ∃ v,vs[i]? = some v ∧ FaceAt w v l
theorem Vs.below {w w':World} {vs:List Value} {fs:List (List Nat)} (h:Vs w vs fs) (hb:Below w.heap.size w w'):Vs w' vs fs :=
 ⟨h.1,fun i l e => let ⟨v,h1,A,c,h2,h3⟩:=h.2 i l e; ⟨v,h1,A,c,h2,h3.keep hb⟩⟩
theorem Vs.grown {w w':World} {vs:List Value} {fs:List (List Nat)} {row:Option Nat} {t':TypeId} (h:Vs w vs fs) (hg:w.grownBy w' row) (hr:∀ g,row = some g → ∃ cs fr,w.heap[g]? = some (.cells cs t' fr)) (hne:3 ≠ t'):Vs w' vs fs :=
 ⟨h.1,fun i l e => let ⟨v,h1,A,c,h2,h3⟩:=h.2 i l e; ⟨v,h1,A,c,h2,h3.grown hg hr hne⟩⟩
theorem Vs.store {w:World} {vs:List Value} {fs:List (List Nat)} {g i:Nat} {us:List Value} {t':TypeId} (h:Vs w vs fs) (hr:Row w g t' us) (hne:3 ≠ t') (v:Value):Vs (w.setCell ⟨g,i,none⟩ v) vs fs :=
 ⟨h.1,fun i l e => let ⟨v,h1,A,c,h2,h3⟩:=h.2 i l e; ⟨v,h1,A,c,h2,h3.store hr hne _⟩⟩
theorem Vs.add {w:World} {vs:List Value} {fs:List (List Nat)} {v:Value} {l:List Nat} (h:Vs w vs fs) (hv:FaceAt w v l):Vs w (vs ++ [v]) (fs ++ [l]) := by
 refine ⟨by simp [h.1],fun i m e => ?_⟩
 rw [List.getElem?_append] at e ⊢
 by_cases hi:i < fs.length
 ·rw [if_pos hi] at e
  rw [if_pos (by rw [h.1]; exact hi)]
  exact h.2 i m e
 ·rw [if_neg hi] at e
  rw [if_neg (by rw [h.1]; exact hi),h.1]
  have h1:=(List.getElem?_eq_some_iff.1 e).1
  simp only [List.length_singleton] at h1
  have h0:i - fs.length = 0:=by omega
  rw [h0] at e ⊢
  simp only [List.getElem?_cons_zero,Option.some.injEq] at e
  subst e
  exact ⟨v,rfl,hv⟩
theorem Vs.nil (w:World):Vs w [] [] := ⟨rfl,fun i l e => by simp at e⟩
theorem FaceAt.below {w w':World} {v:Value} {l:List Nat} (h:FaceAt w v l) (hb:Below w.heap.size w w'):FaceAt w' v l := let ⟨A,c,h2,h3⟩:=h; ⟨A,c,h2,h3.keep hb⟩
theorem FaceAt.store {w:World} {v:Value} {l:List Nat} {g i:Nat} {us:List Value} {t':TypeId} (h:FaceAt w v l) (hr:Row w g t' us) (hne:3 ≠ t') (u:Value):FaceAt (w.setCell ⟨g,i,none⟩ u) v l := let ⟨A,c,h2,h3⟩:=h; ⟨A,c,h2,h3.store hr hne _⟩
theorem FaceAt.grown {w w':World} {v:Value} {l:List Nat} {row:Option Nat} {t':TypeId} (h:FaceAt w v l) (hg:w.grownBy w' row) (hr:∀ g,row = some g → ∃ cs fr,w.heap[g]? = some (.cells cs t' fr)) (hne:3 ≠ t'):FaceAt w' v l := let ⟨A,c,h2,h3⟩:=h; ⟨A,c,h2,h3.grown hg hr hne⟩
theorem FaceAt.ints {w:World} {A:Option Addr} {n c:Nat} {l:List Nat} (h:FaceAt w (.slice A n c) l):n = l.length ∧ IntsAt w A n (nats l) := by
 obtain ⟨A',c',h1,h2⟩:=h
 injection h1 with h1 h3 h4
 subst h1 h3
 refine ⟨rfl,?_⟩
 unfold IntsAt
 rw [map_nats]
 exact h2.row
def Far (base:Nat) (vs:List Value):Prop := ∀ v,v ∈ vs → ∀ g,v.ownBlock = some g → base ≤ g
theorem Far.add {base:Nat} {vs:List Value} {v:Value} (h:Far base vs) (hv:∀ g,v.ownBlock = some g → base ≤ g):Far base (vs ++ [v]) := fun u hu => by
 rcases List.mem_append.1 hu with hu | hu
 ·exact h u hu
 ·rw [List.mem_singleton] at hu; subst hu; exact hv
theorem rowInfo:(Tryz.prog.info? 22).map (fun i => (i.zero,i.size,i.bytes)) = some (some (.slice none 0 0),1,24) := by kernel_rfl
end Go.Proofs.YtghdiolnonejaaaGreatDoor
end
section
namespace Go.Proofs.YtghdiolnonejaaaGreatDoor
open Go Go.RowKit
theorem mk_self (d:Pl.Dg):Pl.mk d.sg (nats d.mt) d.lp = d := by
 unfold Pl.mk nats
 rw [List.map_map]
 have:(Int.toNat ∘ fun m:Nat => (m:Int)) = id:=by funext x; rfl
 rw [this,List.map_id]
 rfl
theorem vl_of {d:Pl.Dg}:Pl.VL d.sg (nats d.mt) d.lp ↔ Pl.Valid d := by
 constructor
 ·intro h; have := h.1; rwa [mk_self] at this
 ·intro h; exact ⟨by rw [mk_self]; exact h,fun z hz => by unfold nats at hz; obtain ⟨m,_,rfl⟩:=List.mem_map.1 hz; omega,by omega⟩
theorem valid_yes (d:Pl.Dg) (hd:Pl.Valid d) (A B:Option Addr) (cp cq m:Nat) (w:World) (hm:m = 4 * d.n) (hg:DgAt w A B d) :
 Calls Tryz.prog 8 #[.agg #[.slice A d.n cp,.slice B m cq,.int .i64 d.lp]] w fun e w' => e = .returned (.bool true) ∧ Below w.heap.size w w' := by
 have hn:=hd.wf.few
 have hl:=hd.wf.lp
 refine (valid_any d.sg (nats d.mt) d.lp A B d.n m cp cq w hg.s (by rw [hm]; exact hg.m) (by unfold maxLen; omega) (by unfold maxLen; omega) (by omega)).mono ?_
 rintro e w' ⟨h1,h2⟩
 rw [Pl.vb_true (vl_of.2 hd)] at h1
 exact ⟨h1,h2⟩
end Go.Proofs.YtghdiolnonejaaaGreatDoor
end
section
namespace Go.Proofs.YtghdiolnonejaaaGreatDoor
open Go Go.RowKit
attribute [local go_sem ↓] Go.wp_at_zero Go.wp_at_succ
def lnS (d:Pl.Dg) (y:Int):Nat := if fwd d y then 0 else 2
def th0 (d:Pl.Dg) (x:Int):Nat := if fwd d x then 3 else 1
def th1 (d:Pl.Dg) (x:Int):Nat := if fwd d x then 1 else 3
def un0 (d:Pl.Dg) (x y:Int) (ov:Bool):Nat := if ov then lnS d y else th0 d x
def un1 (d:Pl.Dg) (x y:Int) (ov:Bool):Nat := if ov then lnS d y else th1 d x
def ov0 (d:Pl.Dg) (x y:Int) (ov:Bool):Nat := if ov then th0 d x else lnS d y
def ov1 (d:Pl.Dg) (x y:Int) (ov:Bool):Nat := if ov then th1 d x else lnS d y
def sgn2 (u o:Nat):Int := if plc 0 u o = 3 then 1 else -1
section
variable {w:World} {x0 x1 x2 y0 y1 y2 y3 y4:Value} {W W':World}
end
section
variable {w:World} {x0 x1 x2 y0 y1 y2 y3 y4:Value} {gu gs:Nat} {p0 p1 q0 q1:Value} {W W':World}
end
theorem own_base {w:World} {base base':Nat} {e:TypeId} {v:Value} {n:Nat} {xs:List Value} (h:w.ownsRow base e 1 v n xs) (hle:base' ≤ base):w.ownsRow base' e 1 v n xs := own_keep h (Below.refl _ _) hle
theorem two_ints (W:World) (a b:Int):IntsAt (W.alloc (.cells #[.int .i64 a,.int .i64 b] 3)).drew (some ⟨W.heap.size,0,none⟩) 2 [a,b] := by
 refine IntsAt.drew ⟨rfl,fun _ => ⟨_,0,rfl,fun j u hu => ?_⟩⟩
 have h:=heap_alloc_new W (.cells #[.int .i64 a,.int .i64 b] 3)
 match j,hu with
 | 0,hu => simp at hu; subst hu; exact (Lib.cell_of_heap h 0).trans rfl
 | 1,hu => simp at hu; subst hu; exact (Lib.cell_of_heap h 1).trans rfl
end Go.Proofs.YtghdiolnonejaaaGreatDoor
end
section
namespace Go.Proofs.YtghdiolnonejaaaGreatDoor
open Go Go.RowKit
def lpv (d:Pl.Dg) (h:Nat):Int := if Pl.out d h then -2 else -1
def oldv (d:Pl.Dg) (x y h:Nat):Int := (Pl.shf [x,y] (d.m h):Nat)
theorem loopF_any (d:Pl.Dg) (hd:Pl.Wf d) (A B:Option Addr) (cp cq m g h:Nat) (w:World) (hr:Row w g 24 [.slice A d.n cp,.slice B m cq,.int .i64 (d.lp:Int)]) (hg:DgAt w A B d) (hh:h < 4 * d.n) :
 Calls Tryz.prog 112 #[.int .i64 (h:Int),.pointer (some ⟨g,0,none⟩)] w fun e w' => e = .returned (.int .i64 (lpv d h)) ∧ Below w.heap.size w w' := by
 obtain ⟨d0,d1,d2,d3⟩:=box3 hr
 have hn:=hd.few
 go_enter Tryz.func112,Tryz.ntmps112
 go_wp2_with fail
 refine (out2_n d A B d.n cp m cq (.int .i64 (d.lp:Int)) h _ rfl hh (by omega) hg.s).mono ?_
 rintro e w1 ⟨rfl,hb1⟩
 cases ho:Pl.out d h with
 | true =>
   have E:=hide (show lpv d h = -2 by unfold lpv; rw [ho]; rfl)
   clear ho
   go_wp2
   go_ret
   exact ⟨ret_int E.out.symm,hb1⟩
 | false =>
   have E:=hide (show lpv d h = -1 by unfold lpv; rw [ho]; rfl)
   clear ho
   go_wp2
   go_ret
   exact ⟨ret_int E.out.symm,hb1⟩
set_option maxRecDepth 100000 in
set_option maxHeartbeats 1000000 in
theorem oldF_any (d:Pl.Dg) (hd:Pl.Wf d) (A B:Option Addr) (cp cq m g gm x y h:Nat) (k sg:Int) (ov:Bool) (w:World) (hm:m = 4 * d.n) (hr:Row w g 24 [.slice A d.n cp,.slice B m cq,.int .i64 (d.lp:Int)]) (hrm:Row w gm 43 [.int .i64 k,.int .i64 (x:Int),.int .i64 (y:Int),.int .i64 sg,.bool ov]) (hg:DgAt w A B d) (hh:h < 4 * d.n) (hxy:x < y) :
 Calls Tryz.prog 113 #[.int .i64 (h:Int),.pointer (some ⟨g,0,none⟩),.pointer (some ⟨gm,0,none⟩)] w fun e w' => e = .returned (.int .i64 (oldv d x y h)) ∧ Below w.heap.size w w' := by
 obtain ⟨d0,d1,d2,d3⟩:=box3 hr
 obtain ⟨m0,m1,m2,m3,m4,m5⟩:=box5 hrm
 have hn:=hd.few
 have l1:=hr.lt
 have l2:=hrm.lt
 have hmh:h < m:=by omega
 have ih0:(0:Int) ≤ (h:Int):=by omega
 have ih1:(h:Int) < (m:Int):=by omega
 obtain ⟨mb,mo,rfl,cm⟩:=mate_at hg.m hh
 have l3:mb < w.heap.size:=lt_of_cell cm
 have hmm:=hd.lt h hh
 have E:=hide (show oldv d x y h = (Pl.shf [x,y] (d.m h):Nat) from rfl)
 obtain ⟨u,hu⟩:∃ u,u = d.m h := ⟨_,rfl⟩
 rw [← hu] at cm hmm E
 clear hu
 have HM:=hide hm
 have HG:=hide hg
 clear hm hg hr hrm
 go_enter Tryz.func113,Tryz.ntmps113
 go_wp2_with fail
 go_region_held3 (fun w' => w'.cell? ⟨g,1,none⟩ = some (.slice (some ⟨mb,mo,none⟩) m cq) ∧ w'.cell? ⟨mb,mo + h,none⟩ = some (.int .i64 (u:Int)) ∧ w'.cell? ⟨gm,1,none⟩ = some (.int .i64 (x:Int)) ∧ w'.cell? ⟨gm,2,none⟩ = some (.int .i64 (y:Int)))
  (first | go_keep | assumption | (exact ⟨by simpa [l1] using d1,by simpa [l3] using cm,by simpa [l2] using m1,by simpa [l2] using m2⟩))
  (first
    | (go_at_call 78
       refine Calls.mono (shifted_any [x,y] (some ⟨w.heap.size,0,none⟩) 2 2 u _ (by exact two_ints w (x:Int) (y:Int)) (by omega) (by omega) (Pl.few_two hxy)) ?_
       rintro e w4 ⟨rfl,rfl⟩))
 all_goals
  go_wp2
  go_ret
  refine ⟨ret_int ?_,?_⟩
  ·rw [E.out]
  ·exact ((Below.refl _ _).alloc (Nat.le_refl _) _).drew
end Go.Proofs.YtghdiolnonejaaaGreatDoor
end
section
namespace Go.Proofs.YtghdiolnonejaaaGreatDoor
open Go Go.RowKit
def DC (w:World) (dv:List Value) (w':World):Prop := Row w' w.heap.size 24 dv ∧ Below w.heap.size w w'
theorem DC.below {w:World} {dv:List Value} {W W':World} (h:DC w dv W) (hb:Below W.heap.size W W'):DC w dv W' := ⟨h.1.below hb,h.2.trans (hb.mono h.2.size)⟩
theorem DC.drew {w:World} {dv:List Value} {W:World} (h:DC w dv W):DC w dv W.drew := ⟨h.1,h.2.drew⟩
theorem DC.all {w:World} {a b c:Value} {W:World} (h:DC w [a,b,c] W):W.cell? ⟨w.heap.size,0,none⟩ = some a ∧ W.cell? ⟨w.heap.size,1,none⟩ = some b ∧ W.cell? ⟨w.heap.size,2,none⟩ = some c ∧ DC w [a,b,c] W :=
 ⟨h.1.cell (i := 0) (by simp),h.1.cell (i := 1) (by simp),h.1.cell (i := 2) (by simp),h⟩
theorem DC.start (w:World) (a b c:Value):DC w [a,b,c] (w.alloc (.cells #[a,b,c] 24)) :=
 ⟨row_at (vs := [a,b,c]) rfl,(Below.refl _ _).alloc (Nat.le_refl _) _⟩
end Go.Proofs.YtghdiolnonejaaaGreatDoor
end
