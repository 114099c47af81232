/-
 The text Hp.
-/
import Derived.Test.YtobbepmlmbbamaaCRl
import Derived.Test.YtobbepmlmbbamaaB05
set_option linter.unusedVariables false
set_option linter.unusedSimpArgs false
section
namespace Go.Proofs.Ytobbepmlmbbamaa
open Go Go.RowKit
attribute [local go_sem ↓] Go.wp_at_zero Go.wp_at_succ
theorem own_intsR {w:World} {base:Nat} {A:Option Addr} {n c:Nat} {zs:List Int} (h:w.ownsRow base 3 1 (.slice A n c) n (zs.map (.int .i64))):IntsAt w A n zs := (own_intsT h).row
theorem ropp_s (h:Nat) (w:World) (hh:h ≤ 1000000) :
 Calls Try.prog 98 #[.int .i64 (h:Int)] w fun e w' => e = .returned (.int .i64 (Pl.tn h 2:Nat)) ∧ w' = w :=
 (ropp_any h w hh).mono fun e w' h => ⟨h.1,h.2.symm⟩
theorem m_get {d:Pl.Dg} (hd:Pl.Wf d) {h:Nat} (hh:h < 4 * d.n):d.mt.getD h 0 = d.m h := by
 have hl:=hd.len
 unfold Pl.Dg.m
 rw [List.getD_eq_getElem?_getD,List.getD_eq_getElem?_getD,List.getElem?_eq_getElem (by omega)]; rfl
theorem own_form0 {w:World} {base n cap:Nat} {A:Option Addr} {xs:List Value} (h:w.ownsRow base 3 1 (.slice A n cap) n xs) (hn:0 < n):∃ g,A = some ⟨g,0,none⟩:=by
 obtain ⟨g,c,e,_⟩:=World.ownsRow.form h hn
 injection e with e
 exact ⟨g,e⟩
theorem ownN_ints {w:World} {base n cap:Nat} {A:Option Addr} {l:List Nat} (h:w.ownsRow base 3 1 (.slice A n cap) n (l.map (fun k:Nat => Value.int .i64 k))):IntsAt w A n (nats l) := by
 refine own_intsR (base := base) (c := cap) ?_
 unfold nats
 rw [List.map_map]
 exact h
theorem RK.own8 {base b':Nat} {w W:World} {vS vM v:Value} {n q N:Nat} {lp:Int} {mv xs:List Value} {ss:List Int} {l:List Nat} (h:RK base w vS vM n q lp mv ss l W) (ho:W.ownsRow b' 3 1 v N xs) (y0 y1 y2 z0 z1 z2 z3 z4:Value):(st8 w W y0 y1 y2 z0 z1 z2 z3 z4).ownsRow b' 3 1 v N xs := by
 obtain ⟨vs,r1,_⟩:=h.rd
 obtain ⟨us,r2,_⟩:=h.rm
 have ne:w.heap.size + 1 + 1 + 1 ≠ w.heap.size + 1 + 1:=by omega
 have s0:=r1.set 0 y0
 have o0:=own_setRow ho r1 (by decide) 0 y0
 have s1:=s0.set 1 y1
 have o1:=own_setRow o0 s0 (by decide) 1 y1
 have o2:=own_setRow o1 s1 (by decide) 2 y2
 have u0:=((r2.other (a := ⟨w.heap.size + 1 + 1,0,none⟩) ne y0).other (a := ⟨w.heap.size + 1 + 1,1,none⟩) ne y1).other (a := ⟨w.heap.size + 1 + 1,2,none⟩) ne y2
 have o3:=own_setRow o2 u0 (by decide) 0 z0
 have u1:=u0.set 0 z0
 have o4:=own_setRow o3 u1 (by decide) 1 z1
 have u2:=u1.set 1 z1
 have o5:=own_setRow o4 u2 (by decide) 2 z2
 have u3:=u2.set 2 z2
 have o6:=own_setRow o5 u3 (by decide) 3 z3
 have u4:=u3.set 3 z3
 exact own_setRow o6 u4 (by decide) 4 z4
end Go.Proofs.Ytobbepmlmbbamaa
end
