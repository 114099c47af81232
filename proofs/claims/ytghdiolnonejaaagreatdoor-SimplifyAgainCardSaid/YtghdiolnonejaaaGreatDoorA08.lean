/-
 The texts Trf.
-/
import Derived.Test.YtghdiolnonejaaaGreatDoorA00
set_option linter.unusedVariables false
set_option linter.unusedSimpArgs false
section
namespace Go.Proofs.YtghdiolnonejaaaGreatDoor.Pl
def tref:Dg := ⟨[1,1,1],[9,4,7,10,1,8,11,2,5,0,3,6],0⟩
theorem tref_n:tref.n = 3 := rfl
theorem tref_wf:Wf tref := by
 refine ⟨by decide,by decide,by decide,?_,?_,?_,?_,?_⟩
 ·show ∀ c,c < 3 → tref.s c = 1 ∨ tref.s c = -1
  decide
 ·show ∀ h,h < 12 → tref.m h < 12
  decide
 ·show ∀ h,h < 12 → tref.m h ≠ h
  decide
 ·show ∀ h,h < 12 → tref.m (tref.m h) = h
  decide
 ·show ∀ h,h < 12 → out tref h ≠ out tref (tref.m h)
  decide
theorem it_period {f:Nat → Nat} {h p:Nat} (hp:0 < p) (e:it f p h = h) (hl:∀ k,k < p → h ≤ it f k h):∀ k,h ≤ it f k h := by
 intro k
 induction k using Nat.strongRecOn with
 | _ k ih =>
   by_cases hk:k < p
   ·exact hl k hk
   ·have:=ih (k - p) (by omega)
    rw [show k = (k - p) + p by omega,it_add,e]
    exact this
theorem tref_least:∀ h,h < 12 → (Least (nx tref) h ↔ h = 0 ∨ h = 1 ∨ h = 2 ∨ h = 3 ∨ h = 5) := by
 intro h hh
 have yes3:∀ h,it (nx tref) 3 h = h → h ≤ it (nx tref) 1 h → h ≤ it (nx tref) 2 h → Least (nx tref) h:=fun h e a b => it_period (by omega) e (fun k hk => by
  match k,hk with
  | 0,_ => exact Nat.le_refl _
  | 1,_ => exact a
  | 2,_ => exact b)
 have yes2:∀ h,it (nx tref) 2 h = h → h ≤ it (nx tref) 1 h → Least (nx tref) h:=fun h e a => it_period (by omega) e (fun k hk => by
  match k,hk with
  | 0,_ => exact Nat.le_refl _
  | 1,_ => exact a)
 match h,hh with
 | 0,_ => exact ⟨fun _ => by omega,fun _ => yes3 0 (by decide) (by decide) (by decide)⟩
 | 1,_ => exact ⟨fun _ => by omega,fun _ => yes2 1 (by decide) (by decide)⟩
 | 2,_ => exact ⟨fun _ => by omega,fun _ => yes3 2 (by decide) (by decide) (by decide)⟩
 | 3,_ => exact ⟨fun _ => by omega,fun _ => yes2 3 (by decide) (by decide)⟩
 | 4,_ => exact ⟨fun l => absurd (l 1) (by decide),fun e => by omega⟩
 | 5,_ => exact ⟨fun _ => by omega,fun _ => yes2 5 (by decide) (by decide)⟩
 | 6,_ => exact ⟨fun l => absurd (l 2) (by decide),fun e => by omega⟩
 | 7,_ => exact ⟨fun l => absurd (l 1) (by decide),fun e => by omega⟩
 | 8,_ => exact ⟨fun l => absurd (l 1) (by decide),fun e => by omega⟩
 | 9,_ => exact ⟨fun l => absurd (l 1) (by decide),fun e => by omega⟩
 | 10,_ => exact ⟨fun l => absurd (l 1) (by decide),fun e => by omega⟩
 | 11,_ => exact ⟨fun l => absurd (l 1) (by decide),fun e => by omega⟩
 | n + 12,h => omega
theorem tref_nb {c:Nat} (hc:c < 3):Comp tref c ((c + 1) % 3) := by
 have key:∀ c,c < 3 → ∃ t,t < 12 ∧ t / 4 = c ∧ tref.m t / 4 = (c + 1) % 3:=by
  intro c hc
  match c,hc with
  | 0,_ => exact ⟨1,by decide,by decide,by decide⟩
  | 1,_ => exact ⟨5,by decide,by decide,by decide⟩
  | 2,_ => exact ⟨9,by decide,by decide,by decide⟩
 obtain ⟨t,h1,h2,h3⟩:=key c hc
 have h:=(con_comp tref_wf (g := t) (h := tref.m t) (by rw [tref_n]; omega) (tref_wf.lt t (by rw [tref_n]; omega))).1 (Con.right Con.refl)
 rw [h2,h3] at h
 exact h
theorem tref_con {a b:Nat} (ha:a < 3) (hb:b < 3):Comp tref a b := by
 have s:∀ c,c < 3 → Comp tref c ((c + 1) % 3):=fun c hc => tref_nb hc
 have h01:Comp tref 0 1:=s 0 (by omega)
 have h12:Comp tref 1 2:=s 1 (by omega)
 have h20:Comp tref 2 0:=s 2 (by omega)
 match a,b,ha,hb with
 | 0,0,_,_ => exact h01.trans (h12.trans h20)
 | 0,1,_,_ => exact h01
 | 0,2,_,_ => exact h01.trans h12
 | 1,0,_,_ => exact h12.trans h20
 | 1,1,_,_ => exact h12.trans (h20.trans h01)
 | 1,2,_,_ => exact h12
 | 2,0,_,_ => exact h20
 | 2,1,_,_ => exact h20.trans h01
 | 2,2,_,_ => exact h20.trans (h01.trans h12)
theorem cnt_iff {p q:Nat → Prop}:∀ n,(∀ h,h < n → (p h ↔ q h)) → cnt p n = cnt q n
 | 0,_ => rfl
 | n + 1, h => by
   have ih:=cnt_iff (p := p) (q := q) n (fun k hk => h k (by omega))
   have e:=h n (by omega)
   unfold cnt
   rw [ih]
   by_cases hq:q n
   ·rw [if_pos hq,if_pos (e.2 hq)]
   ·rw [if_neg hq,if_neg (fun hp => hq (e.1 hp))]
theorem tref_ok:Valid tref := by
 refine ⟨tref_wf,fun c hc => ?_⟩
 have hc3:c < 3:=hc
 have e1:cnt (fun h => Least (nx tref) h ∧ Comp tref c (h / 4)) (4 * tref.n) = cnt (fun h => h = 0 ∨ h = 1 ∨ h = 2 ∨ h = 3 ∨ h = 5) 12 :=
  cnt_iff 12 (fun h hh => ⟨fun e => (tref_least h hh).1 e.1,fun e => ⟨(tref_least h hh).2 e,tref_con hc3 (by omega)⟩⟩)
 have e2:cnt (fun b => Comp tref c b) tref.n = cnt (fun _ => True) 3:=cnt_iff 3 (fun b hb => ⟨fun _ => trivial,fun _ => tref_con hc3 hb⟩)
 rw [e1,e2]
 simp [cnt]
end Go.Proofs.YtghdiolnonejaaaGreatDoor.Pl
end
