/-
 The texts Yb, Vb, Hd, Hi.
-/
import Derived.Test.YtghdiolnonejaaaGreatDoorS00
import Derived.Test.YtghdiolnonejaaaGreatDoorS01
import Derived.Test.YtghdiolnonejaaaGreatDoorS02
import Derived.Test.YtghdiolnonejaaaGreatDoorS03
import Derived.Test.YtghdiolnonejaaaGreatDoorS04
import Derived.Test.YtghdiolnonejaaaGreatDoorU01
import Derived.Test.YtghdiolnonejaaaGreatDoorU07
import Derived.Test.YtghdiolnonejaaaGreatDoorU12
import Derived.Test.YtghdiolnonejaaaGreatDoorU14
import Derived.BigQuiet
import Derived.Deep.AppendLies
import Derived.Deep.CutBlock
import Derived.Deep.CutRange
import Derived.Deep.DeepCutAuto
import Derived.Deep.DrawnRows
import Derived.Deep.Light
import Derived.Deep.LoopGhost
import Derived.Deep.QuietTactic
import Derived.Deep.RegionHeld3
import Derived.Deep.RegionLaw
import Derived.Deep.RegionWith
import Derived.Laws.AppendOwn
import Derived.Laws.MakeOwn
import Derived.Laws.OwnMore
import Derived.Laws.Rows
import Derived.Laws.Slices
import Derived.Lib.ItoaLen
import Derived.Lib.ItoaNum
import Derived.Lib.SmallJoins
import Derived.Maps.AppendAt
import Derived.Maps.OwnSet
import Derived.Outline
import Derived.RegionTactic
import Derived.Shelf.Spec.SlicesGrow
import Derived.StillTailTactics
import Derived.StringKeys
import Derived.Test.YtghdiolnonejaaaGreatDoorRows
import Derived.Test.YtghdiolnonejaaaGreatDoorShelf
import Derived.WalkKit
import Derived.WalkLawsBesides
import Derived.WalkSpells
set_option linter.unusedVariables false
set_option linter.unusedSimpArgs false
section
namespace Go.Proofs.YtghdiolnonejaaaGreatDoor
open Go Go.RowKit
attribute [local go_sem ↓] Go.wp_at_zero Go.wp_at_succ
theorem idxD_no {p:Mv → Bool}:∀ {l:List Mv},idxD p l = none → ∀ z,z ∈ l → p z = false
 | [],_,z,h => by cases h
 | y :: l, h, z, hz => by
   unfold idxD at h
   cases hp:p y with
   | true => rw [if_pos hp] at h; cases h
   | false =>
     rw [if_neg (by rw [hp]; decide)] at h
     have h2:idxD p l = none:=by simpa using h
     rcases List.mem_cons.1 hz with rfl | hz
     ·exact hp
     ·exact idxD_no h2 z hz
theorem idxD_at {p:Mv → Bool}:∀ {l:List Mv} {i:Nat},idxD p l = some i → (l.take (i + 1)).filter (fun z => !p z) = l.take i
 | [],i,h => by cases h
 | y :: l, i, h => by
   unfold idxD at h
   cases hp:p y with
   | true =>
     rw [if_pos hp] at h
     obtain rfl:0 = i := by simpa using h
     simp [List.filter_cons,hp]
   | false =>
     rw [if_neg (by rw [hp]; decide)] at h
     obtain ⟨k,hk,rfl⟩:=Option.map_eq_some_iff.1 h
     have ih:=idxD_at hk
     rw [List.take_succ_cons,List.filter_cons,if_pos (by rw [hp]; rfl),ih,List.take_succ_cons]
section
variable {w W W':World} {B b g N c g1 g2 n j i:Nat} {most:Int} {ms R:List Mv}
theorem row_sets {W:World} {g g':Nat} {t:TypeId} {vs:List Value} (h:Row W g t vs) (hne:g ≠ g') (a0 a1 a2 a3 a4:Nat) (v0 v1 v2 v3 v4:Value):Row (((((W.setCell ⟨g',a0,none⟩ v0).setCell ⟨g',a1,none⟩ v1).setCell ⟨g',a2,none⟩ v2).setCell ⟨g',a3,none⟩ v3).setCell ⟨g',a4,none⟩ v4) g t vs :=
 ((((h.other hne _).other hne _).other hne _).other hne _).other hne _
end
def DelPost (B b:Nat) (l:List Mv) (w:World) (e:Ending) (w':World):Prop := ∃ v,e = .returned v ∧ w'.ownsRow b 43 5 v l.length (mvs l) ∧ Below B w w'
theorem own_caps {W:World} {b g n c:Nat} {xs:List Value} (h:W.ownsRow b 43 5 (.slice (some ⟨g,0,none⟩) n c) n xs):n ≤ c ∧ c ≤ maxLen ∧ b ≤ g ∧ g < W.heap.size := by
 rcases h.2 with ⟨h1,_⟩ | ⟨g',cap,cur,h1,h2,h3,h4,h5,h6,h7⟩
 ·cases h1
 ·injection h1 with e1 e2 e3
  injection e1 with e1
  injection e1 with e1
  subst e1 e3
  exact ⟨h4,h5,h2,lt_of_heap h3⟩
end Go.Proofs.YtghdiolnonejaaaGreatDoor
end
section
namespace Go.Proofs.YtghdiolnonejaaaGreatDoor
open Go Go.RowKit
attribute [local go_sem ↓] Go.wp_at_zero Go.wp_at_succ
structure NK (w:World) (dv:List Value) (vO vC:Value) (ns:List Int) (o:List Nat) (cs:List Int) (W:World):Prop where
 d:Row W w.heap.size 24 dv
 nu:IRow W (w.heap.size + 1) ns
 o:W.ownsRow (w.heap.size + 2) 3 1 vO o.length (o.map (fun k:Nat => Value.int .i64 k))
 c:W.ownsRow (w.heap.size + 2) 3 1 vC cs.length (cs.map (.int .i64))
 ne:∀ k,vO.ownBlock = some k → vC.ownBlock ≠ some k
 bel:Below w.heap.size w W
section
variable {w W W2:World} {dv:List Value} {vO vC:Value} {ns:List Int} {o:List Nat} {cs:List Int}
theorem NK.big (h:NK w dv vO vC ns o cs W):w.heap.size + 2 ≤ W.heap.size := by have := Row.lt h.nu; omega
theorem NK.below (h:NK w dv vO vC ns o cs W) (hb:Below W.heap.size W W2):NK w dv vO vC ns o cs W2 :=
 ⟨h.d.below hb,Row.below h.nu hb,own_keep h.o hb (Nat.le_refl _),own_keep h.c hb (Nat.le_refl _),h.ne,h.bel.trans (hb.mono (by have := h.big; omega))⟩
theorem NK.alloc (h:NK w dv vO vC ns o cs W) (b:Obj):NK w dv vO vC ns o cs (W.alloc b) := h.below ((Below.refl _ _).alloc (Nat.le_refl _) b)
theorem NK.setN (h:NK w dv vO vC ns o cs W) (i:Nat) (v:Int):NK w dv vO vC (ns.set i v) o cs (W.setCell ⟨w.heap.size + 1,i,none⟩ (.int .i64 v)) :=
 ⟨h.d.other (by show _ ≠ w.heap.size + 1; omega) _,h.nu.set i v,ownsRow_setCell_below h.o (by show w.heap.size + 1 < w.heap.size + 2; omega) _,ownsRow_setCell_below h.c (by show w.heap.size + 1 < w.heap.size + 2; omega) _,h.ne,h.bel.setCell (by show _ ≤ w.heap.size + 1; omega) _⟩
theorem own_hat {g:Nat} {v:Value} {W:World} {base n:Nat} {xs:List Value} {t:TypeId} (h:W.ownsRow base t 1 v n xs) (hat:v.ownBlock = some g ∨ g = W.heap.size) {u:Value} {m:Nat} {ys:List Value} (hu:W.ownsRow base t 1 u m ys) (ne:∀ k,v.ownBlock = some k → u.ownBlock ≠ some k):u.ownBlock ≠ some g := by
 rcases hat with e | e
 ·exact ne g e
 ·intro e2
  have:=(hu.lt g e2).2
  omega
theorem NK.appO (h:NK w dv vO vC ns o cs W) {g c n:Nat} {o':List Nat} (own:W2.ownsRow (w.heap.size + 2) 3 1 (.slice (some ⟨g,0,none⟩) n c) n (o'.map (fun k:Nat => Value.int .i64 k))) (gr:W.grownBy W2 vO.ownBlock) (hat:vO.ownBlock = some g ∨ g = W.heap.size):NK w dv (.slice (some ⟨g,0,none⟩) n c) vC ns o' cs W2 := by
 have hn:n = o'.length:=by have := own.1; simpa using this.symm
 have hne:=own_hat h.o hat h.c h.ne
 have hle:=h.big
 refine ⟨h.d.grown gr (own_row_ne h.o h.d (by decide)),Row.grown h.nu gr (fun e => ?_),by rw [← hn]; exact own,h.c.kept gr ?_,fun k hk => ?_,h.bel.grown gr (by omega) (fun k hk => by have := (h.o.lt k hk).1; omega)⟩
 ·have:=(h.o.lt _ e.symm).1; omega
 ·cases hm:vC.ownBlock with
  | none => exact .inl rfl
  | some x => exact .inr (fun e => h.ne x e.symm hm)
 ·have e:g = k:=by injection hk
  subst e
  exact hne
theorem NK.appC (h:NK w dv vO vC ns o cs W) {g c n:Nat} {cs':List Int} (own:W2.ownsRow (w.heap.size + 2) 3 1 (.slice (some ⟨g,0,none⟩) n c) n (cs'.map (.int .i64))) (gr:W.grownBy W2 vC.ownBlock) (hat:vC.ownBlock = some g ∨ g = W.heap.size):NK w dv vO (.slice (some ⟨g,0,none⟩) n c) ns o cs' W2 := by
 have hn:n = cs'.length:=by have := own.1; simpa using this.symm
 have hne:=own_hat h.c hat h.o (fun k hk e => h.ne k e hk)
 have hle:=h.big
 refine ⟨h.d.grown gr (own_row_ne h.c h.d (by decide)),Row.grown h.nu gr (fun e => ?_),h.o.kept gr ?_,by rw [← hn]; exact own,fun k hk e => ?_,h.bel.grown gr (by omega) (fun k hk => by have := (h.c.lt k hk).1; omega)⟩
 ·have:=(h.c.lt _ e.symm).1; omega
 ·cases hm:vO.ownBlock with
  | none => exact .inl rfl
  | some x => exact .inr (fun e => h.ne x hm e.symm)
 ·have e:g = k:=by injection e
  subst e
  exact hne hk
end
theorem rep_step (k n:Nat) (h:k < n):(List.replicate k (-1:Int) ++ List.replicate (n - k) 0).set k (-1) = List.replicate (k + 1) (-1) ++ List.replicate (n - (k + 1)) 0 := by
 have e:n - k = (n - (k + 1)) + 1:=by omega
 rw [e,List.replicate_succ,List.set_append_right _ _ (by simp),List.length_replicate,Nat.sub_self,List.set_cons_zero,List.replicate_succ' ,List.append_assoc]
 rfl
theorem cut_mid {w:World} {A:Option Addr} {n c:Nat} {xs:List Int} (h:IntsAt w A n xs) {k:Nat} (hk:k + 5 ≤ n) (hc:n ≤ c) :
 ∃ (A1:Option Addr) (c1:Nat),IntsAt w A1 5 ((xs.drop k).take 5) ∧ ∀ W:World,(Instr.slice 22 (.slice A n c) (some (.int .i64 (k:Int))) (some (.int .i64 ((k + 5:Nat):Int))) none).run Tryz.prog W = .ok (.slice A1 5 c1) W := by
 have hl:=h.len
 obtain ⟨b,o,rfl,hx⟩:=h.2 (by omega)
 refine ⟨some ⟨b,o + k,none⟩,c - k,⟨by simp; omega,fun hp => ⟨b,o + k,rfl,fun j u hu => ?_⟩⟩,fun W => ?_⟩
 ·rw [List.map_take,List.getElem?_take] at hu
  split at hu
  ·rw [List.map_drop,List.getElem?_drop] at hu
   rw [Nat.add_assoc]
   exact hx _ u hu
  ·cases hu
 ·rw [run_slice_lh W 22 (some ⟨b,o,none⟩) n c elemI .i64 .i64 (k:Int) ((k + 5:Nat):Int) (by omega) (by omega) (by omega),sizeI]
  simp only [Result.andThen_ok]
  unfold sliced
  rw [Int.toNat_natCast,Int.toNat_natCast,if_neg (show ¬ c = k by omega),show k + 5 - k = 5 by omega]
  simp [Addr.add_lit]
end Go.Proofs.YtghdiolnonejaaaGreatDoor
end
section
namespace Go.Proofs.YtghdiolnonejaaaGreatDoor
open Go Go.RowKit
attribute [local go_sem ↓] Go.wp_at_zero Go.wp_at_succ
theorem skKey:Maps.Keyed Tryz.prog 9 := Maps.string_keyed Tryz.underlying9
def KpT (t:TypeId) (W W':World):Prop := ∀ (g:Nat) (cs:Array Value) (fr:Nat × Nat),W.heap[g]? = some (Obj.cells cs t fr) → W'.heap[g]? = some (Obj.cells cs t fr)
theorem KpT.of_below {t:TypeId} {W W':World} (h:Below W.heap.size W W'):KpT t W W' := fun g cs fr hg => (h.block g (lt_of_heap hg)).trans hg
theorem KpT.of_map {t:TypeId} {W W':World} {b:Nat} (h:W.grownBy W' (some b)) (hr:∃ es cl,W.heap[b]? = some (.map es cl)):KpT t W W' := fun g cs fr hg => (h.block g (lt_of_heap hg) (fun e => by
 injection e with e
 obtain ⟨es,cl,h2⟩:=hr
 rw [← e,hg] at h2
 injection h2 with h2
 cases h2)).trans hg
theorem Row.kp {t:TypeId} {W W':World} {g:Nat} {vs:List Value} (h:Row W g t vs) (k:KpT t W W'):Row W' g t vs := k g _ _ h
theorem RowT.kp {t:TypeId} {W W':World} {A:Option Addr} {n:Nat} {xs:List Value} (h:RowT W t A n xs) (k:KpT t W W'):RowT W' t A n xs :=
 ⟨h.1,fun hn => let ⟨b,o,cs,fr,e,hb,hc⟩:=h.2 hn; ⟨b,o,cs,fr,e,k b cs fr hb,hc⟩⟩
theorem DgT.kp {W W':World} {A B:Option Addr} {d:Pl.Dg} (h:DgT W A B d) (k:KpT 3 W W'):DgT W' A B d := ⟨h.s.kp k,h.m.kp k⟩
theorem own_kp {t:TypeId} {W W':World} {base s n:Nat} {v:Value} {xs:List Value} (h:W.ownsRow base t s v n xs) (k:KpT t W W'):W'.ownsRow base t s v n xs := by
 refine ⟨h.1,?_⟩
 rcases h.2 with hz | ⟨g,cap,cur,r1,r2,r3,r4⟩
 ·exact .inl hz
 ·exact .inr ⟨g,cap,cur,r1,r2,k g _ _ r3,r4⟩
structure Nm where
 a:Nd
 A:Option Addr
 B:Option Addr
 c:Nat
 e:Nat
def Nm.v (z:Nm):List Value := [.slice z.A z.a.d.n z.c,.slice z.B (4 * z.a.d.n) z.e,.int .i64 z.a.d.lp,.int .i64 z.a.m.kind,.int .i64 z.a.m.x,.int .i64 z.a.m.y,.int .i64 z.a.m.sign,.bool z.a.m.over,.int .i64 z.a.fr,.int .i64 z.a.s]
def nms (zs:List Nm):List Value := zs.flatMap Nm.v
theorem nms_len:∀ zs:List Nm,(nms zs).length = zs.length * 10
 | [] => rfl
 | z :: zs => by
   have:=nms_len zs
   show (z.v ++ nms zs).length = _
   rw [List.length_append,this,List.length_cons]
   show 10 + _ = _
   omega
theorem nms_app (zs:List Nm) (z:Nm):nms (zs ++ [z]) = nms zs ++ z.v := by unfold nms; simp
theorem nms_get:∀ (zs:List Nm) (j:Nat) (z:Nm),zs[j]? = some z → ∀ (i:Nat) (u:Value),z.v[i]? = some u → (nms zs)[j * 10 + i]? = some u
 | [],j,z,h,_,_,_ => by cases h
 | m :: ms, 0, z, h, i, u, hu => by
   obtain rfl:m = z := by simpa using h
   show (m.v ++ nms ms)[0 * 10 + i]? = _
   rw [Nat.zero_mul,Nat.zero_add,List.getElem?_append_left (List.getElem?_eq_some_iff.1 hu).1]
   exact hu
 | m :: ms, j + 1, z, h, i, u, hu => by
   show (m.v ++ nms ms)[(j + 1) * 10 + i]? = _
   rw [List.getElem?_append_right (by show 10 ≤ _; omega),show (j + 1) * 10 + i - m.v.length = j * 10 + i by show (j + 1) * 10 + i - 10 = _; omega]
   exact nms_get ms j z (by simpa using h) i u hu
section
variable {w W W':World} {A0 B0:Option Addr} {d0:Pl.Dg} {k gm:Nat} {dv:List Value} {v:Value} {zs:List Nm}
end
end Go.Proofs.YtghdiolnonejaaaGreatDoor
end
section
namespace Go.Proofs.YtghdiolnonejaaaGreatDoor
open Go Go.RowKit
def dvl (l:List UInt8):Nat := l.foldl (fun a c => 10 * a + (c.toNat - 48)) 0
theorem dvl_snoc (l:List UInt8) (c:UInt8):dvl (l ++ [c]) = 10 * dvl l + (c.toNat - 48) := by unfold dvl; rw [List.foldl_append]; rfl
theorem dig_to {k:Nat} (h:k < 10):(UInt8.ofNat (48 + k)).toNat = 48 + k := by
 rw [UInt8.toNat_ofNat']
 omega
theorem dec_is (u:Nat):dvl (Lib.decDigits u) = u ∧ ∀ c,c ∈ Lib.decDigits u → 48 ≤ c.toNat ∧ c.toNat ≤ 57 := by
 induction u using Nat.strongRecOn with
 | _ u ih =>
   by_cases h:u < 10
   ·rw [Lib.decDigits_one h]
    refine ⟨?_,fun c hc => ?_⟩
    ·show 10 * 0 + ((UInt8.ofNat (48 + u)).toNat - 48) = u
     rw [dig_to h]; omega
    ·rw [List.mem_singleton.1 hc,dig_to h]; omega
   ·obtain ⟨i1,i2⟩:=ih (u / 10) (by omega)
    have e:Lib.decDigits u = Lib.decDigits (u / 10) ++ [UInt8.ofNat (48 + u % 10)]:=by
     conv => lhs; rw [Lib.decDigits,dif_neg h]
    have h2:u % 10 < 10:=by omega
    rw [e]
    refine ⟨?_,fun c hc => ?_⟩
    ·rw [dvl_snoc,i1,dig_to h2]; omega
    ·rcases List.mem_append.1 hc with hc | hc
     ·exact i2 c hc
     ·rw [List.mem_singleton.1 hc,dig_to h2]; omega
theorem itoa_nc (n:Int):∀ c,c ∈ Lib.itoa n → c ≠ 44 := by
 have key:∀ u c,c ∈ Lib.decDigits u → c ≠ 44:=fun u c hc e => by
  have:=(dec_is u).2 c hc
  rw [e] at this
  exact absurd this.1 (by decide)
 intro c hc
 unfold Lib.itoa at hc
 split at hc
 ·rcases List.mem_cons.1 hc with rfl | hc
  ·decide
  ·exact key _ c hc
 ·exact key _ c hc
theorem itoa_inj {n m:Int} (h:Lib.itoa n = Lib.itoa m):n = m := by
 have key:∀ u v,Lib.decDigits u = Lib.decDigits v → u = v:=fun u v e => by rw [← (dec_is u).1,← (dec_is v).1,e]
 have nokey:∀ u v,45 :: Lib.decDigits u ≠ Lib.decDigits v:=fun u v e => by
  have:=(dec_is v).2 45 (by rw [← e]; simp)
  exact absurd this.1 (by decide)
 unfold Lib.itoa at h
 split at h <;> split at h
 ·injection h with _ h
  have:=key _ _ h
  omega
 ·exact absurd h (nokey _ _)
 ·exact absurd h.symm (nokey _ _)
 ·have:=key _ _ h
  omega
theorem head_eq {a b:List UInt8}:∀ {x y:List UInt8},(∀ c,c ∈ x → c ≠ 44) → (∀ c,c ∈ y → c ≠ 44) → (a = [] ∨ ∃ r,a = 44 :: r) → (b = [] ∨ ∃ r,b = 44 :: r) → x ++ a = y ++ b → x = y ∧ a = b
 | [],[],_,_,_,_,h => ⟨rfl,h⟩
 | [], c :: y, _, hy, ha, _, h => by
   rcases ha with rfl | ⟨r,rfl⟩
   ·exact absurd h (by simp)
   ·injection h with h1 _
    exact absurd h1.symm (hy c (by simp))
 | c :: x, [], hx, _, _, hb, h => by
   rcases hb with rfl | ⟨r,rfl⟩
   ·exact absurd h (by simp)
   ·injection h with h1 _
    exact absurd h1 (hx c (by simp))
 | c :: x, e :: y, hx, hy, ha, hb, h => by
   injection h with h1 h2
   obtain ⟨e1,e2⟩:=head_eq (fun c hc => hx c (by simp [hc])) (fun c hc => hy c (by simp [hc])) ha hb h2
   exact ⟨by rw [h1,e1],e2⟩
theorem keyF_at (l:List Int):keyF l = [] ∨ ∃ r,keyF l = 44 :: r := by
 cases l with
 | nil => exact .inl rfl
 | cons x l => exact .inr ⟨_,by unfold keyF; rw [List.flatMap_cons]; rfl⟩
theorem keyF_inj:∀ {a b:List Int},keyF a = keyF b → a = b
 | [],[],_ => rfl
 | [],y :: b,h => by unfold keyF at h; simp at h
 | x :: a,[],h => by unfold keyF at h; simp at h
 | x :: a, y :: b, h => by
   have e:∀ (x:Int) (a:List Int),keyF (x :: a) = 44 :: (Lib.itoa x ++ keyF a):=fun x a => by unfold keyF; rw [List.flatMap_cons]; rfl
   rw [e,e] at h
   injection h with _ h
   obtain ⟨e1,e2⟩:=head_eq (itoa_nc x) (itoa_nc y) (keyF_at a) (keyF_at b) h
   rw [itoa_inj e1,keyF_inj e2]
theorem keyL_inj {a b:List Int} (ha:a ≠ []) (hb:b ≠ []) (h:keyL a = keyL b):a = b := by
 have key:∀ {a:List Int},a ≠ [] → keyF a = 44 :: keyL a:=fun {a} ha => by
  cases a with
  | nil => exact absurd rfl ha
  | cons x a => unfold keyL keyF; rw [List.flatMap_cons]; rfl
 exact keyF_inj (by rw [key ha,key hb,h])
theorem key_iso {a b:Pl.Dg} (ha:Pl.Wf a) (hb:Pl.Wf b) (h:keyD a = keyD b):∃ σ,Pl.Iso a b σ := by
 obtain ⟨ps,p1,p2⟩:=Pl.code_ex ha
 obtain ⟨qs,q1,q2⟩:=Pl.code_ex hb
 unfold keyD at h
 rw [← codeD_is ha p1 p2,← codeD_is hb q1 q2] at h
 exact Pl.iso_of_code ha hb p1 q1 (keyL_inj (by unfold Pl.pcode; simp) (by unfold Pl.pcode; simp) h)
end Go.Proofs.YtghdiolnonejaaaGreatDoor
end
