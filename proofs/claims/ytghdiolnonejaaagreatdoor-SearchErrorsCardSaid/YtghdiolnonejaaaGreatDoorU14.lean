/-
 The texts Xy, Ya, Ua, Ha, Lm, Ld.
-/
import Derived.Test.YtghdiolnonejaaaGreatDoorS00
import Derived.Test.YtghdiolnonejaaaGreatDoorS01
import Derived.Test.YtghdiolnonejaaaGreatDoorS02
import Derived.Test.YtghdiolnonejaaaGreatDoorS03
import Derived.Test.YtghdiolnonejaaaGreatDoorS04
import Derived.Test.YtghdiolnonejaaaGreatDoorS05
import Derived.Test.YtghdiolnonejaaaGreatDoorS07
import Derived.Test.YtghdiolnonejaaaGreatDoorU00
import Derived.Test.YtghdiolnonejaaaGreatDoorU01
import Derived.Test.YtghdiolnonejaaaGreatDoorU04
import Derived.Test.YtghdiolnonejaaaGreatDoorU06
import Derived.Test.YtghdiolnonejaaaGreatDoorU08
import Derived.Test.YtghdiolnonejaaaGreatDoorU09
import Derived.Test.YtghdiolnonejaaaGreatDoorU12
import Derived.BigQuiet
import Derived.Deep.AppendLies
import Derived.Deep.CutBlock
import Derived.Deep.CutRange
import Derived.Deep.DeepCutAuto
import Derived.Deep.DrawnRows
import Derived.Deep.Light
import Derived.Deep.LoopGhost
import Derived.Deep.QuietTactic
import Derived.Deep.RegionHeld3
import Derived.Deep.RegionLaw
import Derived.Deep.RegionWith
import Derived.Laws.AppendOwn
import Derived.Laws.MakeOwn
import Derived.Laws.OwnMore
import Derived.Laws.Rows
import Derived.Laws.Slices
import Derived.Lib.ItoaNum
import Derived.Maps.AppendAt
import Derived.Outline
import Derived.RegionTactic
import Derived.Shelf.Spec.SlicesGrow
import Derived.StillTailTactics
import Derived.Test.YtghdiolnonejaaaGreatDoorRows
import Derived.Test.YtghdiolnonejaaaGreatDoorShelf
import Derived.WalkKit
import Derived.WalkLawsBesides
import Derived.WalkSpells
set_option linter.unusedVariables false
set_option linter.unusedSimpArgs false
section
namespace Go.Proofs.YtghdiolnonejaaaGreatDoor
open Go Go.RowKit
attribute [local go_sem ↓] Go.wp_at_zero Go.wp_at_succ
section
variable {w W W' W2:World} {vR vS:Value} {rs ss:List Mv} {m:Mv} {g n c:Nat}
theorem apart {v u:Value} (ne:∀ g,v.ownBlock = some g → u.ownBlock = some g → False):u.ownBlock = none ∨ u.ownBlock ≠ v.ownBlock := by
 cases hu:u.ownBlock with
 | none => exact .inl rfl
 | some g => exact .inr (fun e => ne g e.symm hu)
end
theorem pkN_len (x y:Int):∀ k,(pkN x y k).length ≤ 2 * k
 | 0 => Nat.le_refl _
 | k + 1 => by
   have a:=pkN_len x y k
   show (pkN x y k ++ [_,_]).length ≤ _
   rw [List.length_append]
   simp only [List.length_cons,List.length_nil]
   omega
theorem pkNY_len (x:Int):∀ k,(pkNY x k).length ≤ 6 * k
 | 0 => Nat.le_refl _
 | k + 1 => by
   have a:=pkNY_len x k
   have b:=pkN_len x ((k:Int) - 2) 3
   show (pkNY x k ++ pkN x ((k:Int) - 2) 3).length ≤ _
   rw [List.length_append]
   omega
theorem pkNX_len {n:Nat} (hn:n ≤ 64):∀ k,(pkNX n k).length ≤ 1548 * k
 | 0 => Nat.le_refl _
 | k + 1 => by
   have a:=pkNX_len hn k
   have b:=pkNY_len ((k:Int) - 2) (4 * n + 2)
   show (pkNX n k ++ pkNY ((k:Int) - 2) (4 * n + 2)).length ≤ _
   rw [List.length_append]
   omega
theorem allL_le {d:Pl.Dg} (hn:d.n ≤ 64):(allL d).length ≤ 500000 := by
 have a:=cu_le (d := d) hn
 have b:=un_le (d := d) hn
 have c:=sel_len d (pkNX d.n (4 * d.n + 2))
 have c2:=pkNX_len hn (4 * d.n + 2)
 have e:=up_le (d := d) hn
 have f:=slL_len d (4 * d.n)
 unfold allL
 simp only [List.length_append]
 omega
theorem remL_le {d:Pl.Dg} (hn:d.n ≤ 64):(remL d).length ≤ 5000 := by
 have b:=un_le (d := d) hn
 have e:=up_le (d := d) hn
 unfold remL
 rw [List.length_append]
 omega
end Go.Proofs.YtghdiolnonejaaaGreatDoor
end
section
namespace Go.Proofs.YtghdiolnonejaaaGreatDoor
open Go Go.RowKit
attribute [local go_sem ↓] Go.wp_at_zero Go.wp_at_succ
structure CB (W:World) (g1 g2:Nat) (n:Nat) (most:Int):Prop where
 n:Row W g1 3 [.int .i64 (n:Int)]
 m:Row W g2 3 [.int .i64 most]
theorem CB.below {W W':World} {g1 g2 n:Nat} {most:Int} (h:CB W g1 g2 n most) (hb:Below W.heap.size W W'):CB W' g1 g2 n most := ⟨h.n.below hb,h.m.below hb⟩
def idxD (p:Mv → Bool):List Mv → Option Nat
 | [] => none
 | z :: l => if p z then some 0 else (idxD p l).map (· + 1)
theorem idxD_none {p:Mv → Bool}:∀ {l:List Mv},(∀ (j:Nat) (z:Mv),l[j]? = some z → p z = false) → idxD p l = none
 | [],_ => rfl
 | z :: l, h => by
   unfold idxD
   rw [if_neg (by rw [h 0 z rfl]; decide),idxD_none (l := l) (fun j y hy => h (j + 1) y hy)]
   rfl
theorem idxD_some {p:Mv → Bool}:∀ {l:List Mv} {q:Nat} {z:Mv},l[q]? = some z → p z = true → (∀ (j:Nat) (y:Mv),j < q → l[j]? = some y → p y = false) → idxD p l = some q
 | [],q,z,hz,_,_ => by cases hz
 | y :: l, 0, z, hz, hp, _ => by
   obtain rfl:y = z := by simpa using hz
   unfold idxD
   rw [if_pos hp]
 | y :: l, q + 1, z, hz, hp, h => by
   unfold idxD
   rw [if_neg (by rw [h 0 y (by omega) rfl]; decide),idxD_some (l := l) (q := q) (z := z) hz hp (fun j u hj hu => h (j + 1) u (by omega) hu)]
   rfl
def IdxPost (p:Mv → Bool) (ms:List Mv) (w:World) (e:Ending) (w':World):Prop := ((idxD p ms = none ∧ e = .returned (.int .i64 (-1))) ∨ ∃ i,idxD p ms = some i ∧ i < ms.length ∧ e = .returned (.int .i64 (i:Int))) ∧ Below w.heap.size w w'
theorem set5 (m:Mv) (r:List Value) (j:Nat) (v:Value):(m.cells ++ r).set (j + 5) v = m.cells ++ r.set j v := rfl
theorem mvs_set:∀ (R:List Mv) (i:Nat) (z:Mv),i < R.length → (((((mvs R).set (i * 5) (.int .i64 z.kind)).set (i * 5 + 1) (.int .i64 z.x)).set (i * 5 + 2) (.int .i64 z.y)).set (i * 5 + 3) (.int .i64 z.sign)).set (i * 5 + 4) (.bool z.over) = mvs (R.set i z)
 | [],i,z,h => absurd h (by simp)
 | m :: R,0,z,_ => rfl
 | m :: R, i + 1, z, h => by
   have ih:=mvs_set R i z (by simpa using h)
   show (((((m.cells ++ mvs R).set ((i + 1) * 5) (.int .i64 z.kind)).set ((i + 1) * 5 + 1) (.int .i64 z.x)).set ((i + 1) * 5 + 2) (.int .i64 z.y)).set ((i + 1) * 5 + 3) (.int .i64 z.sign)).set ((i + 1) * 5 + 4) (.bool z.over) = m.cells ++ mvs (R.set i z)
   rw [← ih]
   have a0:(i + 1) * 5 = i * 5 + 5:=by omega
   have a1:i * 5 + 5 + 1 = (i * 5 + 1) + 5:=by omega
   have a2:i * 5 + 5 + 2 = (i * 5 + 2) + 5:=by omega
   have a3:i * 5 + 5 + 3 = (i * 5 + 3) + 5:=by omega
   have a4:i * 5 + 5 + 4 = (i * 5 + 4) + 5:=by omega
   rw [a0,a1,a2,a3,a4,set5,set5,set5,set5,set5]
theorem own_moves_set {W:World} {b g n c:Nat} {R:List Mv} (h:W.ownsRow b 43 5 (.slice (some ⟨g,0,none⟩) n c) n (mvs R)) (i:Nat) (z:Mv) (hi:i < R.length) :
 (((((W.setCell ⟨g,i * 5,none⟩ (.int .i64 z.kind)).setCell ⟨g,i * 5 + 1,none⟩ (.int .i64 z.x)).setCell ⟨g,i * 5 + 2,none⟩ (.int .i64 z.y)).setCell ⟨g,i * 5 + 3,none⟩ (.int .i64 z.sign)).setCell ⟨g,i * 5 + 4,none⟩ (.bool z.over)).ownsRow b 43 5 (.slice (some ⟨g,0,none⟩) n c) n (mvs (R.set i z)) := by
 rw [← mvs_set R i z hi]
 exact ((((h.stored _ _).1.stored _ _).1.stored _ _).1.stored _ _).1.stored _ _ |>.1
theorem own_setCells {b g n c:Nat}:∀ (vs:List Value) (o:Nat) (W:World) (xs:List Value),W.ownsRow b 43 5 (.slice (some ⟨g,0,none⟩) n c) n xs → ∃ ys,(W.setCells g o vs).ownsRow b 43 5 (.slice (some ⟨g,0,none⟩) n c) n ys ∧ ys.take o = xs.take o
 | [],o,W,xs,h => ⟨xs,h,rfl⟩
 | v :: r, o, W, xs, h => by
   obtain ⟨ys,h1,h2⟩:=own_setCells r (o + 1) (W.setCell ⟨g,o,none⟩ v) (xs.set o v) (h.stored o v).1
   refine ⟨ys,h1,?_⟩
   have e:(ys.take (o + 1)).take o = ((xs.set o v).take (o + 1)).take o:=by rw [h2]
   rw [List.take_take,List.take_take,Nat.min_eq_left (by omega)] at e
   rw [e,List.take_set_of_le (Nat.le_refl _)]
theorem own_prefix {W:World} {b g n c i:Nat} {xs:List Value} (h:W.ownsRow b 43 5 (.slice (some ⟨g,0,none⟩) n c) n xs) (hi:i ≤ n):W.ownsRow b 43 5 (.slice (some ⟨g,0,none⟩) i c) i (xs.take (i * 5)) := by
 have hl:=h.1
 rcases h.2 with ⟨h1,_⟩ | ⟨g',cap,cur,h1,h2,h3,h4,h5,h6,h7⟩
 ·cases h1
 ·injection h1 with e1 e2 e3
  injection e1 with e1
  injection e1 with e1
  subst e1 e3
  refine ⟨by rw [List.length_take]; omega,.inr ⟨g,c,cur,rfl,h2,h3,by omega,h5,h6,?_⟩⟩
  rw [← h7,List.take_take,Nat.min_eq_left (by omega)]
theorem mvs_take:∀ (R:List Mv) (i:Nat),(mvs R).take (i * 5) = mvs (R.take i)
 | [],i => by simp [mvs]
 | m :: R,0 => by simp [mvs]
 | m :: R, i + 1 => by
   have ih:=mvs_take R i
   show (m.cells ++ mvs R).take ((i + 1) * 5) = m.cells ++ mvs (R.take i)
   have e:m.cells.length = 5:=rfl
   rw [List.take_append,e,show (i + 1) * 5 - 5 = i * 5 by omega,ih,List.take_of_length_le (by omega)]
theorem below_cells {B g:Nat} {a:World} (hg:B ≤ g):∀ (vs:List Value) (o:Nat) (W:World),Below B a W → Below B a (W.setCells g o vs)
 | [],_,_,h => h
 | v :: r,o,W,h => below_cells hg r (o + 1) _ (h.setCell (by show B ≤ g; exact hg) v)
theorem run_clear_moves (w:World) (ty:TypeId) (g o n c:Nat) (hn:0 < n) (hc:∀ j,j < n * 5 → (w.cell? ⟨g,o + j,none⟩).isSome = true) (hf:∀ j,j < n * 5 → w.frozen? ⟨g,o + j,none⟩ = false) :
 ∃ vs:List Value,(Builtin.clear_ #[27] ty #[.slice (some ⟨g,o,none⟩) n c]).run Tryz.prog w = .ok (.tuple #[]) (w.setCells g o vs) := by
 have hzv:(zeroValue 43).run Tryz.prog w = .ok (.agg #[.int .i64 0,.int .i64 0,.int .i64 0,.int .i64 0,.bool false]) w:=by kernel_rfl
 have hz5:∀ i,(#[Value.int .i64 0,.int .i64 0,.int .i64 0,.int .i64 0,.bool false][i % 5]!).oneCell' = true:=by
  intro i
  have:i % 5 = 0 ∨ i % 5 = 1 ∨ i % 5 = 2 ∨ i % 5 = 3 ∨ i % 5 = 4:=by omega
  rcases this with h | h | h | h | h <;> rw [h] <;> rfl
 have hst:=run_storeCells_cells (P := Tryz.prog) g o (Builtin.zeroCells #[.int .i64 0,.int .i64 0,.int .i64 0,.int .i64 0,.bool false] n).toList 0 w (by simpa [Builtin.zeroCells] using hc) (by simpa [Builtin.zeroCells] using hf) (by
  intro v hv
  simp only [Builtin.zeroCells,Array.toList_map,List.mem_map] at hv
  obtain ⟨i,_,rfl⟩:=hv
  exact hz5 i)
 simp only [Nat.add_zero] at hst
 refine ⟨(Builtin.zeroCells #[.int .i64 0,.int .i64 0,.int .i64 0,.int .i64 0,.bool false] n).toList,?_⟩
 obtain ⟨m,rfl⟩:∃ m,n = m + 1 := ⟨n - 1,by omega⟩
 unfold Builtin.clear_
 simp [run_underlying Tryz.underlying27,hzv,Value.cells,hst,Result.andThen]
end Go.Proofs.YtghdiolnonejaaaGreatDoor
end
section
namespace Go.Proofs.YtghdiolnonejaaaGreatDoor
open Go Go.RowKit
attribute [local go_sem ↓] Go.wp_at_zero Go.wp_at_succ
theorem elemI:Tryz.prog.underlying 22 = some (.slice (Tryz.prog.elem 22)) := by kernel_rfl
theorem sizeI (W:World):(sizeOf (Tryz.prog.elem 22)).run Tryz.prog W = .ok 1 W := by kernel_rfl
theorem cut_hi {w:World} {A:Option Addr} {n c:Nat} {xs:List Int} (h:IntsAt w A n xs) {k:Nat} (hk:k ≤ n) (hc:n ≤ c) :
 ∃ A1:Option Addr,IntsAt w A1 (n - k) (xs.drop k) ∧ ∀ W:World,(Instr.slice 22 (.slice A n c) (some (.int .i64 (k:Int))) none none).run Tryz.prog W = .ok (.slice A1 (n - k) (c - k)) W := by
 have hl:=h.len
 refine ⟨if c = k then A else A.map (·.add (k * 1)),⟨by simp; omega,fun hp => ?_⟩,fun W => ?_⟩
 ·obtain ⟨b,o,rfl,hx⟩:=h.2 (by omega)
  rw [if_neg (by omega)]
  refine ⟨b,o + k,by simp [Addr.add_lit],fun j u hu => ?_⟩
  rw [List.map_drop,List.getElem?_drop] at hu
  rw [Nat.add_assoc]
  exact hx _ u hu
 ·rw [run_slice_l W 22 A n c elemI .i64 (k:Int) (by omega) (by omega),sizeI]
  rfl
section
variable {P:Program} (w:World)
end
end Go.Proofs.YtghdiolnonejaaaGreatDoor
end
section
namespace Go.Proofs.YtghdiolnonejaaaGreatDoor
open Go Go.RowKit
def keyF (l:List Int):List UInt8 := l.flatMap (fun v => 44 :: Lib.itoa v)
def keyL (l:List Int):List UInt8 := (keyF l).drop 1
theorem keyF_app (a b:List Int):keyF (a ++ b) = keyF a ++ keyF b := by unfold keyF; rw [List.flatMap_append]
theorem keyL_one (x:Int):keyL [x] = Lib.itoa x := by unfold keyL keyF; simp
theorem keyL_snoc {a:List Int} (h:a ≠ []) (x:Int):keyL (a ++ [x]) = keyL a ++ 44 :: Lib.itoa x := by
 unfold keyL
 rw [keyF_app,List.drop_append_of_le_length]
 ·unfold keyF; simp
 ·cases a with
  | nil => exact absurd rfl h
  | cons y l => unfold keyF; simp
open Classical in
noncomputable def codeD (d:Pl.Dg):List Int := if h:∃ ps,Pl.Pcs d ps ∧ Pl.Srt ps then Pl.pcode d.lp h.choose else []
theorem codeD_is {d:Pl.Dg} (hd:Pl.Wf d) {ps:List Pl.Pc} (hp:Pl.Pcs d ps) (hs:Pl.Srt ps):Pl.pcode d.lp ps = codeD d := by
 have h:∃ ps,Pl.Pcs d ps ∧ Pl.Srt ps:=⟨ps,hp,hs⟩
 unfold codeD
 rw [dif_pos h]
 exact (Pl.Iso.refl d).pcode hd hd hp h.choose_spec.1 hs h.choose_spec.2
noncomputable def keyD (d:Pl.Dg):List UInt8 := keyL (codeD d)
structure Nd where
 d:Pl.Dg
 m:Mv
 fr:Int
 s:Nat
def nd0 (d:Pl.Dg):Nd := ⟨d,⟨0,0,0,0,false⟩,-1,0⟩
noncomputable def nd1 (i:Nat) (a:Nd) (z:Mv):Nd := ⟨apD a.d z,z,i,a.s + 1⟩
noncomputable def keysL (l:List Nd):List (List UInt8) := l.map (fun x => keyD x.d)
open Classical in
noncomputable def inn (i:Nat) (a:Nd):List Mv → List Nd → List Nd × Nat
 | [],l => (l,0)
 | z :: r, l =>
   if keyD (apD a.d z) ∈ keysL l then inn i a r l
   else if l.length = 300 then (l,1)
   else if remL (apD a.d z) = [] then inn i a r (l ++ [nd1 i a z])
   else (l ++ [nd1 i a z],2)
section
variable {i:Nat} {a:Nd} {z:Mv} {r:List Mv} {l:List Nd}
end
noncomputable def slD (d:Pl.Dg):List Mv := slL d (4 * d.n)
open Classical in
noncomputable def outr (k:Nat):Nat → Nat → List Nd → List Nd × Nat
 | 0,_,l => (l,1)
 | f + 1, i, l => match l[i]? with
   | none => (l,1)
   | some a => if k ≤ a.s then outr k f (i + 1) l
     else if (inn i a (slD a.d) l).2 = 0 then outr k f (i + 1) (inn i a (slD a.d) l).1
     else inn i a (slD a.d) l
section
variable {k f i:Nat} {a:Nd} {l:List Nd}
end
def pthR (l:List Nd):Nat → Nat → List Mv
 | 0,_ => []
 | f + 1, j => match l[j]? with
   | none => []
   | some a => if a.fr < 0 then [] else a.m :: pthR l f a.fr.toNat
def pt (l:List Nd) (j:Nat):List Mv := pthR l (j + 1) j
noncomputable def srR (k:Nat) (d:Pl.Dg):List Nd × Nat := outr k 301 0 [nd0 d]
noncomputable def srB (k:Nat) (d:Pl.Dg):Bool := (srR k d).2 == 2
noncomputable def srD (k:Nat) (d:Pl.Dg):Pl.Dg := (((srR k d).1.getLast?).getD (nd0 d)).d
noncomputable def srP (k:Nat) (d:Pl.Dg):List Mv := (pt (srR k d).1 ((srR k d).1.length - 1)).reverse
noncomputable def rd (k:Nat):Nat → Pl.Dg → Pl.Dg × List Mv
 | 0,d => (d,[])
 | f + 1,d => if srB k d = true then ((rd k f (dnD (srD k d))).1,srP k d ++ (dnM (srD k d) ++ (rd k f (dnD (srD k d))).2)) else (d,[])
end Go.Proofs.YtghdiolnonejaaaGreatDoor
end
section
namespace Go.Proofs.YtghdiolnonejaaaGreatDoor
open Go Go.RowKit
attribute [local go_sem ↓] Go.wp_at_zero Go.wp_at_succ
theorem rem_kinds {d:Pl.Dg} {k x y s:Int} {o:Bool} (h:(⟨k,x,y,s,o⟩:Mv) ∈ remL d):apC d ⟨k,x,y,s,o⟩ = 0 ∧ inR d.n ⟨k,x,y,s,o⟩ ∧ 0 ≤ x ∧ 0 ≤ y ∧ (k = 2 ∨ k = 4) := by
 obtain ⟨h1,h2⟩:=rem_ok h
 have hin:=(apC_zero h1).2.1
 refine ⟨h1,hin,?_,?_,h2⟩
 ·rcases h2 with h2 | h2
  ·have hk:k = 2:=h2
   subst hk
   have h3:0 ≤ x ∧ x < d.n ∧ y = 0 ∧ s = 0 ∧ o = false:=hin
   exact h3.1
  ·have hk:k = 4:=h2
   subst hk
   have h3:0 ≤ x ∧ x < y ∧ y < d.n ∧ s = 0 ∧ o = false:=hin
   exact h3.1
 ·rcases h2 with h2 | h2
  ·have hk:k = 2:=h2
   subst hk
   have h3:0 ≤ x ∧ x < d.n ∧ y = 0 ∧ s = 0 ∧ o = false:=hin
   omega
  ·have hk:k = 4:=h2
   subst hk
   have h3:0 ≤ x ∧ x < y ∧ y < d.n ∧ s = 0 ∧ o = false:=hin
   omega
theorem apply_rem (r:Pl.Dg) (hr:Pl.Valid r) (A B:Option Addr) (n cp cq m lp:Nat) (k x y s:Int) (o:Bool) (w:World) (hn:n = r.n) (hm:m = 4 * r.n) (hl:lp = r.lp) (hg:DgAt w A B r) (h:(⟨k,x,y,s,o⟩:Mv) ∈ remL r) :
 Calls Tryz.prog 26 #[.agg #[.slice A n cp,.slice B m cq,.int .i64 (lp:Int)],.agg #[.int .i64 k,.int .i64 x,.int .i64 y,.int .i64 s,.bool o]] w (ResC (apC r ⟨k,x,y,s,o⟩) (apD r ⟨k,x,y,s,o⟩) (apI r ⟨k,x,y,s,o⟩) w) := by
 subst hn
 subst hl
 obtain ⟨h1,hin,hx,hy,hk⟩:=rem_kinds h
 obtain ⟨a,rfl⟩:=Int.eq_ofNat_of_zero_le hx
 obtain ⟨b,rfl⟩:=Int.eq_ofNat_of_zero_le hy
 rcases hk with rfl | rfl
 ·have e:apC r ⟨2,(a:Int),(b:Int),s,o⟩ = uncC r a:=by rw [apC_in (show (1:Int) ≤ 2 ∧ (2:Int) ≤ 5 by decide) hin]; rfl
  rw [e]
  exact apply_2 r hr A B cp cq m a b s o w hm hg hin
 ·have e:apC r ⟨4,(a:Int),(b:Int),s,o⟩ = unpC r a b:=by rw [apC_in (show (1:Int) ≤ 4 ∧ (4:Int) ≤ 5 by decide) hin]; rfl
  rw [e]
  exact apply_4 r hr A B cp cq m a b s o w hm hg hin
theorem Removing_n (r:Pl.Dg) (hr:Pl.Valid r) (A B:Option Addr) (n cp cq m lp:Nat) (w:World) (hn:n = r.n) (hm:m = 4 * r.n) (hl:lp = r.lp) (hg:DgAt w A B r) :
 Calls Tryz.prog 29 #[.agg #[.slice A n cp,.slice B m cq,.int .i64 (lp:Int)]] w fun e w' => ∃ v,e = .returned v ∧ MovesIn w.heap.size w' v (remL r) ∧ Below w.heap.size w w' := by
 subst hn
 subst hl
 exact Removing_any r hr A B cp cq m w hm hg
end Go.Proofs.YtghdiolnonejaaaGreatDoor
end
section
namespace Go.Proofs.YtghdiolnonejaaaGreatDoor
open Go Go.RowKit
attribute [local go_sem ↓] Go.wp_at_zero Go.wp_at_succ
structure AR (w:World) (dv:List Value) (b:Nat) (v:Value) (ms:List Mv) (R:Option Addr) (nr:Nat) (rs:List Mv) (W:World):Prop where
 al:AL w dv b v ms W
 rv:MovesV W R nr rs
 ne:∀ g,0 < nr → R = some ⟨g,0,none⟩ → some g ≠ v.ownBlock
section
variable {w W W':World} {dv:List Value} {b nr:Nat} {v v':Value} {ms ms' rs:List Mv} {R:Option Addr}
end
end Go.Proofs.YtghdiolnonejaaaGreatDoor
end
