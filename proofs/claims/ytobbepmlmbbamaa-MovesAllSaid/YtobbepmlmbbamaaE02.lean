/-
 The texts Reg, Wk, Drp, Prt, Slt.
-/
import Derived.Test.YtobbepmlmbbamaaE00
import Derived.BigQuiet
import Derived.Deep.DrawnRows
import Derived.Deep.Light
import Derived.Deep.LoopGhost
import Derived.Deep.QuietTactic
import Derived.Deep.RegionHeld3
import Derived.Deep.RegionWith
import Derived.Laws.AppendOwn
import Derived.Laws.MakeOwn
import Derived.Laws.OwnMore
import Derived.Laws.Rows
import Derived.Shelf.Spec.SlicesGrow
import Derived.StillTailTactics
import Derived.Test.YtobbepmlmbbamaaRows
set_option linter.unusedVariables false
set_option linter.unusedSimpArgs false
section
namespace Go.Proofs.Ytobbepmlmbbamaa
open Go.RowKit
structure Cls (C:World → Prop) where
 w:World
 ok:C w
theorem wp_region_cls {P:Program} (C:World → Prop) {id:Nat} {Q:Exit → Act → World → Prop} {a:Act} {w:World} {l:List Oper} (hm:P.follows .mixedOrders = true) (hB:Region.lexB .any l.toArray = true)
 (hC:C { w with drawn := w.drawn + 1 })
 (h:Nonempty (Cls C) → wpQuiet P l.toArray (fun w' => ∃ p:Cls C,w' = p.w) (fun a' => ∀ w',(∃ p:Cls C,w' = p.w) → Q .normal a' w') l a):(Code.region id l.toArray true).wp P Q a w :=
 wp_region_quiet (C := fun w' => ∃ p:Cls C,w' = p.w) hm hB ⟨⟨_,hC⟩,rfl⟩ (by simpa using h ⟨⟨_,hC⟩⟩)
theorem calls_cls {P:Program} {C:World → Prop} {f:FuncId} {args:Array Value} {w:World} {v:Value} {R:Ending → World → Prop} (h:Calls P f args w R) (hR:∀ e w',R e w' → e = .returned v ∧ C w') :
 Calls P f args w fun e w'' => e = .returned v ∧ ∃ p:Cls C,w'' = p.w :=
 h.mono fun e w' hr => let ⟨h1,h2⟩:=hR e w' hr; ⟨h1,⟨w',h2⟩,rfl⟩
end Go.Proofs.Ytobbepmlmbbamaa
end
section
namespace Go.Proofs.Ytobbepmlmbbamaa
open Go.RowKit
def ahd (gs:List Nat) (h k:Nat):Nat := ((gs.take k).filter (fun c => decide (c < h / 4))).length
theorem ahd_le (gs:List Nat) (h k:Nat):ahd gs h k ≤ k := by
 unfold ahd
 have:=List.length_filter_le (fun c => decide (c < h / 4)) (gs.take k)
 have:=List.length_take_le k gs
 omega
theorem ahd_succ {gs:List Nat} {k:Nat} (hk:k < gs.length) (h:Nat):ahd gs h (k + 1) = ahd gs h k + if gs.getD k 0 < h / 4 then 1 else 0 := by
 unfold ahd
 rw [List.take_succ_eq_append_getElem hk,List.filter_append,List.length_append,List.getD_eq_getElem?_getD,List.getElem?_eq_getElem hk]
 by_cases e:gs[k] < h / 4 <;> simp [List.filter_cons,e]
theorem ahd_all {gs:List Nat} {k:Nat} (hk:gs.length ≤ k) (h:Nat):ahd gs h k = (gs.filter (fun c => decide (c < h / 4))).length := by
 unfold ahd
 rw [List.take_of_length_le hk]
theorem nats_at {w:World} {A:Option Addr} {n k:Nat} {gs:List Nat} (h:IntsAt w A n (nats gs)) (hk:k < n) :
 ∃ b o,A = some ⟨b,o,none⟩ ∧ w.cell? ⟨b,o + k,none⟩ = some (.int .i64 (gs.getD k 0:Nat)) := by
 obtain ⟨b,o,e,hc⟩:=h.at_ hk
 refine ⟨b,o,e,hc.trans ?_⟩
 have hl:=h.len
 unfold nats at hl ⊢
 rw [List.length_map] at hl
 rw [List.getD_eq_getElem?_getD,List.getD_eq_getElem?_getD,List.getElem?_map,List.getElem?_eq_getElem (by omega)]; rfl
set_option maxRecDepth 100000 in
set_option maxHeartbeats 1000000 in
theorem shifted_any (gs:List Nat) (A:Option Addr) (n c h:Nat) (w:World) (hg:IntsAt w A n (nats gs)) (hn:n ≤ 100) (hh:h ≤ 100000) (hf:Pl.Few gs) :
 Calls Try.prog 82 #[.int .i64 (h:Int),.slice A n c] w fun e w' => e = .returned (.int .i64 (Pl.shf gs h:Nat)) ∧ w' = w := by
 have hl:=hg.len
 unfold nats at hl
 rw [List.length_map] at hl
 have HL:=hide hl
 have HG:=hide hg
 clear hl hg
 go_enter Try.func82,Try.ntmps82
 go_wp2
 go_loop [5,10] (fun b i => ∃ k:Nat,k ≤ n ∧ i = .int .i64 k ∧ b = .int .i64 (4 * (ahd gs h k:Nat))) (fun _ i => n - (intOf i).toNat)
 case atStart => exact ⟨0,by omega,rfl,rfl⟩
 case round =>
  obtain ⟨k,hk,rfl,rfl⟩:=hrel
  have hle:=ahd_le gs h k
  by_cases hlt:k < n
  ·obtain ⟨b,o,rfl,hc⟩:=nats_at HG.out hlt
   have HS:=hide (ahd_succ (gs := gs) (k := k) (by have := HL.out; omega) h)
   obtain ⟨x,hx⟩:∃ x,x = gs.getD k 0 := ⟨_,rfl⟩
   rw [← hx] at hc HS
   clear hx
   by_cases ht:x < h / 4
   ·have HT:=hide ht
    have t1:decide ((x:Int) < (h:Int) / 4) = true:=by simp; omega
    clear ht
    go_wp2
    go_round
    case rel => exact ⟨k + 1,by omega,by go_num,by rw [HS.out,if_pos HT.out]; go_num⟩
    case measure => simp [intOf]; omega
   ·have HT:=hide ht
    have t1:decide ((x:Int) < (h:Int) / 4) = false:=by simp; omega
    clear ht
    go_wp2
    go_round
    case rel => exact ⟨k + 1,by omega,by go_num,by rw [HS.out,if_neg HT.out]; go_num⟩
    case measure => simp [intOf]; omega
  ·go_wp2
   go_ret
   refine ⟨ret_int ?_,rfl⟩
   have h1:=ahd_all (gs := gs) (k := k) (by have := HL.out; omega) h
   have h2:=Pl.shf_le hf h
   unfold Pl.shf
   rw [h1]
   omega
end Go.Proofs.Ytobbepmlmbbamaa
end
section
namespace Go.Proofs.Ytobbepmlmbbamaa.Pl
theorem shf_two {x y h:Nat} (hxy:x < y):shf [x] (shf [y] h) = shf [x,y] h := by
 rw [shf_one,shf_one]
 unfold shf
 by_cases a:x < h / 4 <;> by_cases b:y < h / 4 <;> simp [List.filter_cons,a,b] <;> (try split) <;> omega
def up (y c:Nat):Nat := if c < y then c else c + 1
theorem mem_left {n c:Nat} {gs:List Nat} (h:c ∈ left n gs):c < n := by
 unfold left at h
 exact List.mem_range.1 (List.mem_filter.1 h).1
theorem map_up_lt {l:List Nat} {y:Nat} (h:∀ c,c ∈ l → c < y):l.map (up y) = l := by
 conv => rhs; rw [← List.map_id l]
 exact List.map_congr_left fun c hc => by unfold up; rw [if_pos (h c hc)]; rfl
theorem left_up {y:Nat}:∀ n,y ≤ n → left (n + 1) [y] = (List.range n).map (up y)
 | 0, h => by
   obtain rfl:y = 0 := by omega
   rfl
 | n + 1, h => by
   rcases Nat.lt_or_ge n y with q | q
   ·obtain rfl:y = n + 1 := by omega
    rw [left_succ,map_up_lt (fun c hc => List.mem_range.1 hc),left_none (fun k hk => by simp; omega)]
    simp
   ·rw [left_succ,left_up n q,List.range_succ (n := n),List.map_append]
    have e:([y]:List Nat).contains (n + 1) = false:=by simp; omega
    rw [e]
    simp only [Bool.false_eq_true,if_false,List.map_cons,List.map_nil]
    unfold up
    rw [if_neg (by omega)]
theorem left_up2 {x y:Nat} (hxy:x < y):∀ n,y ≤ n → left (n + 1) [x,y] = (left n [x]).map (up y)
 | 0,h => by omega
 | n + 1, h => by
   rcases Nat.lt_or_ge n y with q | q
   ·obtain rfl:y = n + 1 := by omega
    rw [left_succ,map_up_lt (fun c hc => mem_left hc)]
    have e:([x,n + 1]:List Nat).contains (n + 1) = true:=by simp
    rw [e]
    simp only [if_true,List.append_nil]
    unfold left
    exact List.filter_congr fun c hc => by
     have:=List.mem_range.1 hc
     have e2:([x,n + 1]:List Nat).contains c = ([x]:List Nat).contains c:=by
      rw [Bool.eq_iff_iff]; simp; omega
     rw [e2]
   ·rw [left_succ,left_up2 hxy n q,left_succ (n := n),List.map_append]
    have e:([x,y]:List Nat).contains (n + 1) = false:=by simp; omega
    have e2:([x]:List Nat).contains n = false:=by simp; omega
    rw [e,e2]
    simp only [Bool.false_eq_true,if_false,List.map_cons,List.map_nil]
    unfold up
    rw [if_neg (show ¬ n < y by omega)]
theorem flat_get (f:Nat → Nat):∀ (l:List Nat) (c i:Nat),i < 4 → (h:c < l.length) → (l.flatMap (four f)).getD (4 * c + i) 0 = f (4 * l[c] + i)
 | [],c,i,_,h => absurd h (Nat.not_lt_zero c)
 | a :: l, 0, i, hi, h => by
   rw [List.flatMap_cons,List.getD_eq_getElem?_getD,List.getElem?_append_left (by simp [four]; omega)]
   have:i = 0 ∨ i = 1 ∨ i = 2 ∨ i = 3:=by omega
   rcases this with rfl | rfl | rfl | rfl <;> simp [four]
 | a :: l, c + 1, i, hi, h => by
   have ih:=flat_get f l c i hi (by simpa using h)
   rw [List.getD_eq_getElem?_getD] at ih
   rw [List.flatMap_cons,List.getD_eq_getElem?_getD,List.getElem?_append_right (by simp [four]; omega)]
   rw [show 4 * (c + 1) + i - (four f a).length = 4 * c + i by simp [four]; omega,ih]
   simp
theorem drop2_S {sg:List Int} {x y:Nat} (hxy:x < y) (hy:y < sg.length):shrS [x] (shrS [y] sg) = shrS [x,y] sg := by
 obtain ⟨n,hn⟩:∃ n,sg.length = n + 1 := ⟨sg.length - 1,by omega⟩
 have e1:shrS [y] sg = (List.range n).map (fun c => sg.getD (up y c) 0):=by
  unfold shrS
  rw [hn,left_up n (by omega),List.map_map]; rfl
 rw [e1]
 unfold shrS
 rw [hn,left_up2 hxy n (by omega),List.map_map,List.length_map,List.length_range]
 refine List.map_congr_left fun c hc => ?_
 have:=mem_left hc
 show ((List.range n).map (fun c => sg.getD (up y c) 0)).getD c 0 = sg.getD (up y c) 0
 rw [List.getD_eq_getElem?_getD,List.getElem?_map,List.getElem?_range this]
 rfl
theorem drop2_M {mt:List Nat} {n x y:Nat} (hxy:x < y) (hy:y ≤ n):shrM [x] n (shrM [y] (n + 1) mt) = shrM [x,y] (n + 1) mt := by
 obtain ⟨M,hM⟩:∃ M,M = shrM [y] (n + 1) mt := ⟨_,rfl⟩
 have g:∀ c,c < n → ∀ i,i < 4 → shf [x] (M.getD (4 * c + i) 0) = shf [x,y] (mt.getD (4 * up y c + i) 0):=fun c hc i hi => by
  rw [hM]
  unfold shrM
  rw [left_up n hy,flat_get _ _ c i hi (by simpa using hc),shf_two hxy]
  simp
 rw [← hM]
 unfold shrM
 rw [left_up2 hxy n hy]
 have key:∀ l:List Nat,(∀ c,c ∈ l → c < n) → l.flatMap (four (fun h => shf [x] (M.getD h 0))) = (l.map (up y)).flatMap (four (fun h => shf [x,y] (mt.getD h 0))):=by
  intro l
  induction l with
  | nil => intro _; rfl
  | cons c l ih =>
    intro h
    have hc:=h c (by simp)
    rw [List.map_cons,List.flatMap_cons,List.flatMap_cons,ih (fun c hc => h c (by simp [hc]))]
    congr 1
    have g0:=g c hc 0 (by omega)
    rw [Nat.add_zero,Nat.add_zero] at g0
    show [shf [x] (M.getD (4 * c) 0),shf [x] (M.getD (4 * c + 1) 0),shf [x] (M.getD (4 * c + 2) 0),shf [x] (M.getD (4 * c + 3) 0)] = [shf [x,y] (mt.getD (4 * up y c) 0),shf [x,y] (mt.getD (4 * up y c + 1) 0),shf [x,y] (mt.getD (4 * up y c + 2) 0),shf [x,y] (mt.getD (4 * up y c + 3) 0)]
    rw [g0,g c hc 1 (by omega),g c hc 2 (by omega),g c hc 3 (by omega)]
 exact key _ (fun c hc => mem_left hc)
end Go.Proofs.Ytobbepmlmbbamaa.Pl
end
section
namespace Go.Proofs.Ytobbepmlmbbamaa.Pl
variable {d:Dg}
def lsum:List Int → Nat
 | [] => 0
 | z :: l => z.toNat + lsum l
theorem lsum_set:∀ (ps:List Int) (i:Nat) (v:Int),i < ps.length → lsum (ps.set i v) + (pv ps i).toNat = lsum ps + v.toNat
 | [],i,v,h => by simp at h
 | z :: l, 0, v, h => by
   simp only [List.set_cons_zero,lsum,pv,List.getD_cons_zero]; omega
 | z :: l, i + 1, v, h => by
   have:=lsum_set l i v (by simpa using h)
   simp only [List.set_cons_succ,lsum,pv,List.getD_cons_succ] at this ⊢; omega
def ids (n k:Nat):List Int := (List.range n).map (fun c => if c < k then (c:Int) else 0)
theorem ids_len (n k:Nat):(ids n k).length = n := by unfold ids; simp
theorem ids_zero (n:Nat):ids n 0 = List.replicate n 0 := by
 unfold ids
 refine List.ext_getElem (by simp) (fun i h1 h2 => ?_)
 simp
theorem ids_pv {n k c:Nat} (hc:c < n):pv (ids n k) c = if c < k then (c:Int) else 0 := by
 unfold pv ids
 rw [List.getD_eq_getElem?_getD,List.getElem?_map,List.getElem?_range hc]; rfl
theorem ids_get {n k i:Nat} (h:i < (ids n k).length):(ids n k)[i] = if i < k then (i:Int) else 0 := by simp [ids]
theorem ids_set {n k:Nat} (hk:k < n):(ids n k).set k (k:Int) = ids n (k + 1) := by
 refine List.ext_getElem (by rw [List.length_set,ids_len,ids_len]) (fun i h1 h2 => ?_)
 rw [List.getElem_set,ids_get,ids_get]
 by_cases e:k = i
 ·subst e; rw [if_pos rfl,if_pos (by omega)]
 ·rw [if_neg e]
  by_cases e2:i < k
  ·rw [if_pos e2,if_pos (by omega)]
  ·rw [if_neg e2,if_neg (by omega)]
structure PI (d:Dg) (ps:List Int):Prop where
 len:ps.length = d.n
 is:∀ c,c < d.n → ∃ b:Nat,pv ps c = b ∧ b ≤ c ∧ Comp d c b
theorem PI.start (d:Dg):PI d (ids d.n d.n) :=
 ⟨ids_len _ _,fun c hc => ⟨c,by rw [ids_pv hc,if_pos hc],Nat.le_refl _,.refl⟩⟩
theorem PI.nat {ps:List Int} (h:PI d ps) {c:Nat} (hc:c < d.n):0 ≤ pv ps c ∧ pv ps c ≤ c := by
 obtain ⟨b,h1,h2,_⟩:=h.is c hc
 omega
theorem comp_m (hd:Wf d) {h:Nat} (hh:h < 4 * d.n):Comp d (h / 4) (d.m h / 4) :=
 (con_comp hd hh (hd.lt h hh)).1 (Con.refl.right)
theorem PI.step (hd:Wf d) {ps:List Int} (h:PI d ps) {x:Nat} (hx:x < 4 * d.n) (hlt:pv ps (d.m x / 4) < pv ps (x / 4)):PI d (ps.set (x / 4) (pv ps (d.m x / 4))) ∧ lsum (ps.set (x / 4) (pv ps (d.m x / 4))) < lsum ps := by
 have hm:=hd.lt x hx
 have hl:x / 4 < ps.length:=by rw [h.len]; omega
 have h1:=h.nat (c := x / 4) (by omega)
 have h2:=h.nat (c := d.m x / 4) (by omega)
 refine ⟨⟨by rw [List.length_set,h.len],fun c hc => ?_⟩,by have := lsum_set ps (x / 4) (pv ps (d.m x / 4)) hl; omega⟩
 rw [pv_set hl]
 by_cases e:c = x / 4
 ·rw [if_pos e]
  obtain ⟨b,e1,e2,e3⟩:=h.is (d.m x / 4) (by omega)
  refine ⟨b,e1,by omega,?_⟩
  rw [e]
  exact (comp_m hd hx).trans e3
 ·rw [if_neg e]; exact h.is c hc
structure PB (d:Dg) (ps:List Int):Prop where
 len:ps.length = d.n
 is:∀ c,c < d.n → ∃ b:Nat,pv ps c = b ∧ b ≤ c ∧ Comp d c b
 same:∀ a b,a < d.n → Comp d a b → pv ps a = pv ps b
theorem PI.done (hd:Wf d) {ps:List Int} (h:PI d ps) (hs:∀ x,x < 4 * d.n → pv ps (x / 4) ≤ pv ps (d.m x / 4)):PB d ps := by
 refine ⟨h.len,h.is,fun a b ha e => ?_⟩
 have:=con_sub hd.hm (R := fun x y => pv ps (x / 4) = pv ps (y / 4)) ⟨fun _ _ => rfl,fun _ _ _ _ e => e.symm,fun _ _ _ _ _ _ e e' => e.trans e'⟩
  (fun x _ => by show pv ps (x / 4) = pv ps (rot x / 4); unfold rot; rw [tn_div]) (fun x hx => ?_) (x := 4 * a) (y := 4 * b) (by unfold dart; omega) e
 ·simpa [Nat.mul_div_cancel_left] using this
 ·have h1:=hs x hx
  have h2:=hs (d.m x) (hd.lt x hx)
  rw [hd.inv x hx] at h2
  exact Int.le_antisymm h1 h2
theorem PB.iff (hd:Wf d) {ps:List Int} (h:PB d ps) {a b:Nat} (ha:a < d.n) (hb:b < d.n):pv ps a = pv ps b ↔ Comp d a b := by
 refine ⟨fun e => ?_,h.same a b ha⟩
 obtain ⟨x,e1,e2,e3⟩:=h.is a ha
 obtain ⟨y,g1,g2,g3⟩:=h.is b hb
 have:x = y:=by omega
 subst this
 exact e3.trans (comp_symm hd hb g3)
theorem PB.root {ps:List Int} (h:PB d ps) {c:Nat} (hc:c < d.n):∃ b:Nat,pv ps c = b ∧ b < d.n ∧ pv ps b = b ∧ Comp d c b := by
 obtain ⟨b,h1,h2,h3⟩:=h.is c hc
 exact ⟨b,h1,by omega,by rw [← h.same c b hc h3,h1],h3⟩
theorem PB.rule (hd:Wf d) {ps:List Int} (h:PB d ps):(∀ c,c < d.n → pv ps c = c → nf d ps c (4 * d.n) = nv ps c d.n + 2) ↔ Rule d := by
 have key:∀ c p:Nat,c < d.n → pv ps c = p → nf d ps p (4 * d.n) = cnt (fun h => Least (nx d) h ∧ Comp d c (h / 4)) (4 * d.n) ∧ nv ps p d.n = cnt (fun b => Comp d c b) d.n:=by
  intro c p hc e
  have one:∀ b,b < d.n → (pv ps b = p ↔ Comp d c b):=fun b hb' => by
   rw [← h.iff hd hc hb',e]
   exact ⟨fun e => e.symm,fun e => e.symm⟩
  refine ⟨cnt_congr _ (fun x hx => ?_),cnt_congr _ (fun x hx => one x hx)⟩
  rw [one (x / 4) (by omega)]
 constructor
 ·intro h2 c hc
  obtain ⟨b,e1,e2,e3,e4⟩:=h.root hc
  obtain ⟨k1,k2⟩:=key c b hc e1
  have:=h2 b e2 e3
  omega
 ·intro h2 c hc e
  obtain ⟨k1,k2⟩:=key c c hc e
  rw [k1,k2]
  exact h2 c hc
def Fx (d:Dg) (ps es:List Int) (m:Nat):Prop := es.length = d.n ∧ ∀ p,p < d.n → pv es p = (nf d ps p m:Int)
def Cx (d:Dg) (ps es:List Int) (k:Nat):Prop := es.length = d.n ∧ ∀ p,p < d.n → pv es p = (nv ps p k:Int)
theorem rep_pv {n p:Nat} (hp:p < n):pv (List.replicate n 0) p = 0 := by
 unfold pv; rw [List.getD_eq_getElem?_getD,List.getElem?_replicate,if_pos hp]; rfl
theorem Fx.start (d:Dg) (ps:List Int):Fx d ps (List.replicate d.n 0) 0 := ⟨by simp,fun p hp => by rw [rep_pv hp]; simp [nf,cnt]⟩
theorem Cx.start (d:Dg) (ps:List Int):Cx d ps (List.replicate d.n 0) 0 := ⟨by simp,fun p hp => by rw [rep_pv hp]; simp [nv,cnt]⟩
theorem Fx.more {ps es:List Int} {m:Nat} (h:Fx d ps es m) {q:Nat} (hq:q < d.n) (e:pv ps (m / 4) = q) (hl:Least (nx d) m):Fx d ps (es.set q (pv es q + 1)) (m + 1) := by
 refine ⟨by rw [List.length_set,h.1],fun p hp => ?_⟩
 rw [pv_set (by rw [h.1]; exact hq)]
 have hp0:=h.2 p hp
 by_cases e2:p = q
 ·subst e2
  rw [if_pos rfl,hp0]
  unfold nf
  rw [cnt_step_pos ⟨hl,e⟩]; omega
 ·rw [if_neg e2,hp0]
  unfold nf
  rw [cnt_step_neg (fun e3 => e2 (by have := e3.2; rw [e] at this; omega))]
theorem Fx.same {ps es:List Int} {m:Nat} (h:Fx d ps es m) (hl:¬ Least (nx d) m):Fx d ps es (m + 1) := by
 refine ⟨h.1,fun p hp => ?_⟩
 rw [h.2 p hp]
 unfold nf
 rw [cnt_step_neg (fun e3 => hl e3.1)]
theorem Cx.more {ps es:List Int} {k:Nat} (h:Cx d ps es k) {q:Nat} (hq:q < d.n) (e:pv ps k = q):Cx d ps (es.set q (pv es q + 1)) (k + 1) := by
 refine ⟨by rw [List.length_set,h.1],fun p hp => ?_⟩
 rw [pv_set (by rw [h.1]; exact hq)]
 have hp0:=h.2 p hp
 by_cases e2:p = q
 ·subst e2
  rw [if_pos rfl,hp0]
  unfold nv
  rw [cnt_step_pos e]; omega
 ·rw [if_neg e2,hp0]
  unfold nv
  rw [cnt_step_neg (fun e3 => e2 (by rw [e] at e3; omega))]
theorem nf_le (d:Dg) (ps:List Int) (p:Nat):∀ m,nf d ps p m ≤ m := fun m => cnt_top _ m
theorem nv_le (ps:List Int) (p:Nat):∀ m,nv ps p m ≤ m := fun m => cnt_top _ m
theorem SI.all (hd:Wf d) {k p:Nat} {bs:List Bool} (h:SI d k p bs) (hp:Per (nx d) k p):SQ d (k + 1) bs := by
 refine h.done hd ?_
 have e:=hp.2.1
 have hl:=h.lt hd
 refine (h.iff _ hl).2 (.inr ⟨0,hp.1,?_⟩)
 rw [e]; rfl
end Go.Proofs.Ytobbepmlmbbamaa.Pl
end
section
namespace Go.Proofs.Ytobbepmlmbbamaa.Pl
section
variable {S:Nat → Prop} {r a t:Nat → Nat} {h0 h1 h2 p0 p1 p2 u0 u1 u2 v0 v1 v2:Nat}
theorem perm_flip:[u0,u1,u2,v0,v1,v2,h0,h1,h2,p0,p1,p2].Perm [h0,h1,h2,p0,p1,p2,u0,u1,u2,v0,v1,v2] :=
 List.perm_append_comm (l₁ := [u0,u1,u2,v0,v1,v2]) (l₂ := [h0,h1,h2,p0,p1,p2])
theorem Tri.flip (T:Tri S r a t h0 h1 h2 p0 p1 p2 u0 u1 u2 v0 v1 v2):Tri S r (cj t a) t u0 u1 u2 v0 v1 v2 h0 h1 h2 p0 p1 p2 := by
 refine ⟨fun x hx => T.mem x (perm_flip.mem_iff.1 hx),T.rp0,T.rp1,T.rp2,T.rh0,T.rh1,T.rh2,T.rv0,T.rv1,T.rv2,T.ru0,T.ru1,T.ru2,?_,?_,?_,?_,?_,?_,?_,T.th0,T.th1,T.th2,T.tv1,T.tv2,T.tv0,T.tp0,T.tp1,T.tp2,T.tu2,T.tu0,T.tu1,fun x hx => T.tx x (fun h => hx (perm_flip.mem_iff.2 h))⟩
 ·unfold cj; rw [T.tu0,T.ap1,T.th0]
 ·unfold cj; rw [T.tu1,T.ap2,T.th1]
 ·unfold cj; rw [T.tu2,T.ap0,T.th2]
 ·unfold cj; rw [T.tv1,T.ah0,T.tp1]
 ·unfold cj; rw [T.tv2,T.ah1,T.tp2]
 ·unfold cj; rw [T.tv0,T.ah2,T.tp0]
 ·exact perm_flip.nodup_iff.2 T.nd
end
structure Sj (N:Nat) (m f:Nat → Nat) (Ou In:Nat → Prop):Prop where
 lt:∀ x,x < N → m x < N
 inv:∀ x,x < N → m (m x) = x
 fl:∀ x,x < N → f x < N
 ff:∀ x,f (f x) = x
 fO:∀ x,Ou x → In (f x)
 fx:∀ x,¬ Ou x → ¬ In x → f x = x
 fI:∀ x,In x → Ou (f x)
 mI:∀ x,In x → In (m x)
 no:∀ x,Ou x → ¬ In x
variable {N:Nat} {m f:Nat → Nat} {Ou In:Nat → Prop}
theorem Sj.far (h:Sj N m f Ou In) {u:Nat} (hu:u < N) (ho:Ou u) (hm:¬ Ou (m u)):f (m u) = m u :=
 h.fx _ hm (fun hi => h.no u ho (by have := h.mI _ hi; rwa [h.inv u hu] at this))
theorem Sj.step (h:Sj N m f Ou In) {l:List Nat} {k:Nat} (hl:Half N m (cj f m) (fun x => ∃ u,u < k ∧ Ou u ∧ (x = f u ∨ x = f (m u))) l) (hk:k < N) (ho:Ou k) :
 Half N m (cj f m) (fun x => ∃ u,u < k + 1 ∧ Ou u ∧ (x = f u ∨ x = f (m u))) ((l.set (f k) (f (m k))).set (f (m k)) (f k)) := by
 refine (hl.join (h.fl _ hk) (h.fl _ (h.lt _ hk)) (by unfold cj; rw [h.ff]) (by unfold cj; rw [h.ff,h.inv k hk])).mono ?_
 rintro x ⟨u,hu,hou,hx⟩
 by_cases e:u = k
 ·subst e
  exact hx.elim (fun h => .inr (.inl h)) (fun h => .inr (.inr h))
 ·exact .inl ⟨u,by omega,hou,hx⟩
theorem Sj.skip {l:List Nat} {k:Nat} (hl:Half N m (cj f m) (fun x => ∃ u,u < k ∧ Ou u ∧ (x = f u ∨ x = f (m u))) l) (ho:¬ Ou k) :
 Half N m (cj f m) (fun x => ∃ u,u < k + 1 ∧ Ou u ∧ (x = f u ∨ x = f (m u))) l := by
 refine hl.mono ?_
 rintro x ⟨u,hu,hou,hx⟩
 by_cases e:u = k
 ·subst e; exact absurd hou ho
 ·exact ⟨u,by omega,hou,hx⟩
theorem Sj.all (h:Sj N m f Ou In) {l:List Nat} {W:Nat → Prop} (hl:Half N m (cj f m) W l) (hw:∀ u,u < N → Ou u → W (f u) ∧ W (f (m u)) ∧ W u):∀ x,x < N → l.getD x 0 = cj f m x := by
 refine hl.all (fun x hx => ?_)
 by_cases h1:Ou x
 ·exact .inl (hw x hx h1).2.2
 ·by_cases h2:In x
  ·have:=(hw (f x) (h.fl x hx) (h.fI x h2)).1
   rw [h.ff] at this
   exact .inl this
  ·have e:=h.fx x h1 h2
   by_cases h3:Ou (m x)
   ·have:=(hw (m x) (h.lt x hx) h3).2.1
    rw [h.inv x hx,e] at this
    exact .inl this
   ·have h4:¬ In (m x):=fun hi => h2 (by have := h.mI _ hi; rwa [h.inv x hx] at this)
    refine .inr ?_
    unfold cj
    rw [e,h.fx _ h3 h4]
end Go.Proofs.Ytobbepmlmbbamaa.Pl
end
