/-
 The texts Vm, Sa, Jx, Xn.
-/
import Derived.Test.YtghdiolnonejaaaGreatDoorS02
import Derived.Test.YtghdiolnonejaaaGreatDoorS14
import Derived.ChangeSame
import Derived.ChangeSlices
import Derived.Deep.AppendLies
import Derived.Deep.CutBlock
import Derived.Deep.CutRange
import Derived.Deep.DeepCutAuto
import Derived.Deep.Fields
import Derived.Deep.RegionLaw
import Derived.Deep.Slices
import Derived.Deep.Strs
import Derived.Laws.Slices
import Derived.Maps.AppendAt
import Derived.OpenShut
import Derived.Outline
import Derived.ProofKit
import Derived.RegionTactic
set_option linter.unusedVariables false
set_option linter.unusedSimpArgs false
section
namespace Go.Proofs.YtghdiolnonejaaaGreatDoor
open Go Go.RowKit
theorem ints_one (ys:List Int):∀ u ∈ ys.map (Value.int .i64),u.oneCell' = true := by
 intro u hu
 obtain ⟨x,_,rfl⟩:=List.mem_map.1 hu
 rfl
section
variable {P:Program} (w:World)
theorem run_append_int (base:Nat) (t ty e:TypeId) (i:TypeInfo) (z:Value) (bytes:Nat) (ht:P.underlying t = some (.slice e)) (hi:P.info? e = some i) (hz:i.zero = some z)
 (hsize:i.size = 1) (hby:i.bytes = bytes) (hzs:z.cells.size = 1)
 (v:Value) (n:Nat) (xs:List Value) (hown:w.ownsRow base e 1 v n xs)
 (A:Option Addr) (m c:Nat) (ys:List Int) (hin:IntsAt w A m ys)
 (h63:n + m ≤ maxLen) (hbytes:(n + m) * bytes ≤ 140737488355328) (hbase:base ≤ w.heap.size) :
 ∃ v' w',(Builtin.append_ #[t,t] ty #[v,.slice A m c]).run P w = .ok v' w' ∧ w'.ownsRow base e 1 v' (n + m) (xs ++ ys.map (.int .i64)) ∧ w.grownBy w' v.ownBlock := by
 have hl:=hin.len
 rcases Nat.eq_zero_or_pos m with h0 | h0
 ·subst h0
  obtain rfl:ys = [] := List.eq_nil_of_length_eq_zero (by omega)
  have hr:(Builtin.append_ #[t,t] ty #[v,.slice A 0 c]).run P w = .ok v w:=by
   rcases hown.2 with ⟨rfl,rfl⟩ | ⟨g,cap,cur,rfl,_,_,hnc,_⟩
   ·cases A <;> simp [Builtin.append_,run_underlying ht,sizeOf,typeInfo,hi,Builtin.lenOf,Builtin.firstCells,loadCells,loadCellsFrom]
   ·cases A <;> simp [Builtin.append_,run_underlying ht,sizeOf,typeInfo,hi,Builtin.lenOf,Builtin.firstCells,hnc,storeCells,loadCells,loadCellsFrom]
  refine ⟨v,w,hr,by simpa using hown,⟨rfl,rfl,rfl,Nat.le_refl _,fun _ _ _ => rfl⟩⟩
 ·obtain ⟨b,o,rfl,hc⟩:=hin.2 h0
  obtain ⟨v',w',hr,h2,h3,_⟩:=run_append_own (P := P) w base t ty e i z 1 bytes ht hi hz hsize hby hzs (by omega) v n xs hown ⟨b,o,none⟩ m c (ys.map (.int .i64)) (by simpa using hl) (fun j u hu => by
   have:(⟨b,o,none⟩:Addr).add j = ⟨b,o + j,none⟩:=by unfold Addr.add; split <;> simp_all
   rw [this]; exact hc j u hu) (ints_one ys) h63 hbytes hbase
  exact ⟨v',w',hr,h2,h3⟩
theorem wp_append_int {o:Oper} {a:Act} {K:Act → World → Prop} {Q:Exit → Act → World → Prop} (s x:Operand) (t:TypeId)
 (ho:o.op = .call { callee := .builtin .append,args := #[s,x],argTypes := #[t,t] })
 (base:Nat) (e:TypeId) (i:TypeInfo) (z:Value) (bytes:Nat) (ht:P.underlying t = some (.slice e)) (hi:P.info? e = some i) (hz:i.zero = some z)
 (hsize:i.size = 1) (hby:i.bytes = bytes) (hzs:z.cells.size = 1)
 (v:Value) (n:Nat) (xs:List Value) (hs:a.eval s = v) (hown:w.ownsRow base e 1 v n xs)
 (A:Option Addr) (m c:Nat) (ys:List Int) (hx:a.eval x = .slice A m c) (hin:IntsAt w A m ys)
 (h63:n + m ≤ maxLen) (hbytes:(n + m) * bytes ≤ 140737488355328) (hbase:base ≤ w.heap.size)
 (h:∀ v' w',w'.ownsRow base e 1 v' (n + m) (xs ++ ys.map (.int .i64)) → w.grownBy w' v.ownBlock → K (a.put o.dst v') w'):o.wp P a w K Q := by
 obtain ⟨v',w',hr,h2,h3⟩:=run_append_int (P := P) w base t o.type e i z bytes ht hi hz hsize hby hzs v n xs hown A m c ys hin h63 hbytes hbase
 unfold Oper.wp execOp
 simp only [ho,resolve,invoke,builtin,Sem.run_bind,Sem.run_pure,Result.andThen_ok,List.map_toArray,List.map_cons,List.map_nil,hs,hx,hr]
 exact h v' w' h2 h3
theorem wpList_append_int {ops:Array Oper} {rest:List Oper} {o:Oper} {a:Act} {Q:Exit → Act → World → Prop} (hgd:o.guard = none) (s x:Operand) (t:TypeId)
 (ho:o.op = .call { callee := .builtin .append,args := #[s,x],argTypes := #[t,t] })
 (base:Nat) (e:TypeId) (i:TypeInfo) (z:Value) (bytes:Nat) (ht:P.underlying t = some (.slice e)) (hi:P.info? e = some i) (hz:i.zero = some z)
 (hsize:i.size = 1) (hby:i.bytes = bytes) (hzs:z.cells.size = 1)
 (v:Value) (n:Nat) (xs:List Value) (hs:a.eval s = v) (hown:w.ownsRow base e 1 v n xs)
 (A:Option Addr) (m c:Nat) (ys:List Int) (hx:a.eval x = .slice A m c) (hin:IntsAt w A m ys)
 (h63:n + m ≤ maxLen) (hbytes:(n + m) * bytes ≤ 140737488355328) (hbase:base ≤ w.heap.size)
 (h:∀ v' w',w'.ownsRow base e 1 v' (n + m) (xs ++ ys.map (.int .i64)) → w.grownBy w' v.ownBlock → wpList P ops Q rest (a.put o.dst v') w'):wpList P ops Q (o :: rest) a w :=
 wpList_plain hgd fun _ hK => wp_append_int w s x t ho base e i z bytes ht hi hz hsize hby hzs v n xs hs hown A m c ys hx hin h63 hbytes hbase fun v' w' h2 h3 => hK _ _ (h v' w' h2 h3)
end
end Go.Proofs.YtghdiolnonejaaaGreatDoor
end
section
namespace Go.Proofs.YtghdiolnonejaaaGreatDoor
open Go Go.RowKit
theorem r1out_any (d:Pl.Dg) (A:Option Addr) (n cp:Nat) (h:Nat) (w:World) (e:n = d.n) (hh:h < 4 * n) (hn:n ≤ 1000) (hs:IntsAt w A n d.sg) :
 Calls Tryz.prog 32 #[.slice A n cp,.int .i64 (h:Int)] w fun e w' => e = .returned (.bool (Pl.out d h)) ∧ w' = w := by
 subst e
 obtain ⟨b,o,rfl,hc⟩:=sign_at hs (c := h / 4) (by omega)
 have h4:h % 4 = 0 ∨ h % 4 = 1 ∨ h % 4 = 2 ∨ h % 4 = 3:=by omega
 go_enter Tryz.func32,Tryz.ntmps32
 rcases h4 with h4 | h4 | h4 | h4
 ·have E:=out_zero (d := d) h4
  go_wp2
  all_goals
   go_ret
   refine ⟨ret_bool ?_,rfl⟩
   rw [E]
   first
    | done
    | rfl
    | (simp; done)
    | (simp; omega)
    | simp_all
 ·have E:=out_one (d := d) h4
  go_wp2
  all_goals
   go_ret
   refine ⟨ret_bool ?_,rfl⟩
   rw [E]
   first
    | done
    | rfl
    | (simp; done)
    | (simp; omega)
    | simp_all
 ·have E:=out_two (d := d) h4
  go_wp2
  all_goals
   go_ret
   refine ⟨ret_bool ?_,rfl⟩
   rw [E]
   first
    | done
    | rfl
    | (simp; done)
    | (simp; omega)
    | simp_all
 ·have E:=out_three (d := d) h4
  go_wp2
  all_goals
   go_ret
   refine ⟨ret_bool ?_,rfl⟩
   rw [E]
   first
    | done
    | rfl
    | (simp; done)
    | (simp; omega)
    | simp_all
theorem vb_step {P:Nat → Prop} (j:Nat):Pl.vb (∀ i,i < j + 1 → P i) = (Pl.vb (∀ i,i < j → P i) && Pl.vb (P j)) := by
 rw [Bool.eq_iff_iff,Bool.and_eq_true,Pl.vb_iff,Pl.vb_iff,Pl.vb_iff]
 constructor
 ·intro h; exact ⟨fun i hi => h i (by omega),h j (by omega)⟩
 ·rintro ⟨h1,h2⟩ i hi
  rcases Nat.lt_or_ge i j with h | h
  ·exact h1 i h
  ·rw [show i = j by omega]; exact h2
end Go.Proofs.YtghdiolnonejaaaGreatDoor
end
section
namespace Go.Proofs.YtghdiolnonejaaaGreatDoor
open Go Go.RowKit
def sct (f:Nat → Nat) (g:Nat → Int) (z:List Int):Nat → List Int
 | 0 => z
 | k + 1 => (sct f g z k).set (f k) (g k)
theorem sct_len (f:Nat → Nat) (g:Nat → Int) (z:List Int):∀ k,(sct f g z k).length = z.length
 | 0 => rfl
 | k + 1 => by show ((sct f g z k).set _ _).length = _; rw [List.length_set,sct_len f g z k]
theorem sct_at {f:Nat → Nat} {g:Nat → Int} {z:List Int} (hz:∀ i,i < z.length → f i < z.length) (hi:∀ i j,i < z.length → j < z.length → f i = f j → i = j):∀ k,k ≤ z.length → ∀ i,i < k → (sct f g z k)[f i]? = some (g i)
 | 0,_,i,h => absurd h (by omega)
 | k + 1, hk, i, h => by
   show ((sct f g z k).set (f k) (g k))[f i]? = _
   by_cases e:i = k
   ·subst e
    rw [List.getElem?_set_self (by rw [sct_len]; exact hz i (by omega))]
   ·rw [List.getElem?_set_ne (fun q => e (hi _ _ (by omega) (by omega) q.symm)),sct_at hz hi k (by omega) i (by omega)]
def rnE (d:Pl.Dg) (σ τ:Nat → Nat):Pl.Dg := ⟨(List.range d.n).map (fun i => d.s (σ i)),(List.range (4 * d.n)).map (fun h => Pl.hf τ (d.m (Pl.hf σ h))),d.lp⟩
def Inv2 (n:Nat) (σ τ:Nat → Nat):Prop := (∀ i,i < n → σ i < n ∧ τ (σ i) = i) ∧ ∀ c,c < n → τ c < n ∧ σ (τ c) = c
theorem Inv2.four {n:Nat} {σ τ:Nat → Nat} (h:Inv2 n σ τ):Inv2 (4 * n) (Pl.hf σ) (Pl.hf τ) := by
 have key:∀ {σ τ:Nat → Nat},(∀ i,i < n → σ i < n ∧ τ (σ i) = i) → ∀ i,i < 4 * n → Pl.hf σ i < 4 * n ∧ Pl.hf τ (Pl.hf σ i) = i:=fun {σ τ} h i hi => by
  obtain ⟨h1,h2⟩:=h (i / 4) (by omega)
  refine ⟨by unfold Pl.hf; omega,?_⟩
  have e1:=Pl.hf_div σ i
  have e2:=Pl.hf_mod σ i
  unfold Pl.hf at e1 e2 ⊢
  rw [e1,e2,h2]; omega
 exact ⟨key h.1,key h.2⟩
theorem rnE_n (d:Pl.Dg) (σ τ:Nat → Nat):(rnE d σ τ).n = d.n := by unfold rnE Pl.Dg.n; simp
theorem rnE_iso {d:Pl.Dg} (hd:Pl.Wf d) {σ τ:Nat → Nat} (h:Inv2 d.n σ τ):Pl.Iso (rnE d σ τ) d σ := by
 have hn:=rnE_n d σ τ
 have h4:=h.four
 refine ⟨hn,rfl,fun c hc => by rw [hn] at hc ⊢; exact (h.1 c hc).1,fun c c' hc hc' e => by rw [hn] at hc hc'; rw [← (h.1 c hc).2,e,(h.1 c' hc').2],fun c hc => ?_,fun x hx => ?_⟩
 ·rw [hn] at hc
  show d.s (σ c) = ((List.range d.n).map (fun i => d.s (σ i))).getD c 0
  rw [List.getD_eq_getElem?_getD,List.getElem?_map,List.getElem?_range hc]; rfl
 ·rw [hn] at hx
  have e:(rnE d σ τ).m x = Pl.hf τ (d.m (Pl.hf σ x)):=by
   show ((List.range (4 * d.n)).map (fun h => Pl.hf τ (d.m (Pl.hf σ h)))).getD x x = _
   rw [List.getD_eq_getElem?_getD,List.getElem?_map,List.getElem?_range hx]; rfl
  rw [e,(h4.2 _ (hd.lt _ (h4.1 x hx).1)).2]
theorem rnE_back {d:Pl.Dg} (hd:Pl.Wf d) {σ τ:Nat → Nat} (h:Inv2 d.n σ τ):Pl.Iso d (rnE d σ τ) τ := by
 have hn:=rnE_n d σ τ
 have h4:=h.four
 refine ⟨hn.symm,rfl,fun c hc => (h.2 c hc).1,fun c c' hc hc' e => by rw [← (h.2 c hc).2,e,(h.2 c' hc').2],fun c hc => ?_,fun x hx => ?_⟩
 ·obtain ⟨h1,h2⟩:=h.2 c hc
  show ((List.range d.n).map (fun i => d.s (σ i))).getD (τ c) 0 = _
  rw [List.getD_eq_getElem?_getD,List.getElem?_map,List.getElem?_range h1]
  show d.s (σ (τ c)) = _
  rw [h2]
 ·obtain ⟨h1,h2⟩:=h4.2 x hx
  show ((List.range (4 * d.n)).map (fun h => Pl.hf τ (d.m (Pl.hf σ h)))).getD (Pl.hf τ x) (Pl.hf τ x) = _
  rw [List.getD_eq_getElem?_getD,List.getElem?_map,List.getElem?_range h1]
  show Pl.hf τ (d.m (Pl.hf σ (Pl.hf τ x))) = _
  rw [h2]
theorem rnE_valid {d:Pl.Dg} (hd:Pl.Valid d) {σ τ:Nat → Nat} (h:Inv2 d.n σ τ):Pl.Valid (rnE d σ τ) :=
 (rnE_back hd.wf h).valid hd (by rw [rnE_n]; unfold rnE; simp)
def rnA (n:Nat) (σ:Nat → Nat) (k:Nat):List Int := sct σ (fun i => (i:Int)) (List.replicate n 0) k
end Go.Proofs.YtghdiolnonejaaaGreatDoor
end
section
namespace Go.Proofs.YtghdiolnonejaaaGreatDoor
open Go Go.ChangeShapes Go.WideShapes Go.ChangeAt Go.RowKit Go.Deep
theorem spot_noneM {w:World} {a:Addr} {v:Value} (h:w.cell? a = some v):a = ⟨a.block,a.off,none⟩:=by
 obtain ⟨b,o,sp⟩:=a
 cases sp with
 | none => rfl
 | some s =>
   unfold World.cell? at h
   simp only at h
   split at h
   ·simp at h
   ·cases h
theorem addr_formM {w:World} {a:Addr} {v:Value} (h:w.cell? (a.add 0) = some v):∃ b o,a = ⟨b,o,none⟩:=⟨_,_,spot_noneM h⟩
section
variable {H:Type} {enc:TypeId × Value → H} {w:World} {base:Nat} {spare:Nat → Bool} {held:Bool} {fuel:Nat}
theorem ints_of_trod {v:Value} {y:DataW H × List MemPlace} (h:DataW.trod enc Tryz.prog w base spare held fuel 22 [v] = some y):∃ (A:Option Addr) (n c:Nat) (xs:List Int),v = .slice A n c ∧ n ≤ maxLen ∧ IntsAt w A n xs := by
 rcases open_ints Tryz.underlying22 Tryz.underlying3 (by kernel_rfl) h with ⟨h1,_⟩ | ⟨a,len,cap,zs,h1,_,hl,hm,hsl,_,hc,_⟩
 ·obtain rfl:v = .slice none 0 0 := by simpa using h1
  exact ⟨none,0,0,[],rfl,by unfold maxLen; omega,RowAt.nil w⟩
 ·obtain rfl:v = .slice (some a) len cap := by simpa using h1
  have hle:len ≤ zs.length:=by rw [hsl]; split <;> omega
  refine ⟨some a,len,cap,zs.take len,rfl,by omega,by simp; omega,fun hn => ?_⟩
  obtain ⟨b,o,rfl⟩:=addr_formM (hc 0 (by omega))
  refine ⟨b,o,rfl,fun j u hu => ?_⟩
  rw [List.getElem?_map] at hu
  obtain ⟨s,hs,rfl⟩:=Option.map_eq_some_iff.1 hu
  have hj:j < len:=by
   rcases Nat.lt_or_ge j len with h | h
   ·exact h
   ·rw [List.getElem?_eq_none (by simp; omega)] at hs; cases hs
  have:=hc j (by omega)
  rw [Addr.add_lit] at this
  rw [this]
  rw [List.getElem?_take_of_lt hj] at hs
  rw [List.getD_eq_getElem?_getD,hs]
  rfl
theorem int_of_trod {v:Value} {y:DataW H × List MemPlace} (h:DataW.trod enc Tryz.prog w base spare held fuel 3 [v] = some y):∃ n:Int,v = .int .i64 n ∧ -9223372036854775808 ≤ n ∧ n ≤ 9223372036854775807 := by
 obtain ⟨n,h1,_,hw⟩:=DataW.trod_int Tryz.underlying3 h
 obtain rfl:v = .int .i64 n := by simpa using h1
 refine ⟨n,rfl,?_⟩
 simp only [Lit.wf,Bool.and_eq_true,decide_eq_true_eq] at hw
 have h1:(IntKind.i64.min:Int) = -9223372036854775808:=by rfl
 have h2:(IntKind.i64.max:Int) = 9223372036854775807:=by rfl
 rw [h1,h2] at hw
 exact hw
set_option maxRecDepth 100000 in
theorem open_dg {r:Reach} {b0:Nat} {v:Value} {d:DataW H} {p:List MemPlace} (hval:Value.okWide Tryz.prog w r b0 24 v) (h:DataW.Trod enc Tryz.prog w base spare held 24 v d p) :
 ∃ (A B:Option Addr) (n q cp cq:Nat) (sg mt:List Int) (lp:Int),v = .agg #[.slice A n cp,.slice B q cq,.int .i64 lp] ∧ n ≤ maxLen ∧ q ≤ maxLen ∧ IntsAt w A n sg ∧ IntsAt w B q mt ∧ -9223372036854775808 ≤ lp ∧ lp ≤ 9223372036854775807 := by
 obtain ⟨cs,rfl,hsz⟩:=okWide_struct Tryz.underlying24 hval
 obtain ⟨fuel,hf⟩:=h
 obtain ⟨c0,c1,c2,rfl⟩:∃ c0 c1 c2,cs = #[c0,c1,c2] := by
  have h3:cs.size = 3:=hsz.trans (by kernel_rfl)
  obtain ⟨l⟩:=cs
  match l,h3 with
  | [a,b,c],_ => exact ⟨a,b,c,rfl⟩
 have hf':DataW.trod enc Tryz.prog w base spare held fuel 24 [c0,c1,c2] = some (d,p):=hf
 obtain ⟨xs,n',_,_,_,hxl,hfld⟩:=DataW.trod_struct Tryz.underlying24 hf'
 have c22:Tryz.prog.cellsOf 22 = 1:=by kernel_rfl
 have c3:Tryz.prog.cellsOf 3 = 1:=by kernel_rfl
 have g0:DataW.trod enc Tryz.prog w base spare held n' 22 (([c0,c1,c2].drop 0).take (Tryz.prog.cellsOf 22)) = xs[0]?:=hfld 0 _ rfl
 have g1:DataW.trod enc Tryz.prog w base spare held n' 22 (([c0,c1,c2].drop 1).take (Tryz.prog.cellsOf 22)) = xs[1]?:=hfld 1 _ rfl
 have g2:DataW.trod enc Tryz.prog w base spare held n' 3 (([c0,c1,c2].drop 2).take (Tryz.prog.cellsOf 3)) = xs[2]?:=hfld 2 _ rfl
 rw [c22] at g0 g1
 rw [c3] at g2
 simp only [List.drop_zero,List.drop_succ_cons,List.take_succ_cons,List.take_zero] at g0 g1 g2
 have x0:xs[0]? = some (xs[0]'(by rw [hxl]; decide)):=List.getElem?_eq_getElem _
 have x1:xs[1]? = some (xs[1]'(by rw [hxl]; decide)):=List.getElem?_eq_getElem _
 have x2:xs[2]? = some (xs[2]'(by rw [hxl]; decide)):=List.getElem?_eq_getElem _
 rw [x0] at g0
 rw [x1] at g1
 rw [x2] at g2
 obtain ⟨A,n,cp,sg,rfl,hn,hs⟩:=ints_of_trod g0
 obtain ⟨B,q,cq,mt,rfl,hq,hm⟩:=ints_of_trod g1
 obtain ⟨lp,rfl,h1,h2⟩:=int_of_trod g2
 exact ⟨A,B,n,q,cp,cq,sg,mt,lp,rfl,hn,hq,hs,hm,h1,h2⟩
end
end Go.Proofs.YtghdiolnonejaaaGreatDoor
end
