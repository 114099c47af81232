/-
 The texts Pcb, Vm, Trf, Xn, Xz.
-/
import Derived.Test.YtghdiolnonejaaaGreatDoorE00
import Derived.ChangeSame
import Derived.ChangeSlices
import Derived.Deep.AppendLies
import Derived.Deep.CutBlock
import Derived.Deep.CutRange
import Derived.Deep.DeepCutAuto
import Derived.Deep.Fields
import Derived.Deep.RegionLaw
import Derived.Deep.Slices
import Derived.Deep.Strs
import Derived.Laws.Slices
import Derived.Maps.AppendAt
import Derived.OpenShut
import Derived.Outline
import Derived.ProofKit
import Derived.RegionTactic
set_option linter.unusedVariables false
set_option linter.unusedSimpArgs false
section
namespace Go.Proofs.YtghdiolnonejaaaGreatDoor.Pl
variable {d:Dg}
theorem ord_len_eq (hd:Wf d) {r q:Nat} (hr:r < d.n) (hq:q < d.n) (h:Comp d r q):(ord d r).length = (ord d q).length := by
 refine List.Perm.length_eq ((List.perm_ext_iff_of_nodup (ord_ok hd hr).nd (ord_ok hd hq).nd).2 fun x => ?_)
 rw [ord_mem hd hr,ord_mem hd hq]
 exact ⟨fun e => (comp_symm hd hr h).trans e,fun e => h.trans e⟩
theorem code_len_eq (hd:Wf d) {r q:Nat} (hr:r < d.n) (hq:q < d.n) (h:Comp d r q):(code d r).length = (code d q).length := by
 rw [code_len,code_len,ord_len_eq hd hr hq h]
structure Lst5 (d:Dg) (l:List Nat) (p:Pc):Prop where
 is:∃ r,r ∈ l ∧ p.code = code d r ∧ p.order = ord d r
 min:∀ q,q ∈ l → lx p.code (code d q) ≤ 0
theorem Lst5.one (r:Nat) (x:Int):Lst5 d [r] ⟨code d r,ord d r,x⟩:=by
 refine ⟨⟨r,by simp,rfl,rfl⟩,fun q hq => ?_⟩
 obtain rfl:q = r := by simpa using hq
 have:=lx_self (code d q)
 show lx (code d q) (code d q) ≤ 0
 omega
theorem Lst5.less {l:List Nat} {p:Pc} (h:Lst5 d l p) {q:Nat} (hq:lx (code d q) p.code < 0) (x:Int):Lst5 d (l ++ [q]) ⟨code d q,ord d q,x⟩:=by
 refine ⟨⟨q,by simp,rfl,rfl⟩,fun y hy => ?_⟩
 rcases List.mem_append.1 hy with hy | hy
 ·exact lx_trans (l := code d q) (m := p.code) (by omega) (h.min y hy)
 ·obtain rfl:y = q := by simpa using hy
  have:=lx_self (code d y)
  show lx (code d y) (code d y) ≤ 0
  omega
theorem Lst5.more {l:List Nat} {p:Pc} (h:Lst5 d l p) {q:Nat} (hq:¬ lx (code d q) p.code < 0) (x:Int):Lst5 d (l ++ [q]) ⟨p.code,p.order,x⟩:=by
 obtain ⟨r,h1,h2,h3⟩:=h.is
 refine ⟨⟨r,by simp [h1],h2,h3⟩,fun y hy => ?_⟩
 rcases List.mem_append.1 hy with hy | hy
 ·exact h.min y hy
 ·obtain rfl:y = q := by simpa using hy
  show lx p.code (code d y) ≤ 0
  rw [lx_neg]
  omega
theorem Lst5.ok (hd:Wf d) {l:List Nat} {p:Pc} {r:Nat} (h:Lst5 d l p) (hr:r < d.n) (hl:∀ c,c ∈ l ↔ c < d.n ∧ Comp d r c):PcOk d p := by
 obtain ⟨q,h1,h2,h3⟩:=h.is
 obtain ⟨hq,hc⟩:=(hl q).1 h1
 refine ⟨q,hq,h2,h3,fun y hy => ?_⟩
 rw [← h2]
 have hyn:y < d.n:=((ord_ok hd hq).mem y ((ord_mem hd hq y).2 hy)).1
 exact h.min y ((hl y).2 ⟨hyn,hc.trans hy⟩)
end Go.Proofs.YtghdiolnonejaaaGreatDoor.Pl
end
section
namespace Go.Proofs.YtghdiolnonejaaaGreatDoor
open Go Go.RowKit
theorem ints_one (ys:List Int):∀ u ∈ ys.map (Value.int .i64),u.oneCell' = true := by
 intro u hu
 obtain ⟨x,_,rfl⟩:=List.mem_map.1 hu
 rfl
section
variable {P:Program} (w:World)
theorem run_append_int (base:Nat) (t ty e:TypeId) (i:TypeInfo) (z:Value) (bytes:Nat) (ht:P.underlying t = some (.slice e)) (hi:P.info? e = some i) (hz:i.zero = some z)
 (hsize:i.size = 1) (hby:i.bytes = bytes) (hzs:z.cells.size = 1)
 (v:Value) (n:Nat) (xs:List Value) (hown:w.ownsRow base e 1 v n xs)
 (A:Option Addr) (m c:Nat) (ys:List Int) (hin:IntsAt w A m ys)
 (h63:n + m ≤ maxLen) (hbytes:(n + m) * bytes ≤ 140737488355328) (hbase:base ≤ w.heap.size) :
 ∃ v' w',(Builtin.append_ #[t,t] ty #[v,.slice A m c]).run P w = .ok v' w' ∧ w'.ownsRow base e 1 v' (n + m) (xs ++ ys.map (.int .i64)) ∧ w.grownBy w' v.ownBlock := by
 have hl:=hin.len
 rcases Nat.eq_zero_or_pos m with h0 | h0
 ·subst h0
  obtain rfl:ys = [] := List.eq_nil_of_length_eq_zero (by omega)
  have hr:(Builtin.append_ #[t,t] ty #[v,.slice A 0 c]).run P w = .ok v w:=by
   rcases hown.2 with ⟨rfl,rfl⟩ | ⟨g,cap,cur,rfl,_,_,hnc,_⟩
   ·cases A <;> simp [Builtin.append_,run_underlying ht,sizeOf,typeInfo,hi,Builtin.lenOf,Builtin.firstCells,loadCells,loadCellsFrom]
   ·cases A <;> simp [Builtin.append_,run_underlying ht,sizeOf,typeInfo,hi,Builtin.lenOf,Builtin.firstCells,hnc,storeCells,loadCells,loadCellsFrom]
  refine ⟨v,w,hr,by simpa using hown,⟨rfl,rfl,rfl,Nat.le_refl _,fun _ _ _ => rfl⟩⟩
 ·obtain ⟨b,o,rfl,hc⟩:=hin.2 h0
  obtain ⟨v',w',hr,h2,h3,_⟩:=run_append_own (P := P) w base t ty e i z 1 bytes ht hi hz hsize hby hzs (by omega) v n xs hown ⟨b,o,none⟩ m c (ys.map (.int .i64)) (by simpa using hl) (fun j u hu => by
   have:(⟨b,o,none⟩:Addr).add j = ⟨b,o + j,none⟩:=by unfold Addr.add; split <;> simp_all
   rw [this]; exact hc j u hu) (ints_one ys) h63 hbytes hbase
  exact ⟨v',w',hr,h2,h3⟩
theorem wp_append_int {o:Oper} {a:Act} {K:Act → World → Prop} {Q:Exit → Act → World → Prop} (s x:Operand) (t:TypeId)
 (ho:o.op = .call { callee := .builtin .append,args := #[s,x],argTypes := #[t,t] })
 (base:Nat) (e:TypeId) (i:TypeInfo) (z:Value) (bytes:Nat) (ht:P.underlying t = some (.slice e)) (hi:P.info? e = some i) (hz:i.zero = some z)
 (hsize:i.size = 1) (hby:i.bytes = bytes) (hzs:z.cells.size = 1)
 (v:Value) (n:Nat) (xs:List Value) (hs:a.eval s = v) (hown:w.ownsRow base e 1 v n xs)
 (A:Option Addr) (m c:Nat) (ys:List Int) (hx:a.eval x = .slice A m c) (hin:IntsAt w A m ys)
 (h63:n + m ≤ maxLen) (hbytes:(n + m) * bytes ≤ 140737488355328) (hbase:base ≤ w.heap.size)
 (h:∀ v' w',w'.ownsRow base e 1 v' (n + m) (xs ++ ys.map (.int .i64)) → w.grownBy w' v.ownBlock → K (a.put o.dst v') w'):o.wp P a w K Q := by
 obtain ⟨v',w',hr,h2,h3⟩:=run_append_int (P := P) w base t o.type e i z bytes ht hi hz hsize hby hzs v n xs hown A m c ys hin h63 hbytes hbase
 unfold Oper.wp execOp
 simp only [ho,resolve,invoke,builtin,Sem.run_bind,Sem.run_pure,Result.andThen_ok,List.map_toArray,List.map_cons,List.map_nil,hs,hx,hr]
 exact h v' w' h2 h3
theorem wpList_append_int {ops:Array Oper} {rest:List Oper} {o:Oper} {a:Act} {Q:Exit → Act → World → Prop} (hgd:o.guard = none) (s x:Operand) (t:TypeId)
 (ho:o.op = .call { callee := .builtin .append,args := #[s,x],argTypes := #[t,t] })
 (base:Nat) (e:TypeId) (i:TypeInfo) (z:Value) (bytes:Nat) (ht:P.underlying t = some (.slice e)) (hi:P.info? e = some i) (hz:i.zero = some z)
 (hsize:i.size = 1) (hby:i.bytes = bytes) (hzs:z.cells.size = 1)
 (v:Value) (n:Nat) (xs:List Value) (hs:a.eval s = v) (hown:w.ownsRow base e 1 v n xs)
 (A:Option Addr) (m c:Nat) (ys:List Int) (hx:a.eval x = .slice A m c) (hin:IntsAt w A m ys)
 (h63:n + m ≤ maxLen) (hbytes:(n + m) * bytes ≤ 140737488355328) (hbase:base ≤ w.heap.size)
 (h:∀ v' w',w'.ownsRow base e 1 v' (n + m) (xs ++ ys.map (.int .i64)) → w.grownBy w' v.ownBlock → wpList P ops Q rest (a.put o.dst v') w'):wpList P ops Q (o :: rest) a w :=
 wpList_plain hgd fun _ hK => wp_append_int w s x t ho base e i z bytes ht hi hz hsize hby hzs v n xs hs hown A m c ys hx hin h63 hbytes hbase fun v' w' h2 h3 => hK _ _ (h v' w' h2 h3)
end
end Go.Proofs.YtghdiolnonejaaaGreatDoor
end
section
namespace Go.Proofs.YtghdiolnonejaaaGreatDoor.Pl
def tref:Dg := ⟨[1,1,1],[9,4,7,10,1,8,11,2,5,0,3,6],0⟩
theorem tref_n:tref.n = 3 := rfl
theorem tref_wf:Wf tref := by
 refine ⟨by decide,by decide,by decide,?_,?_,?_,?_,?_⟩
 ·show ∀ c,c < 3 → tref.s c = 1 ∨ tref.s c = -1
  decide
 ·show ∀ h,h < 12 → tref.m h < 12
  decide
 ·show ∀ h,h < 12 → tref.m h ≠ h
  decide
 ·show ∀ h,h < 12 → tref.m (tref.m h) = h
  decide
 ·show ∀ h,h < 12 → out tref h ≠ out tref (tref.m h)
  decide
theorem it_period {f:Nat → Nat} {h p:Nat} (hp:0 < p) (e:it f p h = h) (hl:∀ k,k < p → h ≤ it f k h):∀ k,h ≤ it f k h := by
 intro k
 induction k using Nat.strongRecOn with
 | _ k ih =>
   by_cases hk:k < p
   ·exact hl k hk
   ·have:=ih (k - p) (by omega)
    rw [show k = (k - p) + p by omega,it_add,e]
    exact this
theorem tref_least:∀ h,h < 12 → (Least (nx tref) h ↔ h = 0 ∨ h = 1 ∨ h = 2 ∨ h = 3 ∨ h = 5) := by
 intro h hh
 have yes3:∀ h,it (nx tref) 3 h = h → h ≤ it (nx tref) 1 h → h ≤ it (nx tref) 2 h → Least (nx tref) h:=fun h e a b => it_period (by omega) e (fun k hk => by
  match k,hk with
  | 0,_ => exact Nat.le_refl _
  | 1,_ => exact a
  | 2,_ => exact b)
 have yes2:∀ h,it (nx tref) 2 h = h → h ≤ it (nx tref) 1 h → Least (nx tref) h:=fun h e a => it_period (by omega) e (fun k hk => by
  match k,hk with
  | 0,_ => exact Nat.le_refl _
  | 1,_ => exact a)
 match h,hh with
 | 0,_ => exact ⟨fun _ => by omega,fun _ => yes3 0 (by decide) (by decide) (by decide)⟩
 | 1,_ => exact ⟨fun _ => by omega,fun _ => yes2 1 (by decide) (by decide)⟩
 | 2,_ => exact ⟨fun _ => by omega,fun _ => yes3 2 (by decide) (by decide) (by decide)⟩
 | 3,_ => exact ⟨fun _ => by omega,fun _ => yes2 3 (by decide) (by decide)⟩
 | 4,_ => exact ⟨fun l => absurd (l 1) (by decide),fun e => by omega⟩
 | 5,_ => exact ⟨fun _ => by omega,fun _ => yes2 5 (by decide) (by decide)⟩
 | 6,_ => exact ⟨fun l => absurd (l 2) (by decide),fun e => by omega⟩
 | 7,_ => exact ⟨fun l => absurd (l 1) (by decide),fun e => by omega⟩
 | 8,_ => exact ⟨fun l => absurd (l 1) (by decide),fun e => by omega⟩
 | 9,_ => exact ⟨fun l => absurd (l 1) (by decide),fun e => by omega⟩
 | 10,_ => exact ⟨fun l => absurd (l 1) (by decide),fun e => by omega⟩
 | 11,_ => exact ⟨fun l => absurd (l 1) (by decide),fun e => by omega⟩
 | n + 12,h => omega
theorem tref_nb {c:Nat} (hc:c < 3):Comp tref c ((c + 1) % 3) := by
 have key:∀ c,c < 3 → ∃ t,t < 12 ∧ t / 4 = c ∧ tref.m t / 4 = (c + 1) % 3:=by
  intro c hc
  match c,hc with
  | 0,_ => exact ⟨1,by decide,by decide,by decide⟩
  | 1,_ => exact ⟨5,by decide,by decide,by decide⟩
  | 2,_ => exact ⟨9,by decide,by decide,by decide⟩
 obtain ⟨t,h1,h2,h3⟩:=key c hc
 have h:=(con_comp tref_wf (g := t) (h := tref.m t) (by rw [tref_n]; omega) (tref_wf.lt t (by rw [tref_n]; omega))).1 (Con.right Con.refl)
 rw [h2,h3] at h
 exact h
theorem tref_con {a b:Nat} (ha:a < 3) (hb:b < 3):Comp tref a b := by
 have s:∀ c,c < 3 → Comp tref c ((c + 1) % 3):=fun c hc => tref_nb hc
 have h01:Comp tref 0 1:=s 0 (by omega)
 have h12:Comp tref 1 2:=s 1 (by omega)
 have h20:Comp tref 2 0:=s 2 (by omega)
 match a,b,ha,hb with
 | 0,0,_,_ => exact h01.trans (h12.trans h20)
 | 0,1,_,_ => exact h01
 | 0,2,_,_ => exact h01.trans h12
 | 1,0,_,_ => exact h12.trans h20
 | 1,1,_,_ => exact h12.trans (h20.trans h01)
 | 1,2,_,_ => exact h12
 | 2,0,_,_ => exact h20
 | 2,1,_,_ => exact h20.trans h01
 | 2,2,_,_ => exact h20.trans (h01.trans h12)
theorem cnt_iff {p q:Nat → Prop}:∀ n,(∀ h,h < n → (p h ↔ q h)) → cnt p n = cnt q n
 | 0,_ => rfl
 | n + 1, h => by
   have ih:=cnt_iff (p := p) (q := q) n (fun k hk => h k (by omega))
   have e:=h n (by omega)
   unfold cnt
   rw [ih]
   by_cases hq:q n
   ·rw [if_pos hq,if_pos (e.2 hq)]
   ·rw [if_neg hq,if_neg (fun hp => hq (e.1 hp))]
theorem tref_ok:Valid tref := by
 refine ⟨tref_wf,fun c hc => ?_⟩
 have hc3:c < 3:=hc
 have e1:cnt (fun h => Least (nx tref) h ∧ Comp tref c (h / 4)) (4 * tref.n) = cnt (fun h => h = 0 ∨ h = 1 ∨ h = 2 ∨ h = 3 ∨ h = 5) 12 :=
  cnt_iff 12 (fun h hh => ⟨fun e => (tref_least h hh).1 e.1,fun e => ⟨(tref_least h hh).2 e,tref_con hc3 (by omega)⟩⟩)
 have e2:cnt (fun b => Comp tref c b) tref.n = cnt (fun _ => True) 3:=cnt_iff 3 (fun b hb => ⟨fun _ => trivial,fun _ => tref_con hc3 hb⟩)
 rw [e1,e2]
 simp [cnt]
end Go.Proofs.YtghdiolnonejaaaGreatDoor.Pl
end
section
namespace Go.Proofs.YtghdiolnonejaaaGreatDoor
open Go Go.ChangeShapes Go.WideShapes Go.ChangeAt Go.RowKit Go.Deep
theorem spot_noneM {w:World} {a:Addr} {v:Value} (h:w.cell? a = some v):a = ⟨a.block,a.off,none⟩:=by
 obtain ⟨b,o,sp⟩:=a
 cases sp with
 | none => rfl
 | some s =>
   unfold World.cell? at h
   simp only at h
   split at h
   ·simp at h
   ·cases h
theorem addr_formM {w:World} {a:Addr} {v:Value} (h:w.cell? (a.add 0) = some v):∃ b o,a = ⟨b,o,none⟩:=⟨_,_,spot_noneM h⟩
section
variable {H:Type} {enc:TypeId × Value → H} {w:World} {base:Nat} {spare:Nat → Bool} {held:Bool} {fuel:Nat}
theorem ints_of_trod {v:Value} {y:DataW H × List MemPlace} (h:DataW.trod enc Tryz.prog w base spare held fuel 22 [v] = some y):∃ (A:Option Addr) (n c:Nat) (xs:List Int),v = .slice A n c ∧ n ≤ maxLen ∧ IntsAt w A n xs := by
 rcases open_ints Tryz.underlying22 Tryz.underlying3 (by kernel_rfl) h with ⟨h1,_⟩ | ⟨a,len,cap,zs,h1,_,hl,hm,hsl,_,hc,_⟩
 ·obtain rfl:v = .slice none 0 0 := by simpa using h1
  exact ⟨none,0,0,[],rfl,by unfold maxLen; omega,RowAt.nil w⟩
 ·obtain rfl:v = .slice (some a) len cap := by simpa using h1
  have hle:len ≤ zs.length:=by rw [hsl]; split <;> omega
  refine ⟨some a,len,cap,zs.take len,rfl,by omega,by simp; omega,fun hn => ?_⟩
  obtain ⟨b,o,rfl⟩:=addr_formM (hc 0 (by omega))
  refine ⟨b,o,rfl,fun j u hu => ?_⟩
  rw [List.getElem?_map] at hu
  obtain ⟨s,hs,rfl⟩:=Option.map_eq_some_iff.1 hu
  have hj:j < len:=by
   rcases Nat.lt_or_ge j len with h | h
   ·exact h
   ·rw [List.getElem?_eq_none (by simp; omega)] at hs; cases hs
  have:=hc j (by omega)
  rw [Addr.add_lit] at this
  rw [this]
  rw [List.getElem?_take_of_lt hj] at hs
  rw [List.getD_eq_getElem?_getD,hs]
  rfl
theorem int_of_trod {v:Value} {y:DataW H × List MemPlace} (h:DataW.trod enc Tryz.prog w base spare held fuel 3 [v] = some y):∃ n:Int,v = .int .i64 n ∧ -9223372036854775808 ≤ n ∧ n ≤ 9223372036854775807 := by
 obtain ⟨n,h1,_,hw⟩:=DataW.trod_int Tryz.underlying3 h
 obtain rfl:v = .int .i64 n := by simpa using h1
 refine ⟨n,rfl,?_⟩
 simp only [Lit.wf,Bool.and_eq_true,decide_eq_true_eq] at hw
 have h1:(IntKind.i64.min:Int) = -9223372036854775808:=by rfl
 have h2:(IntKind.i64.max:Int) = 9223372036854775807:=by rfl
 rw [h1,h2] at hw
 exact hw
set_option maxRecDepth 100000 in
theorem open_dg {r:Reach} {b0:Nat} {v:Value} {d:DataW H} {p:List MemPlace} (hval:Value.okWide Tryz.prog w r b0 24 v) (h:DataW.Trod enc Tryz.prog w base spare held 24 v d p) :
 ∃ (A B:Option Addr) (n q cp cq:Nat) (sg mt:List Int) (lp:Int),v = .agg #[.slice A n cp,.slice B q cq,.int .i64 lp] ∧ n ≤ maxLen ∧ q ≤ maxLen ∧ IntsAt w A n sg ∧ IntsAt w B q mt ∧ -9223372036854775808 ≤ lp ∧ lp ≤ 9223372036854775807 := by
 obtain ⟨cs,rfl,hsz⟩:=okWide_struct Tryz.underlying24 hval
 obtain ⟨fuel,hf⟩:=h
 obtain ⟨c0,c1,c2,rfl⟩:∃ c0 c1 c2,cs = #[c0,c1,c2] := by
  have h3:cs.size = 3:=hsz.trans (by kernel_rfl)
  obtain ⟨l⟩:=cs
  match l,h3 with
  | [a,b,c],_ => exact ⟨a,b,c,rfl⟩
 have hf':DataW.trod enc Tryz.prog w base spare held fuel 24 [c0,c1,c2] = some (d,p):=hf
 obtain ⟨xs,n',_,_,_,hxl,hfld⟩:=DataW.trod_struct Tryz.underlying24 hf'
 have c22:Tryz.prog.cellsOf 22 = 1:=by kernel_rfl
 have c3:Tryz.prog.cellsOf 3 = 1:=by kernel_rfl
 have g0:DataW.trod enc Tryz.prog w base spare held n' 22 (([c0,c1,c2].drop 0).take (Tryz.prog.cellsOf 22)) = xs[0]?:=hfld 0 _ rfl
 have g1:DataW.trod enc Tryz.prog w base spare held n' 22 (([c0,c1,c2].drop 1).take (Tryz.prog.cellsOf 22)) = xs[1]?:=hfld 1 _ rfl
 have g2:DataW.trod enc Tryz.prog w base spare held n' 3 (([c0,c1,c2].drop 2).take (Tryz.prog.cellsOf 3)) = xs[2]?:=hfld 2 _ rfl
 rw [c22] at g0 g1
 rw [c3] at g2
 simp only [List.drop_zero,List.drop_succ_cons,List.take_succ_cons,List.take_zero] at g0 g1 g2
 have x0:xs[0]? = some (xs[0]'(by rw [hxl]; decide)):=List.getElem?_eq_getElem _
 have x1:xs[1]? = some (xs[1]'(by rw [hxl]; decide)):=List.getElem?_eq_getElem _
 have x2:xs[2]? = some (xs[2]'(by rw [hxl]; decide)):=List.getElem?_eq_getElem _
 rw [x0] at g0
 rw [x1] at g1
 rw [x2] at g2
 obtain ⟨A,n,cp,sg,rfl,hn,hs⟩:=ints_of_trod g0
 obtain ⟨B,q,cq,mt,rfl,hq,hm⟩:=ints_of_trod g1
 obtain ⟨lp,rfl,h1,h2⟩:=int_of_trod g2
 exact ⟨A,B,n,q,cp,cq,sg,mt,lp,rfl,hn,hq,hs,hm,h1,h2⟩
end
end Go.Proofs.YtghdiolnonejaaaGreatDoor
end
section
namespace Go.Proofs.YtghdiolnonejaaaGreatDoor
open Go Go.ChangeShapes Go.WideShapes Go.ChangeAt Go.RowKit Go.Deep
theorem u8_of {a:Int} (h:(Lit.int .u8 a).wf = true):0 ≤ a ∧ a < 256 := by
 simp only [Lit.wf,Bool.and_eq_true,decide_eq_true_eq] at h
 have h1:(IntKind.u8.min:Int) = 0:=by rfl
 have h2:(IntKind.u8.max:Int) = 255:=by rfl
 rw [h1,h2] at h
 omega
end Go.Proofs.YtghdiolnonejaaaGreatDoor
end
