/-
 The texts Wo, Wi, Vm, Xn, Xz.
-/
import Derived.Test.YtghdiolnonejaaaR01
import Derived.ChangeSame
import Derived.ChangeSlices
import Derived.Deep.CutRange
import Derived.Deep.Fields
import Derived.Deep.Slices
import Derived.Deep.Strs
import Derived.Laws.Slices
import Derived.OpenShut
import Derived.ProofKit
set_option linter.unusedVariables false
set_option linter.unusedSimpArgs false
section
namespace Go.Proofs.Ytghdiolnonejaaa
open Go Go.RowKit
def plc (c f s:Nat):Nat := 4 * c + (s + 4 - f) % 4
theorem place_any (c f s:Nat) (w:World) (hc:c ≤ 1000) (hf:f < 4) (hs:s < 4) :
 Calls Try.prog 88 #[.int .i64 (c:Int),.int .i64 (f:Int),.int .i64 (s:Int)] w fun e w' => e = .returned (.int .i64 (plc c f s:Nat)) ∧ w' = w := by
 go_enter Try.func88,Try.ntmps88
 go_wp2
 go_ret
 exact ⟨ret_int (by unfold plc; omega),rfl⟩
theorem place_i (c f s:Int) (w:World) (hc:0 ≤ c ∧ c ≤ 1000) (hf:0 ≤ f ∧ f < 4) (hs:0 ≤ s ∧ s < 4) :
 Calls Try.prog 88 #[.int .i64 c,.int .i64 f,.int .i64 s] w fun e w' => e = .returned (.int .i64 (plc c.toNat f.toNat s.toNat:Nat)) ∧ w' = w := by
 obtain ⟨a,rfl⟩:=Int.eq_ofNat_of_zero_le hc.1
 obtain ⟨b,rfl⟩:=Int.eq_ofNat_of_zero_le hf.1
 obtain ⟨k,rfl⟩:=Int.eq_ofNat_of_zero_le hs.1
 exact place_any a b k w (by omega) (by omega) (by omega)
def fwd (d:Pl.Dg) (x:Int):Bool := if x = -1 then true else if 0 ≤ x then Pl.out d x.toNat else false
theorem forward_any (d:Pl.Dg) (A B:Option Addr) (cp q cq:Nat) (l:Value) (x:Int) (w:World) (hx:x < 4 * (d.n:Int)) (hn:d.n ≤ 1000) (hs:IntsAt w A d.n d.sg) :
 Calls Try.prog 132 #[.agg #[.slice A d.n cp,.slice B q cq,l],.int .i64 x] w fun e w' => e = .returned (.bool (fwd d x)) ∧ Below w.heap.size w w' := by
 have b0:Below w.heap.size w (w.alloc (.cells #[.slice A d.n cp,.slice B q cq,l] 24)):=(Below.refl _ _).alloc (Nat.le_refl _) _
 have B0:=hide b0
 have HS:=hide hs
 clear b0 hs
 by_cases h1:x = -1
 ·subst h1
  go_enter Try.func132,Try.ntmps132
  go_wp2
  go_ret
  exact ⟨rfl,B0.out⟩
 ·have t1:(x == -1) = false:=by rw [beq_eq_false_iff_ne]; exact h1
  have H1:=hide h1
  clear h1
  by_cases h2:0 ≤ x
  ·obtain ⟨k,rfl⟩:=Int.eq_ofNat_of_zero_le h2
   have hk:k < 4 * d.n:=by omega
   have t2:decide (0 ≤ (k:Int)) = true:=by simp
   go_enter Try.func132,Try.ntmps132
   go_wp2_with fail
   refine (out2_n d A B d.n cp q cq l k _ rfl hk hn (HS.out.keep B0.out)).mono ?_
   rintro e w1 ⟨rfl,hb1⟩
   have B1:=hide (B0.out.trans (hb1.mono B0.out.size))
   clear hb1
   have e1:fwd d (k:Int) = Pl.out d k:=by unfold fwd; rw [if_neg H1.out,if_pos h2,Int.toNat_natCast]
   have E1:=hide e1
   clear e1 t1 t2
   go_wp2
   go_ret
   exact ⟨by rw [E1.out]; rfl,B1.out⟩
  ·have t2:decide (0 ≤ x) = false:=by simpa using h2
   have e1:fwd d x = false:=by unfold fwd; rw [if_neg H1.out,if_neg h2]
   have E1:=hide e1
   clear e1 h2
   go_enter Try.func132,Try.ntmps132
   go_wp2
   go_ret
   exact ⟨by rw [E1.out]; rfl,B0.out⟩
end Go.Proofs.Ytghdiolnonejaaa
end
section
namespace Go.Proofs.Ytghdiolnonejaaa
open Go.RowKit
def inR (n:Nat) (m:Mv):Prop :=
 if m.kind = 1 then -1 ≤ m.x ∧ m.x < 4 * n ∧ m.y = 0 ∧ (m.sign = 1 ∨ m.sign = -1)
 else if m.kind = 2 then 0 ≤ m.x ∧ m.x < n ∧ m.y = 0 ∧ m.sign = 0 ∧ m.over = false
 else if m.kind = 4 then 0 ≤ m.x ∧ m.x < m.y ∧ m.y < n ∧ m.sign = 0 ∧ m.over = false
 else if m.kind = 5 then 0 ≤ m.x ∧ m.x < 4 * n ∧ m.y = 0 ∧ m.sign = 0 ∧ m.over = false
 else -2 ≤ m.x ∧ m.x < 4 * n ∧ -2 ≤ m.y ∧ m.y < 4 * n ∧ (if m.x ≠ m.y then m.sign = 0 else if m.x < 0 then m.sign = 0 ∨ m.sign = 1 else m.sign = 1 ∨ m.sign = -1)
def InPost (n:Nat) (m:Mv) (w:World) (e:Ending) (w':World):Prop := e = .returned (.bool (Pl.vb (inR n m))) ∧ Below w.heap.size w w'
theorem in_ret {p:Prop} {b:Bool} (h:b = true ↔ p):Ending.returned (.bool b) = .returned (.bool (Pl.vb p)) := by
 refine ret_bool ?_
 rw [Bool.eq_iff_iff,Pl.vb_iff,h]
set_option maxRecDepth 100000 in
set_option maxHeartbeats 1000000 in
theorem inRange_1 (n:Nat) (x y s:Int) (o:Bool) (w:World) (hn:n ≤ 1000) :
 Calls Try.prog 48 #[.int .i64 (n:Int),(Mv.mk 1 x y s o).v] w (InPost n ⟨1,x,y,s,o⟩ w) := by
 unfold Mv.v
 by_cases hs:s = 0
 ·subst hs
  cases o
  all_goals
   go_enter Try.func48,Try.ntmps48
   go_wp2
   all_goals
    go_ret
    refine ⟨in_ret ?_,(Below.refl _ _).alloc (Nat.le_refl _) _⟩
    unfold inR
    (try simp only [beq_iff_eq,beq_eq_false_iff_ne,ne_eq,bne_iff_ne,decide_eq_true_eq,decide_eq_false_iff_not] at *); (first | (simp; done) | (simp; omega) | omega | (simp_all; done) | (simp_all; omega))
 ·have t0:(s == 0) = false:=by simpa using hs
  go_enter Try.func48,Try.ntmps48
  go_wp2
  all_goals
   go_ret
   refine ⟨in_ret ?_,(Below.refl _ _).alloc (Nat.le_refl _) _⟩
   unfold inR
   (try simp only [beq_iff_eq,beq_eq_false_iff_ne,ne_eq,bne_iff_ne,decide_eq_true_eq,decide_eq_false_iff_not] at *); (first | (simp; done) | (simp; omega) | omega | (simp_all; done) | (simp_all; omega))
set_option maxRecDepth 100000 in
set_option maxHeartbeats 1000000 in
theorem inRange_2 (n:Nat) (x y s:Int) (o:Bool) (w:World) (hn:n ≤ 1000) :
 Calls Try.prog 48 #[.int .i64 (n:Int),(Mv.mk 2 x y s o).v] w (InPost n ⟨2,x,y,s,o⟩ w) := by
 unfold Mv.v
 by_cases hs:s = 0
 ·subst hs
  cases o
  all_goals
   go_enter Try.func48,Try.ntmps48
   go_wp2
   all_goals
    go_ret
    refine ⟨in_ret ?_,(Below.refl _ _).alloc (Nat.le_refl _) _⟩
    unfold inR
    (try simp only [beq_iff_eq,beq_eq_false_iff_ne,ne_eq,bne_iff_ne,decide_eq_true_eq,decide_eq_false_iff_not] at *); (first | (simp; done) | (simp; omega) | omega | (simp_all; done) | (simp_all; omega))
 ·have t0:(s == 0) = false:=by simpa using hs
  go_enter Try.func48,Try.ntmps48
  go_wp2
  all_goals
   go_ret
   refine ⟨in_ret ?_,(Below.refl _ _).alloc (Nat.le_refl _) _⟩
   unfold inR
   (try simp only [beq_iff_eq,beq_eq_false_iff_ne,ne_eq,bne_iff_ne,decide_eq_true_eq,decide_eq_false_iff_not] at *); (first | (simp; done) | (simp; omega) | omega | (simp_all; done) | (simp_all; omega))
set_option maxRecDepth 100000 in
set_option maxHeartbeats 1000000 in
theorem inRange_3 (n:Nat) (x y s:Int) (o:Bool) (w:World) (hn:n ≤ 1000) :
 Calls Try.prog 48 #[.int .i64 (n:Int),(Mv.mk 3 x y s o).v] w (InPost n ⟨3,x,y,s,o⟩ w) := by
 unfold Mv.v
 by_cases hs:s = 0
 ·subst hs
  cases o
  all_goals
   go_enter Try.func48,Try.ntmps48
   go_wp2
   all_goals
    go_ret
    refine ⟨in_ret ?_,(Below.refl _ _).alloc (Nat.le_refl _) _⟩
    unfold inR
    (try simp only [beq_iff_eq,beq_eq_false_iff_ne,ne_eq,bne_iff_ne,decide_eq_true_eq,decide_eq_false_iff_not] at *); (first | (simp; done) | (simp; omega) | omega | (simp_all; done) | (simp_all; omega))
 ·have t0:(s == 0) = false:=by simpa using hs
  go_enter Try.func48,Try.ntmps48
  go_wp2
  all_goals
   go_ret
   refine ⟨in_ret ?_,(Below.refl _ _).alloc (Nat.le_refl _) _⟩
   unfold inR
   (try simp only [beq_iff_eq,beq_eq_false_iff_ne,ne_eq,bne_iff_ne,decide_eq_true_eq,decide_eq_false_iff_not] at *); (first | (simp; done) | (simp; omega) | omega | (simp_all; done) | (simp_all; omega))
set_option maxRecDepth 100000 in
set_option maxHeartbeats 1000000 in
theorem inRange_4 (n:Nat) (x y s:Int) (o:Bool) (w:World) (hn:n ≤ 1000) :
 Calls Try.prog 48 #[.int .i64 (n:Int),(Mv.mk 4 x y s o).v] w (InPost n ⟨4,x,y,s,o⟩ w) := by
 unfold Mv.v
 by_cases hs:s = 0
 ·subst hs
  cases o
  all_goals
   go_enter Try.func48,Try.ntmps48
   go_wp2
   all_goals
    go_ret
    refine ⟨in_ret ?_,(Below.refl _ _).alloc (Nat.le_refl _) _⟩
    unfold inR
    (try simp only [beq_iff_eq,beq_eq_false_iff_ne,ne_eq,bne_iff_ne,decide_eq_true_eq,decide_eq_false_iff_not] at *); (first | (simp; done) | (simp; omega) | omega | (simp_all; done) | (simp_all; omega))
 ·have t0:(s == 0) = false:=by simpa using hs
  go_enter Try.func48,Try.ntmps48
  go_wp2
  all_goals
   go_ret
   refine ⟨in_ret ?_,(Below.refl _ _).alloc (Nat.le_refl _) _⟩
   unfold inR
   (try simp only [beq_iff_eq,beq_eq_false_iff_ne,ne_eq,bne_iff_ne,decide_eq_true_eq,decide_eq_false_iff_not] at *); (first | (simp; done) | (simp; omega) | omega | (simp_all; done) | (simp_all; omega))
set_option maxRecDepth 100000 in
set_option maxHeartbeats 1000000 in
theorem inRange_5 (n:Nat) (x y s:Int) (o:Bool) (w:World) (hn:n ≤ 1000) :
 Calls Try.prog 48 #[.int .i64 (n:Int),(Mv.mk 5 x y s o).v] w (InPost n ⟨5,x,y,s,o⟩ w) := by
 unfold Mv.v
 by_cases hs:s = 0
 ·subst hs
  cases o
  all_goals
   go_enter Try.func48,Try.ntmps48
   go_wp2
   all_goals
    go_ret
    refine ⟨in_ret ?_,(Below.refl _ _).alloc (Nat.le_refl _) _⟩
    unfold inR
    (try simp only [beq_iff_eq,beq_eq_false_iff_ne,ne_eq,bne_iff_ne,decide_eq_true_eq,decide_eq_false_iff_not] at *); (first | (simp; done) | (simp; omega) | omega | (simp_all; done) | (simp_all; omega))
 ·have t0:(s == 0) = false:=by simpa using hs
  go_enter Try.func48,Try.ntmps48
  go_wp2
  all_goals
   go_ret
   refine ⟨in_ret ?_,(Below.refl _ _).alloc (Nat.le_refl _) _⟩
   unfold inR
   (try simp only [beq_iff_eq,beq_eq_false_iff_ne,ne_eq,bne_iff_ne,decide_eq_true_eq,decide_eq_false_iff_not] at *); (first | (simp; done) | (simp; omega) | omega | (simp_all; done) | (simp_all; omega))
end Go.Proofs.Ytghdiolnonejaaa
end
section
namespace Go.Proofs.Ytghdiolnonejaaa
open Go Go.RowKit
theorem ints_one (ys:List Int):∀ u ∈ ys.map (Value.int .i64),u.oneCell' = true := by
 intro u hu
 obtain ⟨x,_,rfl⟩:=List.mem_map.1 hu
 rfl
section
variable {P:Program} (w:World)
theorem run_append_int (base:Nat) (t ty e:TypeId) (i:TypeInfo) (z:Value) (bytes:Nat) (ht:P.underlying t = some (.slice e)) (hi:P.info? e = some i) (hz:i.zero = some z)
 (hsize:i.size = 1) (hby:i.bytes = bytes) (hzs:z.cells.size = 1)
 (v:Value) (n:Nat) (xs:List Value) (hown:w.ownsRow base e 1 v n xs)
 (A:Option Addr) (m c:Nat) (ys:List Int) (hin:IntsAt w A m ys)
 (h63:n + m ≤ maxLen) (hbytes:(n + m) * bytes ≤ 140737488355328) (hbase:base ≤ w.heap.size) :
 ∃ v' w',(Builtin.append_ #[t,t] ty #[v,.slice A m c]).run P w = .ok v' w' ∧ w'.ownsRow base e 1 v' (n + m) (xs ++ ys.map (.int .i64)) ∧ w.grownBy w' v.ownBlock := by
 have hl:=hin.len
 rcases Nat.eq_zero_or_pos m with h0 | h0
 ·subst h0
  obtain rfl:ys = [] := List.eq_nil_of_length_eq_zero (by omega)
  have hr:(Builtin.append_ #[t,t] ty #[v,.slice A 0 c]).run P w = .ok v w:=by
   rcases hown.2 with ⟨rfl,rfl⟩ | ⟨g,cap,cur,rfl,_,_,hnc,_⟩
   ·cases A <;> simp [Builtin.append_,run_underlying ht,sizeOf,typeInfo,hi,Builtin.lenOf,Builtin.firstCells,loadCells,loadCellsFrom]
   ·cases A <;> simp [Builtin.append_,run_underlying ht,sizeOf,typeInfo,hi,Builtin.lenOf,Builtin.firstCells,hnc,storeCells,loadCells,loadCellsFrom]
  refine ⟨v,w,hr,by simpa using hown,⟨rfl,rfl,rfl,Nat.le_refl _,fun _ _ _ => rfl⟩⟩
 ·obtain ⟨b,o,rfl,hc⟩:=hin.2 h0
  obtain ⟨v',w',hr,h2,h3,_⟩:=run_append_own (P := P) w base t ty e i z 1 bytes ht hi hz hsize hby hzs (by omega) v n xs hown ⟨b,o,none⟩ m c (ys.map (.int .i64)) (by simpa using hl) (fun j u hu => by
   have:(⟨b,o,none⟩:Addr).add j = ⟨b,o + j,none⟩:=by unfold Addr.add; split <;> simp_all
   rw [this]; exact hc j u hu) (ints_one ys) h63 hbytes hbase
  exact ⟨v',w',hr,h2,h3⟩
theorem wp_append_int {o:Oper} {a:Act} {K:Act → World → Prop} {Q:Exit → Act → World → Prop} (s x:Operand) (t:TypeId)
 (ho:o.op = .call { callee := .builtin .append,args := #[s,x],argTypes := #[t,t] })
 (base:Nat) (e:TypeId) (i:TypeInfo) (z:Value) (bytes:Nat) (ht:P.underlying t = some (.slice e)) (hi:P.info? e = some i) (hz:i.zero = some z)
 (hsize:i.size = 1) (hby:i.bytes = bytes) (hzs:z.cells.size = 1)
 (v:Value) (n:Nat) (xs:List Value) (hs:a.eval s = v) (hown:w.ownsRow base e 1 v n xs)
 (A:Option Addr) (m c:Nat) (ys:List Int) (hx:a.eval x = .slice A m c) (hin:IntsAt w A m ys)
 (h63:n + m ≤ maxLen) (hbytes:(n + m) * bytes ≤ 140737488355328) (hbase:base ≤ w.heap.size)
 (h:∀ v' w',w'.ownsRow base e 1 v' (n + m) (xs ++ ys.map (.int .i64)) → w.grownBy w' v.ownBlock → K (a.put o.dst v') w'):o.wp P a w K Q := by
 obtain ⟨v',w',hr,h2,h3⟩:=run_append_int (P := P) w base t o.type e i z bytes ht hi hz hsize hby hzs v n xs hown A m c ys hin h63 hbytes hbase
 unfold Oper.wp execOp
 simp only [ho,resolve,invoke,builtin,Sem.run_bind,Sem.run_pure,Result.andThen_ok,List.map_toArray,List.map_cons,List.map_nil,hs,hx,hr]
 exact h v' w' h2 h3
theorem wpList_append_int {ops:Array Oper} {rest:List Oper} {o:Oper} {a:Act} {Q:Exit → Act → World → Prop} (hgd:o.guard = none) (s x:Operand) (t:TypeId)
 (ho:o.op = .call { callee := .builtin .append,args := #[s,x],argTypes := #[t,t] })
 (base:Nat) (e:TypeId) (i:TypeInfo) (z:Value) (bytes:Nat) (ht:P.underlying t = some (.slice e)) (hi:P.info? e = some i) (hz:i.zero = some z)
 (hsize:i.size = 1) (hby:i.bytes = bytes) (hzs:z.cells.size = 1)
 (v:Value) (n:Nat) (xs:List Value) (hs:a.eval s = v) (hown:w.ownsRow base e 1 v n xs)
 (A:Option Addr) (m c:Nat) (ys:List Int) (hx:a.eval x = .slice A m c) (hin:IntsAt w A m ys)
 (h63:n + m ≤ maxLen) (hbytes:(n + m) * bytes ≤ 140737488355328) (hbase:base ≤ w.heap.size)
 (h:∀ v' w',w'.ownsRow base e 1 v' (n + m) (xs ++ ys.map (.int .i64)) → w.grownBy w' v.ownBlock → wpList P ops Q rest (a.put o.dst v') w'):wpList P ops Q (o :: rest) a w :=
 wpList_plain hgd fun _ hK => wp_append_int w s x t ho base e i z bytes ht hi hz hsize hby hzs v n xs hs hown A m c ys hx hin h63 hbytes hbase fun v' w' h2 h3 => hK _ _ (h v' w' h2 h3)
end
end Go.Proofs.Ytghdiolnonejaaa
end
section
namespace Go.Proofs.Ytghdiolnonejaaa
open Go Go.ChangeShapes Go.WideShapes Go.ChangeAt Go.RowKit Go.Deep
theorem spot_noneM {w:World} {a:Addr} {v:Value} (h:w.cell? a = some v):a = ⟨a.block,a.off,none⟩:=by
 obtain ⟨b,o,sp⟩:=a
 cases sp with
 | none => rfl
 | some s =>
   unfold World.cell? at h
   simp only at h
   split at h
   ·simp at h
   ·cases h
theorem addr_formM {w:World} {a:Addr} {v:Value} (h:w.cell? (a.add 0) = some v):∃ b o,a = ⟨b,o,none⟩:=⟨_,_,spot_noneM h⟩
section
variable {H:Type} {enc:TypeId × Value → H} {w:World} {base:Nat} {spare:Nat → Bool} {held:Bool} {fuel:Nat}
theorem ints_of_trod {v:Value} {y:DataW H × List MemPlace} (h:DataW.trod enc Try.prog w base spare held fuel 22 [v] = some y):∃ (A:Option Addr) (n c:Nat) (xs:List Int),v = .slice A n c ∧ n ≤ maxLen ∧ IntsAt w A n xs := by
 rcases open_ints Try.underlying22 Try.underlying3 (by kernel_rfl) h with ⟨h1,_⟩ | ⟨a,len,cap,zs,h1,_,hl,hm,hsl,_,hc,_⟩
 ·obtain rfl:v = .slice none 0 0 := by simpa using h1
  exact ⟨none,0,0,[],rfl,by unfold maxLen; omega,RowAt.nil w⟩
 ·obtain rfl:v = .slice (some a) len cap := by simpa using h1
  have hle:len ≤ zs.length:=by rw [hsl]; split <;> omega
  refine ⟨some a,len,cap,zs.take len,rfl,by omega,by simp; omega,fun hn => ?_⟩
  obtain ⟨b,o,rfl⟩:=addr_formM (hc 0 (by omega))
  refine ⟨b,o,rfl,fun j u hu => ?_⟩
  rw [List.getElem?_map] at hu
  obtain ⟨s,hs,rfl⟩:=Option.map_eq_some_iff.1 hu
  have hj:j < len:=by
   rcases Nat.lt_or_ge j len with h | h
   ·exact h
   ·rw [List.getElem?_eq_none (by simp; omega)] at hs; cases hs
  have:=hc j (by omega)
  rw [Addr.add_lit] at this
  rw [this]
  rw [List.getElem?_take_of_lt hj] at hs
  rw [List.getD_eq_getElem?_getD,hs]
  rfl
theorem int_of_trod {v:Value} {y:DataW H × List MemPlace} (h:DataW.trod enc Try.prog w base spare held fuel 3 [v] = some y):∃ n:Int,v = .int .i64 n ∧ -9223372036854775808 ≤ n ∧ n ≤ 9223372036854775807 := by
 obtain ⟨n,h1,_,hw⟩:=DataW.trod_int Try.underlying3 h
 obtain rfl:v = .int .i64 n := by simpa using h1
 refine ⟨n,rfl,?_⟩
 simp only [Lit.wf,Bool.and_eq_true,decide_eq_true_eq] at hw
 have h1:(IntKind.i64.min:Int) = -9223372036854775808:=by rfl
 have h2:(IntKind.i64.max:Int) = 9223372036854775807:=by rfl
 rw [h1,h2] at hw
 exact hw
theorem bool_of_trod {v:Value} {y:DataW H × List MemPlace} (h:DataW.trod enc Try.prog w base spare held fuel 4 [v] = some y):∃ b:Bool,v = .bool b := by
 obtain ⟨b,h1,_⟩:=DataW.trod_bool Try.underlying4 h
 exact ⟨b,by simpa using h1⟩
set_option maxRecDepth 100000 in
theorem open_dg {r:Reach} {b0:Nat} {v:Value} {d:DataW H} {p:List MemPlace} (hval:Value.okWide Try.prog w r b0 24 v) (h:DataW.Trod enc Try.prog w base spare held 24 v d p) :
 ∃ (A B:Option Addr) (n q cp cq:Nat) (sg mt:List Int) (lp:Int),v = .agg #[.slice A n cp,.slice B q cq,.int .i64 lp] ∧ n ≤ maxLen ∧ q ≤ maxLen ∧ IntsAt w A n sg ∧ IntsAt w B q mt ∧ -9223372036854775808 ≤ lp ∧ lp ≤ 9223372036854775807 := by
 obtain ⟨cs,rfl,hsz⟩:=okWide_struct Try.underlying24 hval
 obtain ⟨fuel,hf⟩:=h
 obtain ⟨c0,c1,c2,rfl⟩:∃ c0 c1 c2,cs = #[c0,c1,c2] := by
  have h3:cs.size = 3:=hsz.trans (by kernel_rfl)
  obtain ⟨l⟩:=cs
  match l,h3 with
  | [a,b,c],_ => exact ⟨a,b,c,rfl⟩
 have hf':DataW.trod enc Try.prog w base spare held fuel 24 [c0,c1,c2] = some (d,p):=hf
 obtain ⟨xs,n',_,_,_,hxl,hfld⟩:=DataW.trod_struct Try.underlying24 hf'
 have c22:Try.prog.cellsOf 22 = 1:=by kernel_rfl
 have c3:Try.prog.cellsOf 3 = 1:=by kernel_rfl
 have g0:DataW.trod enc Try.prog w base spare held n' 22 (([c0,c1,c2].drop 0).take (Try.prog.cellsOf 22)) = xs[0]?:=hfld 0 _ rfl
 have g1:DataW.trod enc Try.prog w base spare held n' 22 (([c0,c1,c2].drop 1).take (Try.prog.cellsOf 22)) = xs[1]?:=hfld 1 _ rfl
 have g2:DataW.trod enc Try.prog w base spare held n' 3 (([c0,c1,c2].drop 2).take (Try.prog.cellsOf 3)) = xs[2]?:=hfld 2 _ rfl
 rw [c22] at g0 g1
 rw [c3] at g2
 simp only [List.drop_zero,List.drop_succ_cons,List.take_succ_cons,List.take_zero] at g0 g1 g2
 have x0:xs[0]? = some (xs[0]'(by rw [hxl]; decide)):=List.getElem?_eq_getElem _
 have x1:xs[1]? = some (xs[1]'(by rw [hxl]; decide)):=List.getElem?_eq_getElem _
 have x2:xs[2]? = some (xs[2]'(by rw [hxl]; decide)):=List.getElem?_eq_getElem _
 rw [x0] at g0
 rw [x1] at g1
 rw [x2] at g2
 obtain ⟨A,n,cp,sg,rfl,hn,hs⟩:=ints_of_trod g0
 obtain ⟨B,q,cq,mt,rfl,hq,hm⟩:=ints_of_trod g1
 obtain ⟨lp,rfl,h1,h2⟩:=int_of_trod g2
 exact ⟨A,B,n,q,cp,cq,sg,mt,lp,rfl,hn,hq,hs,hm,h1,h2⟩
set_option maxRecDepth 100000 in
theorem open_mv {r:Reach} {b0:Nat} {v:Value} {d:DataW H} {p:List MemPlace} (hval:Value.okWide Try.prog w r b0 37 v) (h:DataW.Trod enc Try.prog w base spare held 37 v d p) :
 ∃ (k x y s:Int) (o:Bool),v = (Mv.mk k x y s o).v := by
 obtain ⟨cs,rfl,hsz⟩:=okWide_struct Try.underlying37 hval
 obtain ⟨fuel,hf⟩:=h
 obtain ⟨c0,c1,c2,c3',c4,rfl⟩:∃ c0 c1 c2 c3 c4,cs = #[c0,c1,c2,c3,c4] := by
  have h3:cs.size = 5:=hsz.trans (by kernel_rfl)
  obtain ⟨l⟩:=cs
  match l,h3 with
  | [a,b,c,d,e],_ => exact ⟨a,b,c,d,e,rfl⟩
 have hf':DataW.trod enc Try.prog w base spare held fuel 37 [c0,c1,c2,c3',c4] = some (d,p):=hf
 obtain ⟨xs,n',_,_,_,hxl,hfld⟩:=DataW.trod_struct Try.underlying37 hf'
 have e4:Try.prog.cellsOf 4 = 1:=by kernel_rfl
 have e3:Try.prog.cellsOf 3 = 1:=by kernel_rfl
 have g0:DataW.trod enc Try.prog w base spare held n' 3 (([c0,c1,c2,c3',c4].drop 0).take (Try.prog.cellsOf 3)) = xs[0]?:=hfld 0 _ rfl
 have g1:DataW.trod enc Try.prog w base spare held n' 3 (([c0,c1,c2,c3',c4].drop 1).take (Try.prog.cellsOf 3)) = xs[1]?:=hfld 1 _ rfl
 have g2:DataW.trod enc Try.prog w base spare held n' 3 (([c0,c1,c2,c3',c4].drop 2).take (Try.prog.cellsOf 3)) = xs[2]?:=hfld 2 _ rfl
 have g3:DataW.trod enc Try.prog w base spare held n' 3 (([c0,c1,c2,c3',c4].drop 3).take (Try.prog.cellsOf 3)) = xs[3]?:=hfld 3 _ rfl
 have g4:DataW.trod enc Try.prog w base spare held n' 4 (([c0,c1,c2,c3',c4].drop 4).take (Try.prog.cellsOf 4)) = xs[4]?:=hfld 4 _ rfl
 rw [e3] at g0 g1 g2 g3
 rw [e4] at g4
 simp only [List.drop_zero,List.drop_succ_cons,List.take_succ_cons,List.take_zero] at g0 g1 g2 g3 g4
 have x0:xs[0]? = some (xs[0]'(by rw [hxl]; decide)):=List.getElem?_eq_getElem _
 have x1:xs[1]? = some (xs[1]'(by rw [hxl]; decide)):=List.getElem?_eq_getElem _
 have x2:xs[2]? = some (xs[2]'(by rw [hxl]; decide)):=List.getElem?_eq_getElem _
 have x3:xs[3]? = some (xs[3]'(by rw [hxl]; decide)):=List.getElem?_eq_getElem _
 have x4:xs[4]? = some (xs[4]'(by rw [hxl]; decide)):=List.getElem?_eq_getElem _
 rw [x0] at g0
 rw [x1] at g1
 rw [x2] at g2
 rw [x3] at g3
 rw [x4] at g4
 obtain ⟨k,rfl,_⟩:=int_of_trod g0
 obtain ⟨x,rfl,_⟩:=int_of_trod g1
 obtain ⟨y,rfl,_⟩:=int_of_trod g2
 obtain ⟨s,rfl,_⟩:=int_of_trod g3
 obtain ⟨o,rfl⟩:=bool_of_trod g4
 exact ⟨k,x,y,s,o,rfl⟩
end
end Go.Proofs.Ytghdiolnonejaaa
end
section
namespace Go.Proofs.Ytghdiolnonejaaa
open Go Go.ChangeShapes Go.WideShapes Go.ChangeAt Go.RowKit Go.Deep
theorem u8_of {a:Int} (h:(Lit.int .u8 a).wf = true):0 ≤ a ∧ a < 256 := by
 simp only [Lit.wf,Bool.and_eq_true,decide_eq_true_eq] at h
 have h1:(IntKind.u8.min:Int) = 0:=by rfl
 have h2:(IntKind.u8.max:Int) = 255:=by rfl
 rw [h1,h2] at h
 omega
end Go.Proofs.Ytghdiolnonejaaa
end
