/-
 The texts Tb, Ua, Vb, Vc, Vd, Ve, Vg, Vi, Vj, Vk, Vl, Vn, Vp, Vq, Bp, Hb, Hc, Ho, Nf, Uf.
-/
import Derived.Test.YtghdiolnonejaaaGreatDoorE09
import Derived.Test.YtghdiolnonejaaaGreatDoorE10
import Derived.Lib.LaidTab
import Derived.Stop.LaidErr
set_option linter.unusedVariables false
set_option linter.unusedSimpArgs false
section
namespace Go.Proofs.YtghdiolnonejaaaGreatDoor
open Go Go.RowKit
attribute [local go_sem ↓] Go.wp_at_zero Go.wp_at_succ
section
variable {w W W':World} {ga k:Nat} {most:Int} {d r:Pl.Dg} {cs:List Int} {l:List Mv} {v:Value} {A9 B9:Option Addr} {n c8 m c9 lp:Nat}
end
theorem own_row_neM {W:World} {base b n:Nat} {t:TypeId} {v:Value} {xs vs:List Value} (h:W.ownsRow base 43 5 v n xs) (hr:Row W b t vs) (ht:43 ≠ t):some b ≠ v.ownBlock := by
 intro e
 obtain ⟨cs,fr,h3⟩:=ownsRow_block h b e.symm
 rw [hr] at h3
 injection h3 with h3
 injection h3 with _ h4
 exact ht h4.symm
theorem DgT.grownM {w w':World} {A B:Option Addr} {d:Pl.Dg} {base n:Nat} {v:Value} {xs:List Value} (h:DgT w A B d) (ho:w.ownsRow base 43 5 v n xs) (hg:w.grownBy w' v.ownBlock):DgT w' A B d :=
 ⟨h.s.grown hg (fun g e => ownsRow_block ho g e) (by decide),h.m.grown hg (fun g e => ownsRow_block ho g e) (by decide)⟩
end Go.Proofs.YtghdiolnonejaaaGreatDoor
end
section
namespace Go.Proofs.YtghdiolnonejaaaGreatDoor
open Go Go.RowKit
attribute [local go_sem ↓] Go.wp_at_zero Go.wp_at_succ
theorem elemI:Tryz.prog.underlying 22 = some (.slice (Tryz.prog.elem 22)) := by kernel_rfl
theorem sizeI (W:World):(sizeOf (Tryz.prog.elem 22)).run Tryz.prog W = .ok 1 W := by kernel_rfl
theorem cut_hi {w:World} {A:Option Addr} {n c:Nat} {xs:List Int} (h:IntsAt w A n xs) {k:Nat} (hk:k ≤ n) (hc:n ≤ c) :
 ∃ A1:Option Addr,IntsAt w A1 (n - k) (xs.drop k) ∧ ∀ W:World,(Instr.slice 22 (.slice A n c) (some (.int .i64 (k:Int))) none none).run Tryz.prog W = .ok (.slice A1 (n - k) (c - k)) W := by
 have hl:=h.len
 refine ⟨if c = k then A else A.map (·.add (k * 1)),⟨by simp; omega,fun hp => ?_⟩,fun W => ?_⟩
 ·obtain ⟨b,o,rfl,hx⟩:=h.2 (by omega)
  rw [if_neg (by omega)]
  refine ⟨b,o + k,by simp [Addr.add_lit],fun j u hu => ?_⟩
  rw [List.map_drop,List.getElem?_drop] at hu
  rw [Nat.add_assoc]
  exact hx _ u hu
 ·rw [run_slice_l W 22 A n c elemI .i64 (k:Int) (by omega) (by omega),sizeI]
  rfl
section
variable {P:Program} (w:World)
end
end Go.Proofs.YtghdiolnonejaaaGreatDoor
end
section
namespace Go.Proofs.YtghdiolnonejaaaGreatDoor
open Go Go.RowKit
attribute [local go_sem ↓] Go.wp_at_zero Go.wp_at_succ
structure NK (w:World) (dv:List Value) (vO vC:Value) (ns:List Int) (o:List Nat) (cs:List Int) (W:World):Prop where
 d:Row W w.heap.size 24 dv
 nu:IRow W (w.heap.size + 1) ns
 o:W.ownsRow (w.heap.size + 2) 3 1 vO o.length (o.map (fun k:Nat => Value.int .i64 k))
 c:W.ownsRow (w.heap.size + 2) 3 1 vC cs.length (cs.map (.int .i64))
 ne:∀ k,vO.ownBlock = some k → vC.ownBlock ≠ some k
 bel:Below w.heap.size w W
section
variable {w W W2:World} {dv:List Value} {vO vC:Value} {ns:List Int} {o:List Nat} {cs:List Int}
theorem NK.big (h:NK w dv vO vC ns o cs W):w.heap.size + 2 ≤ W.heap.size := by have := Row.lt h.nu; omega
theorem NK.below (h:NK w dv vO vC ns o cs W) (hb:Below W.heap.size W W2):NK w dv vO vC ns o cs W2 :=
 ⟨h.d.below hb,Row.below h.nu hb,own_keep h.o hb (Nat.le_refl _),own_keep h.c hb (Nat.le_refl _),h.ne,h.bel.trans (hb.mono (by have := h.big; omega))⟩
theorem NK.alloc (h:NK w dv vO vC ns o cs W) (b:Obj):NK w dv vO vC ns o cs (W.alloc b) := h.below ((Below.refl _ _).alloc (Nat.le_refl _) b)
theorem NK.setN (h:NK w dv vO vC ns o cs W) (i:Nat) (v:Int):NK w dv vO vC (ns.set i v) o cs (W.setCell ⟨w.heap.size + 1,i,none⟩ (.int .i64 v)) :=
 ⟨h.d.other (by show _ ≠ w.heap.size + 1; omega) _,h.nu.set i v,ownsRow_setCell_below h.o (by show w.heap.size + 1 < w.heap.size + 2; omega) _,ownsRow_setCell_below h.c (by show w.heap.size + 1 < w.heap.size + 2; omega) _,h.ne,h.bel.setCell (by show _ ≤ w.heap.size + 1; omega) _⟩
theorem own_hat {g:Nat} {v:Value} {W:World} {base n:Nat} {xs:List Value} {t:TypeId} (h:W.ownsRow base t 1 v n xs) (hat:v.ownBlock = some g ∨ g = W.heap.size) {u:Value} {m:Nat} {ys:List Value} (hu:W.ownsRow base t 1 u m ys) (ne:∀ k,v.ownBlock = some k → u.ownBlock ≠ some k):u.ownBlock ≠ some g := by
 rcases hat with e | e
 ·exact ne g e
 ·intro e2
  have:=(hu.lt g e2).2
  omega
theorem NK.appO (h:NK w dv vO vC ns o cs W) {g c n:Nat} {o':List Nat} (own:W2.ownsRow (w.heap.size + 2) 3 1 (.slice (some ⟨g,0,none⟩) n c) n (o'.map (fun k:Nat => Value.int .i64 k))) (gr:W.grownBy W2 vO.ownBlock) (hat:vO.ownBlock = some g ∨ g = W.heap.size):NK w dv (.slice (some ⟨g,0,none⟩) n c) vC ns o' cs W2 := by
 have hn:n = o'.length:=by have := own.1; simpa using this.symm
 have hne:=own_hat h.o hat h.c h.ne
 have hle:=h.big
 refine ⟨h.d.grown gr (own_row_ne h.o h.d (by decide)),Row.grown h.nu gr (fun e => ?_),by rw [← hn]; exact own,h.c.kept gr ?_,fun k hk => ?_,h.bel.grown gr (by omega) (fun k hk => by have := (h.o.lt k hk).1; omega)⟩
 ·have:=(h.o.lt _ e.symm).1; omega
 ·cases hm:vC.ownBlock with
  | none => exact .inl rfl
  | some x => exact .inr (fun e => h.ne x e.symm hm)
 ·have e:g = k:=by injection hk
  subst e
  exact hne
theorem NK.appC (h:NK w dv vO vC ns o cs W) {g c n:Nat} {cs':List Int} (own:W2.ownsRow (w.heap.size + 2) 3 1 (.slice (some ⟨g,0,none⟩) n c) n (cs'.map (.int .i64))) (gr:W.grownBy W2 vC.ownBlock) (hat:vC.ownBlock = some g ∨ g = W.heap.size):NK w dv vO (.slice (some ⟨g,0,none⟩) n c) ns o cs' W2 := by
 have hn:n = cs'.length:=by have := own.1; simpa using this.symm
 have hne:=own_hat h.c hat h.o (fun k hk e => h.ne k e hk)
 have hle:=h.big
 refine ⟨h.d.grown gr (own_row_ne h.c h.d (by decide)),Row.grown h.nu gr (fun e => ?_),h.o.kept gr ?_,by rw [← hn]; exact own,fun k hk e => ?_,h.bel.grown gr (by omega) (fun k hk => by have := (h.c.lt k hk).1; omega)⟩
 ·have:=(h.c.lt _ e.symm).1; omega
 ·cases hm:vO.ownBlock with
  | none => exact .inl rfl
  | some x => exact .inr (fun e => h.ne x hm e.symm)
 ·have e:g = k:=by injection e
  subst e
  exact hne hk
end
theorem rep_step (k n:Nat) (h:k < n):(List.replicate k (-1:Int) ++ List.replicate (n - k) 0).set k (-1) = List.replicate (k + 1) (-1) ++ List.replicate (n - (k + 1)) 0 := by
 have e:n - k = (n - (k + 1)) + 1:=by omega
 rw [e,List.replicate_succ,List.set_append_right _ _ (by simp),List.length_replicate,Nat.sub_self,List.set_cons_zero,List.replicate_succ' ,List.append_assoc]
 rfl
theorem cut_mid {w:World} {A:Option Addr} {n c:Nat} {xs:List Int} (h:IntsAt w A n xs) {k:Nat} (hk:k + 5 ≤ n) (hc:n ≤ c) :
 ∃ (A1:Option Addr) (c1:Nat),IntsAt w A1 5 ((xs.drop k).take 5) ∧ ∀ W:World,(Instr.slice 22 (.slice A n c) (some (.int .i64 (k:Int))) (some (.int .i64 ((k + 5:Nat):Int))) none).run Tryz.prog W = .ok (.slice A1 5 c1) W := by
 have hl:=h.len
 obtain ⟨b,o,rfl,hx⟩:=h.2 (by omega)
 refine ⟨some ⟨b,o + k,none⟩,c - k,⟨by simp; omega,fun hp => ⟨b,o + k,rfl,fun j u hu => ?_⟩⟩,fun W => ?_⟩
 ·rw [List.map_take,List.getElem?_take] at hu
  split at hu
  ·rw [List.map_drop,List.getElem?_drop] at hu
   rw [Nat.add_assoc]
   exact hx _ u hu
  ·cases hu
 ·rw [run_slice_lh W 22 (some ⟨b,o,none⟩) n c elemI .i64 .i64 (k:Int) ((k + 5:Nat):Int) (by omega) (by omega) (by omega),sizeI]
  simp only [Result.andThen_ok]
  unfold sliced
  rw [Int.toNat_natCast,Int.toNat_natCast,if_neg (show ¬ c = k by omega),show k + 5 - k = 5 by omega]
  simp [Addr.add_lit]
end Go.Proofs.YtghdiolnonejaaaGreatDoor
end
section
namespace Go.Proofs.YtghdiolnonejaaaGreatDoor
open Go Go.RowKit
attribute [local go_sem ↓] Go.wp_at_zero Go.wp_at_succ
def BestAt (w:World) (v:Value) (k:Nat):Option (List Int) → Prop
 | none => v = .slice none 0 0
 | some bl => ∃ b o c,v = .slice (some ⟨b,o,none⟩) bl.length c ∧ IntsAt w (some ⟨b,o,none⟩) bl.length bl ∧ bl.length = k ∧ bl.length ≤ c
def NumPost (d:Pl.Dg) (r:Nat) (best:Option (List Int)) (w:World) (e:Ending) (w':World):Prop :=
 (0 < Pl.vall best (Pl.code d r) → e = .returned (.tuple #[.slice none 0 0,.slice none 0 0,.int .i64 1])) ∧
 (¬ 0 < Pl.vall best (Pl.code d r) → ∃ vC vO,e = .returned (.tuple #[vC,vO,.int .i64 (Pl.vall best (Pl.code d r))]) ∧ w'.ownsRow w.heap.size 3 1 vC (Pl.code d r).length ((Pl.code d r).map (.int .i64)) ∧ w'.ownsRow w.heap.size 3 1 vO (Pl.ord d r).length ((Pl.ord d r).map (fun k:Nat => Value.int .i64 k))) ∧
 Below w.heap.size w w'
theorem nums_cell {W:World} {g n b:Nat} {o:List Nat} (h:IRow W g (Pl.nums n o)) (hb:b < n):W.cell? ⟨g,b,none⟩ = some (.int .i64 (if b ∈ o then ((o.idxOf b:Nat):Int) else -1)) := by
 rw [h.cell (i := b) (by rw [Pl.nums_len]; exact hb)]
 unfold Pl.pv
 rw [List.getD_eq_getElem?_getD,Pl.nums_get _ hb]
 rfl
theorem one_newsG {g:Nat} (W:World) (x:Value) (h:g = W.heap.size):∀ j u,[x][j]? = some u → (W.alloc (.cells #[x] 3)).cell? ((⟨g,0,none⟩:Addr).add j) = some u := by
 subst h
 exact one_news W x
theorem own_cap {W:World} {base n c:Nat} {e:TypeId} {A:Option Addr} {xs:List Value} (h:W.ownsRow base e 1 (.slice A n c) n xs):n ≤ c := by
 rcases h.2 with ⟨h1,h2⟩ | ⟨g,cap,cur,h1,_,_,h4,_⟩
 ·omega
 ·injection h1 with _ _ h1
  omega
theorem eq_nil (W:World):(binOp BinOp.eql 22 (.slice none 0 0) (.slice none 0 0)).run Tryz.prog W = .ok (.bool true) W := by kernel_rfl
theorem eq_some (W:World) (a:Addr) (n c:Nat):(binOp BinOp.eql 22 (.slice (some a) n c) (.slice none 0 0)).run Tryz.prog W = .ok (.bool false) W := by kernel_rfl
set_option maxRecDepth 100000 in
set_option maxHeartbeats 8000000 in
theorem number_any (d:Pl.Dg) (hd:Pl.Wf d) (A B:Option Addr) (cp cq m r:Nat) (vB:Value) (best:Option (List Int)) (w:World) (hm:m = 4 * d.n) (hg:DgAt w A B d) (hr:r < d.n) (hb:BestAt w vB (Pl.code d r).length best) :
 Calls Tryz.prog 114 #[.agg #[.slice A d.n cp,.slice B m cq,.int .i64 d.lp],.int .i64 (r:Int),vB] w (NumPost d r best w) := by
 have hn:=hd.few
 have HM:=hide hm
 have HG:=hide hg
 have HB:=hide hb
 have HD:=hide hd
 have HOL:=hide (Pl.ord_len hd hr)
 clear hm hg hb
 have X0:=hide (row_at (W := w) (g := w.heap.size) (t := 24) (vs := [.slice A d.n cp,.slice B m cq,.int .i64 d.lp]) rfl)
 have B0:=hide (show Below w.heap.size w (w.alloc (.cells #[.slice A d.n cp,.slice B m cq,.int .i64 d.lp] 24)) from (Below.refl _ _).alloc (Nat.le_refl _) _)
 have hmk:=fun W:World => run_ints d.n (by omega) W
 obtain ⟨d0,d1,d2,d3⟩:=box3 X0.out
 have Y0:=hide (show Row ((w.alloc (.cells #[.slice A d.n cp,.slice B m cq,.int .i64 d.lp] 24)).alloc (.cells (Array.replicate d.n (Value.int .i64 0)) 3)) w.heap.size 24 [.slice A d.n cp,.slice B m cq,.int .i64 d.lp] ∧ IRow ((w.alloc (.cells #[.slice A d.n cp,.slice B m cq,.int .i64 d.lp] 24)).alloc (.cells (Array.replicate d.n (Value.int .i64 0)) 3)) (w.heap.size + 1) (List.replicate 0 (-1) ++ List.replicate (d.n - 0) 0) ∧ Below w.heap.size w ((w.alloc (.cells #[.slice A d.n cp,.slice B m cq,.int .i64 d.lp] 24)).alloc (.cells (Array.replicate d.n (Value.int .i64 0)) 3)) from by
  refine ⟨X0.out.alloc _,?_,B0.out.alloc B0.out.size _⟩
  have h:=IRow.made (w.alloc (.cells #[.slice A d.n cp,.slice B m cq,.int .i64 d.lp] 24)) d.n
  simpa using h)
 go_enter Tryz.func114,Tryz.ntmps114
 go_wp2
 clear hmk d0 d1 d2 d3 X0 B0
 go_loopg [10,24] d.n (fun g s10 i wx => ∃ k:Nat,k + g = d.n ∧ i = .int .i64 k ∧ Row wx w.heap.size 24 [.slice A d.n cp,.slice B m cq,.int .i64 d.lp] ∧ IRow wx (w.heap.size + 1) (List.replicate k (-1) ++ List.replicate (d.n - k) 0) ∧ Below w.heap.size w wx)
 case atStart => exact ⟨0,by omega,rfl,Y0.out.1,Y0.out.2.1,Y0.out.2.2⟩
 case round =>
  clear Y0
  obtain ⟨k,hkg,rfl,h1,h2,h3⟩:=hrel
  have HKG:=hide hkg
  have H1:=hide h1
  have H2:=hide h2
  have H3:=hide h3
  clear h1 h2 h3
  by_cases hk:k < d.n
  ·have hki:(k:Int) < (d.n:Int):=by omega
   have k0:(0:Int) ≤ (k:Int):=by omega
   have c1:=H2.out.cell (i := k) (by simp; omega)
   have f1:=Row.free H2.out k
   have hl:=Row.lt H2.out
   clear hkg
   go_wp2
   go_roundg (gk - 1)
   case measure => have := HKG.out; omega
   case rel =>
    refine ⟨k + 1,by have := HKG.out; omega,by go_num,H1.out.other (by show _ ≠ w.heap.size + 1; omega) _,?_,H3.out.setCell (by show _ ≤ w.heap.size + 1; omega) _⟩
    have:=H2.out.set k (-1)
    rw [rep_step k d.n hk] at this
    exact this
  ·have hki:¬ ((k:Int) < (d.n:Int)):=by omega
   have hkn:k = d.n:=by omega
   subst hkn
   clear hkg HKG
   have hl:=Row.lt H2.out
   have K1:=hide (show NK w [.slice A d.n cp,.slice B m cq,.int .i64 d.lp] (.slice (some ⟨wr.heap.size,0,none⟩) 1 1) (.slice none 0 0) (Pl.nums d.n [r]) [r] [] ((wr.setCell ⟨w.heap.size + 1,r,none⟩ (.int .i64 0)).alloc (.cells #[.int .i64 (r:Int)] 3)) from by
    have hs:(wr.setCell ⟨w.heap.size + 1,r,none⟩ (.int .i64 0)).heap.size = wr.heap.size:=by simp
    refine ⟨(H1.out.other (by show _ ≠ w.heap.size + 1; omega) _).alloc _,?_,?_,World.ownsRow_nil _ _ _ _,fun k hk => by simp [Value.ownBlock],(H3.out.setCell (by show _ ≤ w.heap.size + 1; omega) _).alloc (by rw [hs]; exact H3.out.size) _⟩
    ·have h:=H2.out.set r 0
     rw [Nat.sub_self,List.replicate_zero,List.append_nil,← Pl.nums_one hr] at h
     exact Row.alloc h _
    ·have h:=own_one (wr.setCell ⟨w.heap.size + 1,r,none⟩ (.int .i64 0)) (.int .i64 (r:Int))
     rw [hs] at h
     exact ⟨h.1,h.2.imp id (fun ⟨g,cap,cur,r1,r2,r3⟩ => ⟨g,cap,cur,r1,by omega,r3⟩)⟩)
   have r0:(0:Int) ≤ (r:Int):=by omega
   have r1:(r:Int) < (d.n:Int):=by omega
   have c1:=IRow.cell H2.out (i := r) (by simp; omega)
   have f1:=Row.free H2.out r
   clear H1 H2 H3
   go_upto_region 11 with fail
   obtain ⟨V,hV⟩:∃ V,V = (wr.setCell ⟨w.heap.size + 1,r,none⟩ (.int .i64 0)).alloc (.cells #[.int .i64 (r:Int)] 3) := ⟨_,rfl⟩
   obtain ⟨g0,hg0⟩:∃ g,g = wr.heap.size := ⟨_,rfl⟩
   rw [← hV,← hg0] at K1 ⊢
   clear hV hg0 c1 f1 r0 r1 hl
   obtain ⟨L,hL⟩:∃ L,L = (Pl.ord d r).length := ⟨_,rfl⟩
   have HL:=hide hL
   have hLn:L ≤ d.n:=by rw [hL]; exact HOL.out
   have HCL:=hide (show (Pl.code d r).length = 5 * L by rw [hL]; exact Pl.code_len r)
   clear hL
   have hsp:(best = none ∧ vB = .slice none 0 0 ∧ Pl.vdt best (Pl.code d r) 0 = -1) ∨ (∃ b o n c,vB = .slice (some ⟨b,o,none⟩) n c ∧ Pl.vdt best (Pl.code d r) 0 = 0):=by
    cases best with
    | none => exact .inl ⟨rfl,HB.out,rfl⟩
    | some bl =>
      obtain ⟨b,o,c,e,_⟩:=HB.out
      exact .inr ⟨b,o,_,c,e,by simp [Pl.vdt,Pl.lx]⟩
   rcases hsp with ⟨hb0,rfl,hv0⟩ | ⟨bb,bo,bn,bc,rfl,hv0⟩
   all_goals
    have HV0:=hide hv0
    clear hv0
   ·have hq:=eq_nil
    have HB0:=hide hb0
    clear hb0
    go_wp2_with fail
    clear hq
    go_loopg [11,12,13,14,15,16,17,56] L (fun g s11 s12 s13 s14 s15 s16 s17 s56 wx => ∃ (i:Nat) (v:Int),i + g = L ∧ s14 = .int .i64 (i:Int) ∧ s13 = .int .i64 v ∧ v = Pl.vdt best (Pl.code d r) (5 * i) ∧ v ≤ 0 ∧ NK w [.slice A d.n cp,.slice B m cq,.int .i64 d.lp] s11 s12 (Pl.nums d.n (Pl.ordK d r i)) (Pl.ordK d r i) ((Pl.code d r).take (5 * i)) wx)
    case atStart => exact ⟨0,_,by omega,rfl,rfl,HV0.out.symm,by omega,K1.out⟩
    case round =>
     clear K1 HV0
     obtain ⟨i,v,hig,rfl,rfl,hv,hv0,hk⟩:=hrel
     have HIG:=hide hig
     have HV:=hide hv
     have hiL:i ≤ L:=by omega
     obtain ⟨o,ho⟩:∃ o,o = Pl.ordK d r i := ⟨_,rfl⟩
     obtain ⟨cs,hcs⟩:∃ cs,cs = (Pl.code d r).take (5 * i) := ⟨_,rfl⟩
     rw [← ho,← hcs] at hk
     have K0:=hide hk
     have HO:=hide ho
     have HCS:=hide hcs
     have hl5:o.length ≤ 64:=by rw [ho]; have := (Pl.ordK_ok HD.out hr i).len; omega
     have hl6:cs.length ≤ 320:=by rw [hcs,List.length_take]; omega
     clear hk hv ho hcs
     obtain ⟨go,rfl⟩:∃ go,go = gk := ⟨_,rfl⟩
     obtain ⟨A5,c5,rfl⟩:=owns_slice K0.out.o
     obtain ⟨A6,c6,rfl⟩:=owns_slice K0.out.c
     by_cases hi:i < L
     ·have hil:i < o.length:=by rw [HO.out]; exact Pl.order_lt (by omega) (by rw [← HL.out]; exact hi)
      have hki:(i:Int) < ((o.length:Nat):Int):=by omega
      have k0:(0:Int) ≤ (i:Int):=by omega
      obtain ⟨c,hc⟩:∃ c,o[i]? = some c := ⟨_,List.getElem?_eq_getElem hil⟩
      have HC:=hide (show (Pl.ordK d r i)[i]? = some c by rw [← HO.out]; exact hc)
      have hcn:c < d.n:=((Pl.ordK_ok HD.out hr i).mem c (List.mem_of_getElem? HC.out)).1
      have HS:=hide (Pl.code_sgn (Pl.pre_get (Pl.ordK_ord r (by omega)) HC.out))
      have hO:IntsAt wr A5 o.length (nats o):=own_ints' (by rw [map_nats]; exact K0.out.o)
      obtain ⟨b5,o5,rfl,x5⟩:=nats_at hO hil
      have hcg:o.getD i 0 = c:=by rw [List.getD_eq_getElem?_getD,hc]; rfl
      rw [hcg] at x5
      obtain ⟨b1,o1,rfl,x1⟩:=sign_at (HG.out.keep K0.out.bel).s hcn
      obtain ⟨d0,d1,d2,d3⟩:=box3 K0.out.d
      have c0:(0:Int) ≤ (c:Int):=by omega
      have c1:(c:Int) < (d.n:Int):=by omega
      clear hc hO hcg hig
      obtain ⟨i0,hi0,hz0,hz1,hz2⟩:=info_parts intInfo
      obtain ⟨sv,hsv⟩:∃ x,x = d.s c := ⟨_,rfl⟩
      rw [← hsv] at x1
      have HSV:=hide hsv
      clear hsv
      have KA:=hide (K0.out.alloc (.cells #[.int .i64 sv] 3))
      go_upto_region 18 with (at_builtin; refine wpList_append_lies _ (by rfl) _ _ 22 (by rfl) (w.heap.size + 2) 3 i0 (.int .i64 0) 1 8 Tryz.underlying22 hi0 hz0 hz1 hz2 rfl (by omega) _ cs.length _ (by rfl) KA.out.c ⟨wr.heap.size,0,none⟩ 1 1 [.int .i64 sv] (by rfl) (by rfl) (one_news _ _) (by simp [Value.oneCell']) (by omega) (by unfold maxLen; omega) (by omega) KA.out.big (wr.heap.size + 1) (by simp) ?_; intro g3 c3 w3 own3 grow3 at3 lt3; have OWN3 := hide own3; have GR3 := hide grow3; have AT3 := hide at3; clear own3 grow3 at3)
      have KB:=hide (show NK w [.slice (some ⟨b1,o1,none⟩) d.n cp,.slice B m cq,.int .i64 d.lp] (.slice (some ⟨b5,o5,none⟩) o.length c5) (.slice (some ⟨g3,0,none⟩) (cs.length + 1) c3) (Pl.nums d.n o) o ((Pl.code d r).take (5 * i + 1)) w3 from by
       rw [Pl.take_one HS.out,← HCS.out,← HSV.out]
       exact KA.out.appC (by rw [List.map_append]; exact OWN3.out) GR3.out (by simpa using AT3.out))
      clear KA OWN3 GR3 AT3 K0 x5 x1 d0 d1 d2 d3 hki k0 hil
      go_wp2_with fail
      go_loopg [11,12,16,17,56] 4 (fun g s11 s12 s16 s17 s56 wx => ∃ s:Nat,s + g = 4 ∧ s56 = .int .i64 (s:Int) ∧ NK w [.slice (some ⟨b1,o1,none⟩) d.n cp,.slice B m cq,.int .i64 d.lp] s11 s12 (Pl.nums d.n (Pl.addS d o c s)) (Pl.addS d o c s) ((Pl.code d r).take (5 * i + 1 + s)) wx)
      case atStart => exact ⟨0,rfl,rfl,KB.out⟩
      case round =>
       clear KB
       obtain ⟨s,hsg,rfl,hk⟩:=hrel
       have HSG:=hide hsg
       obtain ⟨q,hq⟩:∃ q,q = Pl.addS d o c s := ⟨_,rfl⟩
       obtain ⟨cs,hcs⟩:∃ cs,cs = (Pl.code d r).take (5 * i + 1 + s) := ⟨_,rfl⟩
       rw [← hq,← hcs] at hk
       have K0:=hide hk
       have HQ:=hide hq
       have HCS:=hide hcs
       have hs4:s ≤ 4:=by omega
       have hl5:q.length ≤ 64:=by
        have h:=(Pl.add_ord (d := d) (r := r) (i := i) (s := s) (by omega) HC.out hs4).length_le
        have:=HOL.out
        rw [hq,HO.out]
        omega
       have hl6:cs.length ≤ 330:=by rw [hcs,List.length_take]; omega
       clear hk hq hcs
       obtain ⟨A5,c5,rfl⟩:=owns_slice K0.out.o
       obtain ⟨A6,c6,rfl⟩:=owns_slice K0.out.c
       obtain ⟨gi,rfl⟩:∃ gi,gi = gk := ⟨_,rfl⟩
       by_cases hs:s < 4
       ·have hsi:(s:Int) < 4:=by omega
        have s0:(0:Int) ≤ (s:Int):=by omega
        have hh:4 * c + s < 4 * d.n:=by omega
        have hlt:=HD.out.lt (4 * c + s) hh
        have HX:=hide (Pl.code_step (d := d) (r := r) (i := i) (c := c) (s := s) (by omega) HC.out hs)
        rw [← HO.out] at HX
        obtain ⟨b2,o2,rfl,x2⟩:=mate_at (d := d) (by rw [← HM.out]; have := (HG.out.keep K0.out.bel).m; rwa [← HM.out] at this) hh
        have hmm:m = 4 * d.n:=HM.out
        have i2:(4:Int) * (c:Int) + (s:Int) < (m:Int):=by omega
        clear hmm
        obtain ⟨u,hu⟩:∃ u,u = d.m (4 * c + s) := ⟨_,rfl⟩
        rw [← hu] at x2 hlt
        obtain ⟨b,hb⟩:∃ b,b = u / 4 := ⟨_,rfl⟩
        obtain ⟨t,ht⟩:∃ t,t = u % 4 := ⟨_,rfl⟩
        have hbn:b < d.n:=by omega
        have ht4:t < 4:=by omega
        have q1:(u:Int).tdiv 4 = (b:Int):=by rw [hb]; rfl
        have q2:(u:Int).tmod 4 = (t:Int):=by rw [ht]; rfl
        have q3:(u:Int) / 4 = (b:Int):=by omega
        have q4:(u:Int) % 4 = (t:Int):=by omega
        have HBB:=hide (show Pl.nb d c s = b by unfold Pl.nb; rw [← hu,hb])
        have HT:=hide (show d.m (4 * c + s) % 4 = t by rw [← hu,ht])
        clear hu hb ht hh hsg
        obtain ⟨d0,d1,d2,d3⟩:=box3 K0.out.d
        have bi0:(0:Int) ≤ (b:Int):=by omega
        have bi1:(b:Int) < (d.n:Int):=by omega
        have hnc:=nums_cell K0.out.nu hbn
        have hl0:w.heap.size + 1 < wr.heap.size:=Row.lt K0.out.nu
        by_cases hbq:b ∈ q
        ·have HBQ:=hide hbq
         rw [if_pos hbq] at hnc
         obtain ⟨j,hj⟩:∃ j,j = q.idxOf b := ⟨_,rfl⟩
         rw [← hj] at hnc
         have hjl:j < 64:=by rw [hj]; have := List.idxOf_lt_length_of_mem hbq; omega
         have HJ:=hide hj
         clear hbq hj
         have j0:¬ ((j:Int) < 0):=by omega
         have KA:=hide (K0.out.alloc (.cells #[.int .i64 (4 * (j:Int) + (t:Int))] 3))
         go_wp2_with (first | (at_builtin; refine wpList_append_lies _ (by rfl) _ _ 22 (by rfl) (w.heap.size + 2) 3 i0 (.int .i64 0) 1 8 Tryz.underlying22 hi0 hz0 hz1 hz2 rfl (by omega) _ cs.length _ (by rfl) KA.out.c ⟨wr.heap.size,0,none⟩ 1 1 [.int .i64 (4 * (j:Int) + (t:Int))] (by rfl) (by rfl) (one_news _ _) (by simp [Value.oneCell']) (by omega) (by unfold maxLen; omega) (by omega) KA.out.big (wr.heap.size + 1) (by simp) ?_; intro g3 c3 w3 own3 grow3 at3 lt3; have OWN3 := hide own3; have GR3 := hide grow3; have AT3 := hide at3; clear own3 grow3 at3))
         go_roundg (gi - 1)
         case measure => have := HSG.out; omega
         case rel =>
          refine ⟨s + 1,by have := HSG.out; omega,by go_num,?_⟩
          have e1:Pl.addS d o c (s + 1) = q:=by
           show Pl.addN (Pl.addS d o c s) (Pl.nb d c s) = q
           rw [← HQ.out,HBB.out]
           unfold Pl.addN
           rw [if_pos HBQ.out]
          have e2:(Pl.code d r).take (5 * i + 1 + (s + 1)) = cs ++ [4 * (j:Int) + (t:Int)]:=by
           have hx:=HX.out
           rw [e1,HBB.out,HT.out,← HJ.out] at hx
           rw [show 5 * i + 1 + (s + 1) = 5 * i + 1 + s + 1 by omega,Pl.take_one hx,← HCS.out]
           congr 2
          rw [e1,e2]
          exact KA.out.appC (by rw [List.map_append]; exact OWN3.out) GR3.out (by simpa using AT3.out)
        ·have HBQ:=hide hbq
         rw [if_neg hbq] at hnc
         have f1:=Row.free K0.out.nu b
         have K1:=hide (K0.out.setN b (q.length:Int))
         rw [← Pl.nums_add hbn hbq] at K1
         have KA:=hide (K1.out.alloc (.cells #[.int .i64 (b:Int)] 3))
         clear hbq
         go_upto_region 25 with (at_builtin; refine wpList_append_lies _ (by rfl) _ _ 22 (by rfl) (w.heap.size + 2) 3 i0 (.int .i64 0) 1 8 Tryz.underlying22 hi0 hz0 hz1 hz2 rfl (by omega) _ q.length _ (by rfl) KA.out.o ⟨wr.heap.size,0,none⟩ 1 1 [.int .i64 (b:Int)] (by rfl) (by rfl) (one_newsG _ _ (by simp)) (by simp [Value.oneCell']) (by omega) (by unfold maxLen; omega) (by omega) KA.out.big (wr.heap.size + 1) (by simp) ?_; intro g3 c3 w3 own3 grow3 at3 lt3; have OWN3 := hide own3; have GR3 := hide grow3; have AT3 := hide at3; clear own3 grow3 at3)
         have KB:=hide (KA.out.appO (o' := q ++ [b]) (by rw [List.map_append]; exact OWN3.out) GR3.out (by simpa using AT3.out))
         clear KA K1 K0 OWN3 GR3 AT3 hnc f1 d0 d1 d2 d3 x2
         have hnc:=nums_cell KB.out.nu hbn
         have hin:b ∈ q ++ [b]:=by simp
         have hix:(q ++ [b]).idxOf b = q.length:=by rw [List.idxOf_append,if_neg HBQ.out]; simp
         rw [if_pos hin,hix] at hnc
         clear hin
         have HIX:=hide hix
         clear hix
         have KC:=hide (KB.out.alloc (.cells #[.int .i64 (4 * (q.length:Int) + (t:Int))] 3))
         go_wp2_with (at_builtin; refine wpList_append_lies _ (by rfl) _ _ 22 (by rfl) (w.heap.size + 2) 3 i0 (.int .i64 0) 1 8 Tryz.underlying22 hi0 hz0 hz1 hz2 rfl (by omega) _ cs.length _ (by rfl) KC.out.c ⟨w3.heap.size,0,none⟩ 1 1 [.int .i64 (4 * (q.length:Int) + (t:Int))] (by rfl) (by rfl) (one_news _ _) (by simp [Value.oneCell']) (by omega) (by unfold maxLen; omega) (by omega) KC.out.big (w3.heap.size + 1) (by simp) ?_; intro g4 c4 w4 own3 grow3 at3 lt4; have OWN3 := hide own3; have GR3 := hide grow3; have AT3 := hide at3; clear own3 grow3 at3)
         go_roundg (gi - 1)
         case measure => have := HSG.out; omega
         case rel =>
          refine ⟨s + 1,by have := HSG.out; omega,by go_num,?_⟩
          have e1:Pl.addS d o c (s + 1) = q ++ [b]:=by
           show Pl.addN (Pl.addS d o c s) (Pl.nb d c s) = q ++ [b]
           rw [← HQ.out,HBB.out]
           unfold Pl.addN
           rw [if_neg HBQ.out]
          have e2:(Pl.code d r).take (5 * i + 1 + (s + 1)) = cs ++ [4 * (q.length:Int) + (t:Int)]:=by
           have hx:=HX.out
           rw [e1,HBB.out,HT.out,HIX.out] at hx
           rw [show 5 * i + 1 + (s + 1) = 5 * i + 1 + s + 1 by omega,Pl.take_one hx,← HCS.out]
           congr 2
          rw [e1,e2]
          exact KC.out.appC (by rw [List.map_append]; exact OWN3.out) GR3.out (by simpa using AT3.out)
       ·have hsi:¬ ((s:Int) < 4):=by omega
        have hs5:s = 4:=by omega
        have K5:=hide (show NK w [.slice (some ⟨b1,o1,none⟩) d.n cp,.slice B m cq,.int .i64 d.lp] (.slice A5 q.length c5) (.slice A6 cs.length c6) (Pl.nums d.n (Pl.ordK d r (i + 1))) (Pl.ordK d r (i + 1)) ((Pl.code d r).take (5 * (i + 1))) wr from by
         rw [Pl.ordK_some HC.out,← HO.out,← hs5,← HQ.out,show 5 * (i + 1) = 5 * i + 1 + s by omega,← HCS.out]
         exact K0.out)
        clear hs5
        have hvm:v = -1:=by rw [HV.out,HB0.out]; rfl
        have HVN:=hide (show (-1:Int) = Pl.vdt best (Pl.code d r) (5 * (i + 1)) by rw [HB0.out]; rfl)
        subst hvm
        clear hsg
        go_wp2
        go_roundg (go - 1)
        case measure => have := HIG.out; omega
        case rel => exact ⟨i + 1,-1,by have := HIG.out; omega,by go_num,rfl,HVN.out,by omega,K5.out⟩
     ·have hki : ¬ ((i : Int) < ((o.length : Nat) : Int)) := by
       have h1:=(Pl.ordK_ord (d := d) r (k := i) (by omega)).length_le
       have h2:=HL.out
       rw [HO.out]
       omega
      have hiL2:i = L:=by omega
      have HE:=hide (show o = Pl.ord d r ∧ cs = Pl.code d r by
       have h1:=(Pl.ordK_ord (d := d) r (k := i) (by omega)).length_le
       have h2:=HL.out
       rw [HO.out,HCS.out]
       exact ⟨Pl.ord_eq (by omega) (by omega),List.take_of_length_le (by rw [HCL.out]; omega)⟩)
      have HVE:=hide (show v = Pl.vall best (Pl.code d r) by
       rw [HV.out]
       refine (Pl.vdt_all (by rw [HCL.out]; omega) (fun b e => ?_))
       have h:=HB.out
       rw [e] at h
       obtain ⟨_,_,_,_,_,h3,_⟩:=h
       rw [h3,HCL.out]; omega)
      clear hig hiL2
      go_wp2
      refine bodyPost_ret (v := .tuple #[.slice A6 cs.length c6,.slice A5 o.length c5,.int .i64 v]) ?_ rfl ⟨fun h => ?_,fun _ => ⟨_,_,by rw [← HVE.out],?_,?_⟩,K0.out.bel⟩
      ·simp [results,Tryz.results114,go_sem]
      ·rw [← HVE.out] at h; omega
      ·have h:=K0.out.c
       rw [HE.out.2] at h
       rw [HE.out.2]
       exact own_base h (by omega)
      ·have h:=K0.out.o
       rw [HE.out.1] at h
       rw [HE.out.1]
       exact own_base h (by omega)
   ·have hq:=fun W => eq_some W ⟨bb,bo,none⟩ bn bc
    go_wp2_with fail
    clear hq
    go_loopg [11,12,13,14,15,16,17,56] L (fun g s11 s12 s13 s14 s15 s16 s17 s56 wx => ∃ (i:Nat) (v:Int),i + g = L ∧ s14 = .int .i64 (i:Int) ∧ s13 = .int .i64 v ∧ v = Pl.vdt best (Pl.code d r) (5 * i) ∧ v ≤ 0 ∧ NK w [.slice A d.n cp,.slice B m cq,.int .i64 d.lp] s11 s12 (Pl.nums d.n (Pl.ordK d r i)) (Pl.ordK d r i) ((Pl.code d r).take (5 * i)) wx)
    case atStart => exact ⟨0,_,by omega,rfl,rfl,HV0.out.symm,by omega,K1.out⟩
    case round =>
     clear K1 HV0
     obtain ⟨i,v,hig,rfl,rfl,hv,hv0,hk⟩:=hrel
     have HIG:=hide hig
     have HV:=hide hv
     have hiL:i ≤ L:=by omega
     obtain ⟨o,ho⟩:∃ o,o = Pl.ordK d r i := ⟨_,rfl⟩
     obtain ⟨cs,hcs⟩:∃ cs,cs = (Pl.code d r).take (5 * i) := ⟨_,rfl⟩
     rw [← ho,← hcs] at hk
     have K0:=hide hk
     have HO:=hide ho
     have HCS:=hide hcs
     have hl5:o.length ≤ 64:=by rw [ho]; have := (Pl.ordK_ok HD.out hr i).len; omega
     have hl6:cs.length ≤ 320:=by rw [hcs,List.length_take]; omega
     clear hk hv ho hcs
     obtain ⟨go,rfl⟩:∃ go,go = gk := ⟨_,rfl⟩
     obtain ⟨A5,c5,rfl⟩:=owns_slice K0.out.o
     obtain ⟨A6,c6,rfl⟩:=owns_slice K0.out.c
     by_cases hi:i < L
     ·have hil:i < o.length:=by rw [HO.out]; exact Pl.order_lt (by omega) (by rw [← HL.out]; exact hi)
      have hki:(i:Int) < ((o.length:Nat):Int):=by omega
      have k0:(0:Int) ≤ (i:Int):=by omega
      obtain ⟨c,hc⟩:∃ c,o[i]? = some c := ⟨_,List.getElem?_eq_getElem hil⟩
      have HC:=hide (show (Pl.ordK d r i)[i]? = some c by rw [← HO.out]; exact hc)
      have hcn:c < d.n:=((Pl.ordK_ok HD.out hr i).mem c (List.mem_of_getElem? HC.out)).1
      have HS:=hide (Pl.code_sgn (Pl.pre_get (Pl.ordK_ord r (by omega)) HC.out))
      have hO:IntsAt wr A5 o.length (nats o):=own_ints' (by rw [map_nats]; exact K0.out.o)
      obtain ⟨b5,o5,rfl,x5⟩:=nats_at hO hil
      have hcg:o.getD i 0 = c:=by rw [List.getD_eq_getElem?_getD,hc]; rfl
      rw [hcg] at x5
      obtain ⟨b1,o1,rfl,x1⟩:=sign_at (HG.out.keep K0.out.bel).s hcn
      obtain ⟨d0,d1,d2,d3⟩:=box3 K0.out.d
      have c0:(0:Int) ≤ (c:Int):=by omega
      have c1:(c:Int) < (d.n:Int):=by omega
      clear hc hO hcg hig
      obtain ⟨i0,hi0,hz0,hz1,hz2⟩:=info_parts intInfo
      obtain ⟨sv,hsv⟩:∃ x,x = d.s c := ⟨_,rfl⟩
      rw [← hsv] at x1
      have HSV:=hide hsv
      clear hsv
      have KA:=hide (K0.out.alloc (.cells #[.int .i64 sv] 3))
      go_upto_region 18 with (at_builtin; refine wpList_append_lies _ (by rfl) _ _ 22 (by rfl) (w.heap.size + 2) 3 i0 (.int .i64 0) 1 8 Tryz.underlying22 hi0 hz0 hz1 hz2 rfl (by omega) _ cs.length _ (by rfl) KA.out.c ⟨wr.heap.size,0,none⟩ 1 1 [.int .i64 sv] (by rfl) (by rfl) (one_news _ _) (by simp [Value.oneCell']) (by omega) (by unfold maxLen; omega) (by omega) KA.out.big (wr.heap.size + 1) (by simp) ?_; intro g3 c3 w3 own3 grow3 at3 lt3; have OWN3 := hide own3; have GR3 := hide grow3; have AT3 := hide at3; clear own3 grow3 at3)
      have KB:=hide (show NK w [.slice (some ⟨b1,o1,none⟩) d.n cp,.slice B m cq,.int .i64 d.lp] (.slice (some ⟨b5,o5,none⟩) o.length c5) (.slice (some ⟨g3,0,none⟩) (cs.length + 1) c3) (Pl.nums d.n o) o ((Pl.code d r).take (5 * i + 1)) w3 from by
       rw [Pl.take_one HS.out,← HCS.out,← HSV.out]
       exact KA.out.appC (by rw [List.map_append]; exact OWN3.out) GR3.out (by simpa using AT3.out))
      clear KA OWN3 GR3 AT3 K0 x5 x1 d0 d1 d2 d3 hki k0 hil
      go_wp2_with fail
      go_loopg [11,12,16,17,56] 4 (fun g s11 s12 s16 s17 s56 wx => ∃ s:Nat,s + g = 4 ∧ s56 = .int .i64 (s:Int) ∧ NK w [.slice (some ⟨b1,o1,none⟩) d.n cp,.slice B m cq,.int .i64 d.lp] s11 s12 (Pl.nums d.n (Pl.addS d o c s)) (Pl.addS d o c s) ((Pl.code d r).take (5 * i + 1 + s)) wx)
      case atStart => exact ⟨0,rfl,rfl,KB.out⟩
      case round =>
       clear KB
       obtain ⟨s,hsg,rfl,hk⟩:=hrel
       have HSG:=hide hsg
       obtain ⟨q,hq⟩:∃ q,q = Pl.addS d o c s := ⟨_,rfl⟩
       obtain ⟨cs,hcs⟩:∃ cs,cs = (Pl.code d r).take (5 * i + 1 + s) := ⟨_,rfl⟩
       rw [← hq,← hcs] at hk
       have K0:=hide hk
       have HQ:=hide hq
       have HCS:=hide hcs
       have hs4:s ≤ 4:=by omega
       have hl5:q.length ≤ 64:=by
        have h:=(Pl.add_ord (d := d) (r := r) (i := i) (s := s) (by omega) HC.out hs4).length_le
        have:=HOL.out
        rw [hq,HO.out]
        omega
       have hl6:cs.length ≤ 330:=by rw [hcs,List.length_take]; omega
       clear hk hq hcs
       obtain ⟨A5,c5,rfl⟩:=owns_slice K0.out.o
       obtain ⟨A6,c6,rfl⟩:=owns_slice K0.out.c
       obtain ⟨gi,rfl⟩:∃ gi,gi = gk := ⟨_,rfl⟩
       by_cases hs:s < 4
       ·have hsi:(s:Int) < 4:=by omega
        have s0:(0:Int) ≤ (s:Int):=by omega
        have hh:4 * c + s < 4 * d.n:=by omega
        have hlt:=HD.out.lt (4 * c + s) hh
        have HX:=hide (Pl.code_step (d := d) (r := r) (i := i) (c := c) (s := s) (by omega) HC.out hs)
        rw [← HO.out] at HX
        obtain ⟨b2,o2,rfl,x2⟩:=mate_at (d := d) (by rw [← HM.out]; have := (HG.out.keep K0.out.bel).m; rwa [← HM.out] at this) hh
        have hmm:m = 4 * d.n:=HM.out
        have i2:(4:Int) * (c:Int) + (s:Int) < (m:Int):=by omega
        clear hmm
        obtain ⟨u,hu⟩:∃ u,u = d.m (4 * c + s) := ⟨_,rfl⟩
        rw [← hu] at x2 hlt
        obtain ⟨b,hb⟩:∃ b,b = u / 4 := ⟨_,rfl⟩
        obtain ⟨t,ht⟩:∃ t,t = u % 4 := ⟨_,rfl⟩
        have hbn:b < d.n:=by omega
        have ht4:t < 4:=by omega
        have q1:(u:Int).tdiv 4 = (b:Int):=by rw [hb]; rfl
        have q2:(u:Int).tmod 4 = (t:Int):=by rw [ht]; rfl
        have q3:(u:Int) / 4 = (b:Int):=by omega
        have q4:(u:Int) % 4 = (t:Int):=by omega
        have HBB:=hide (show Pl.nb d c s = b by unfold Pl.nb; rw [← hu,hb])
        have HT:=hide (show d.m (4 * c + s) % 4 = t by rw [← hu,ht])
        clear hu hb ht hh hsg
        obtain ⟨d0,d1,d2,d3⟩:=box3 K0.out.d
        have bi0:(0:Int) ≤ (b:Int):=by omega
        have bi1:(b:Int) < (d.n:Int):=by omega
        have hnc:=nums_cell K0.out.nu hbn
        have hl0:w.heap.size + 1 < wr.heap.size:=Row.lt K0.out.nu
        by_cases hbq:b ∈ q
        ·have HBQ:=hide hbq
         rw [if_pos hbq] at hnc
         obtain ⟨j,hj⟩:∃ j,j = q.idxOf b := ⟨_,rfl⟩
         rw [← hj] at hnc
         have hjl:j < 64:=by rw [hj]; have := List.idxOf_lt_length_of_mem hbq; omega
         have HJ:=hide hj
         clear hbq hj
         have j0:¬ ((j:Int) < 0):=by omega
         have KA:=hide (K0.out.alloc (.cells #[.int .i64 (4 * (j:Int) + (t:Int))] 3))
         go_wp2_with (first | (at_builtin; refine wpList_append_lies _ (by rfl) _ _ 22 (by rfl) (w.heap.size + 2) 3 i0 (.int .i64 0) 1 8 Tryz.underlying22 hi0 hz0 hz1 hz2 rfl (by omega) _ cs.length _ (by rfl) KA.out.c ⟨wr.heap.size,0,none⟩ 1 1 [.int .i64 (4 * (j:Int) + (t:Int))] (by rfl) (by rfl) (one_news _ _) (by simp [Value.oneCell']) (by omega) (by unfold maxLen; omega) (by omega) KA.out.big (wr.heap.size + 1) (by simp) ?_; intro g3 c3 w3 own3 grow3 at3 lt3; have OWN3 := hide own3; have GR3 := hide grow3; have AT3 := hide at3; clear own3 grow3 at3))
         go_roundg (gi - 1)
         case measure => have := HSG.out; omega
         case rel =>
          refine ⟨s + 1,by have := HSG.out; omega,by go_num,?_⟩
          have e1:Pl.addS d o c (s + 1) = q:=by
           show Pl.addN (Pl.addS d o c s) (Pl.nb d c s) = q
           rw [← HQ.out,HBB.out]
           unfold Pl.addN
           rw [if_pos HBQ.out]
          have e2:(Pl.code d r).take (5 * i + 1 + (s + 1)) = cs ++ [4 * (j:Int) + (t:Int)]:=by
           have hx:=HX.out
           rw [e1,HBB.out,HT.out,← HJ.out] at hx
           rw [show 5 * i + 1 + (s + 1) = 5 * i + 1 + s + 1 by omega,Pl.take_one hx,← HCS.out]
           congr 2
          rw [e1,e2]
          exact KA.out.appC (by rw [List.map_append]; exact OWN3.out) GR3.out (by simpa using AT3.out)
        ·have HBQ:=hide hbq
         rw [if_neg hbq] at hnc
         have f1:=Row.free K0.out.nu b
         have K1:=hide (K0.out.setN b (q.length:Int))
         rw [← Pl.nums_add hbn hbq] at K1
         have KA:=hide (K1.out.alloc (.cells #[.int .i64 (b:Int)] 3))
         clear hbq
         go_upto_region 25 with (at_builtin; refine wpList_append_lies _ (by rfl) _ _ 22 (by rfl) (w.heap.size + 2) 3 i0 (.int .i64 0) 1 8 Tryz.underlying22 hi0 hz0 hz1 hz2 rfl (by omega) _ q.length _ (by rfl) KA.out.o ⟨wr.heap.size,0,none⟩ 1 1 [.int .i64 (b:Int)] (by rfl) (by rfl) (one_newsG _ _ (by simp)) (by simp [Value.oneCell']) (by omega) (by unfold maxLen; omega) (by omega) KA.out.big (wr.heap.size + 1) (by simp) ?_; intro g3 c3 w3 own3 grow3 at3 lt3; have OWN3 := hide own3; have GR3 := hide grow3; have AT3 := hide at3; clear own3 grow3 at3)
         have KB:=hide (KA.out.appO (o' := q ++ [b]) (by rw [List.map_append]; exact OWN3.out) GR3.out (by simpa using AT3.out))
         clear KA K1 K0 OWN3 GR3 AT3 hnc f1 d0 d1 d2 d3 x2
         have hnc:=nums_cell KB.out.nu hbn
         have hin:b ∈ q ++ [b]:=by simp
         have hix:(q ++ [b]).idxOf b = q.length:=by rw [List.idxOf_append,if_neg HBQ.out]; simp
         rw [if_pos hin,hix] at hnc
         clear hin
         have HIX:=hide hix
         clear hix
         have KC:=hide (KB.out.alloc (.cells #[.int .i64 (4 * (q.length:Int) + (t:Int))] 3))
         go_wp2_with (at_builtin; refine wpList_append_lies _ (by rfl) _ _ 22 (by rfl) (w.heap.size + 2) 3 i0 (.int .i64 0) 1 8 Tryz.underlying22 hi0 hz0 hz1 hz2 rfl (by omega) _ cs.length _ (by rfl) KC.out.c ⟨w3.heap.size,0,none⟩ 1 1 [.int .i64 (4 * (q.length:Int) + (t:Int))] (by rfl) (by rfl) (one_news _ _) (by simp [Value.oneCell']) (by omega) (by unfold maxLen; omega) (by omega) KC.out.big (w3.heap.size + 1) (by simp) ?_; intro g4 c4 w4 own3 grow3 at3 lt4; have OWN3 := hide own3; have GR3 := hide grow3; have AT3 := hide at3; clear own3 grow3 at3)
         go_roundg (gi - 1)
         case measure => have := HSG.out; omega
         case rel =>
          refine ⟨s + 1,by have := HSG.out; omega,by go_num,?_⟩
          have e1:Pl.addS d o c (s + 1) = q ++ [b]:=by
           show Pl.addN (Pl.addS d o c s) (Pl.nb d c s) = q ++ [b]
           rw [← HQ.out,HBB.out]
           unfold Pl.addN
           rw [if_neg HBQ.out]
          have e2:(Pl.code d r).take (5 * i + 1 + (s + 1)) = cs ++ [4 * (q.length:Int) + (t:Int)]:=by
           have hx:=HX.out
           rw [e1,HBB.out,HT.out,HIX.out] at hx
           rw [show 5 * i + 1 + (s + 1) = 5 * i + 1 + s + 1 by omega,Pl.take_one hx,← HCS.out]
           congr 2
          rw [e1,e2]
          exact KC.out.appC (by rw [List.map_append]; exact OWN3.out) GR3.out (by simpa using AT3.out)
       ·have hsi:¬ ((s:Int) < 4):=by omega
        have hs5:s = 4:=by omega
        have K5:=hide (show NK w [.slice (some ⟨b1,o1,none⟩) d.n cp,.slice B m cq,.int .i64 d.lp] (.slice A5 q.length c5) (.slice A6 cs.length c6) (Pl.nums d.n (Pl.ordK d r (i + 1))) (Pl.ordK d r (i + 1)) ((Pl.code d r).take (5 * (i + 1))) wr from by
         rw [Pl.ordK_some HC.out,← HO.out,← hs5,← HQ.out,show 5 * (i + 1) = 5 * i + 1 + s by omega,← HCS.out]
         exact K0.out)
        clear hs5
        have hbs:∃ bl,best = some bl ∧ IntsAt w (some ⟨bb,bo,none⟩) bn bl ∧ bn = 5 * L ∧ bl.length = 5 * L ∧ bn ≤ bc:=by
         have h:=HB.out
         cases best with
         | none => exact absurd (show Value.slice (some ⟨bb,bo,none⟩) bn bc = .slice none 0 0 from h) (by simp)
         | some bl =>
           obtain ⟨b',o',c',e,h2,h3,h4⟩:=h
           injection e with e1 e2 e3
           rw [← e1,← e2] at h2
           exact ⟨bl,rfl,h2,by rw [e2,h3,HCL.out],by rw [h3,HCL.out],by omega⟩
        obtain ⟨bl,hbe,hbl,hb5,hb6,hbc⟩:=hbs
        have hs4':s = 4:=by omega
        have hcd:cs.drop (5 * i) = ((Pl.code d r).drop (5 * i)).take 5:=by
         rw [HCS.out,List.drop_take,hs4']
         congr 1
         omega
        have hcl:cs.length = 5 * i + 5:=by rw [HCS.out,List.length_take,HCL.out,hs4']; omega
        have HSTEP:=hide (show Pl.vdt best (Pl.code d r) (5 * (i + 1)) = if v = 0 then Pl.lx (cs.drop (5 * i)) ((bl.drop (5 * i)).take 5) else v by
         rw [HV.out,hbe,hcd,show 5 * (i + 1) = 5 * i + 5 by omega]
         exact Pl.vdt_step (by rw [HCL.out]; omega) (by omega))
        by_cases hvz:v = 0
        ·obtain ⟨C1,hc1,hr1⟩:=cut_hi (own_ints' K0.out.c) (k := 5 * i) (by omega) (own_cap K0.out.c)
         obtain ⟨C2,k2,hc2,hr2⟩:=cut_mid (hbl.keep K0.out.bel) (k := 5 * i) (by omega) hbc
         have e1:((5 * i:Nat):Int) = 5 * (i:Int):=by omega
         have e2:((5 * i + 5:Nat):Int) = 5 * (i:Int) + 5:=by omega
         rw [e1] at hr1 hr2
         rw [e2] at hr2
         have hq1:cs.length - 5 * i ≤ 1000000:=by omega
         have hq2:5 ≤ 1000000:=by omega
         have HST:=hide (show Pl.vdt best (Pl.code d r) (5 * (i + 1)) = Pl.lx (cs.drop (5 * i)) ((bl.drop (5 * i)).take 5) by rw [HSTEP.out,if_pos hvz])
         have HKP:=hide (show Pl.vdt best (Pl.code d r) (5 * (i + 1)) ≠ 0 → Pl.vall best (Pl.code d r) = Pl.vdt best (Pl.code d r) (5 * (i + 1)) from by
          intro h
          rw [hbe] at h ⊢
          exact Pl.vdt_keep (by rw [HCL.out,hb6]) h)
         obtain ⟨ys,hys⟩:∃ ys,ys = (bl.drop (5 * i)).take 5 := ⟨_,rfl⟩
         obtain ⟨xs,hxs⟩:∃ xs,xs = cs.drop (5 * i) := ⟨_,rfl⟩
         rw [← hys] at hc2 HST
         rw [← hxs] at hc1 HST
         have HC1:=hide hc1
         have HC2:=hide hc2
         subst hvz
         clear hys hxs hbe hbl hb5 hb6 hbc hs4' hcd hcl HSTEP e1 e2 hsg hc1 hc2
         by_cases hx0:(0:Int) < Pl.lx xs ys
         ·go_upto_region 28 with fail
          go_quiet ((go_at_call 117; exact Calls.quiet_of_same (compare_any xs ys _ _ _ _ _ _ _ (show IntsAt _ _ _ _ from HC1.out) (show IntsAt _ _ _ _ from HC2.out) hq1 hq2)))
          go_wp2
          refine bodyPost_ret (v := .tuple #[.slice none 0 0,.slice none 0 0,.int .i64 1]) ?_ rfl ⟨fun _ => rfl,fun h => absurd ?_ h,below_drewN K0.out.bel _⟩
          ·simp [results,Tryz.results114,go_sem]
          ·rw [HKP.out (by rw [HST.out]; omega),HST.out]; exact hx0
         ·have hx1:Pl.lx xs ys ≤ 0:=by omega
          go_upto_region 28 with fail
          go_quiet ((go_at_call 117; exact Calls.quiet_of_same (compare_any xs ys _ _ _ _ _ _ _ (show IntsAt _ _ _ _ from HC1.out) (show IntsAt _ _ _ _ from HC2.out) hq1 hq2)))
          go_wp2
          go_roundg (go - 1)
          case measure => have := HIG.out; omega
          case rel => exact ⟨i + 1,Pl.lx xs ys,by have := HIG.out; omega,by go_num,rfl,HST.out.symm,hx1,K5.out.below (below_drewN (Below.refl _ _) _)⟩
        ·have HST:=hide (show v = Pl.vdt best (Pl.code d r) (5 * (i + 1)) by rw [HSTEP.out,if_neg hvz])
         have hvb:(v == 0) = false:=by simpa using hvz
         have hvn:¬ (0 < v):=by omega
         clear hbe hbl hb5 hb6 hbc hs4' hcd hcl HSTEP hsg
         go_wp2
         go_roundg (go - 1)
         case measure => have := HIG.out; omega
         case rel => exact ⟨i + 1,v,by have := HIG.out; omega,by go_num,rfl,HST.out,hv0,K5.out⟩
     ·have hki : ¬ ((i : Int) < ((o.length : Nat) : Int)) := by
       have h1:=(Pl.ordK_ord (d := d) r (k := i) (by omega)).length_le
       have h2:=HL.out
       rw [HO.out]
       omega
      have hiL2:i = L:=by omega
      have HE:=hide (show o = Pl.ord d r ∧ cs = Pl.code d r by
       have h1:=(Pl.ordK_ord (d := d) r (k := i) (by omega)).length_le
       have h2:=HL.out
       rw [HO.out,HCS.out]
       exact ⟨Pl.ord_eq (by omega) (by omega),List.take_of_length_le (by rw [HCL.out]; omega)⟩)
      have HVE:=hide (show v = Pl.vall best (Pl.code d r) by
       rw [HV.out]
       refine (Pl.vdt_all (by rw [HCL.out]; omega) (fun b e => ?_))
       have h:=HB.out
       rw [e] at h
       obtain ⟨_,_,_,_,_,h3,_⟩:=h
       rw [h3,HCL.out]; omega)
      clear hig hiL2
      go_wp2
      refine bodyPost_ret (v := .tuple #[.slice A6 cs.length c6,.slice A5 o.length c5,.int .i64 v]) ?_ rfl ⟨fun h => ?_,fun _ => ⟨_,_,by rw [← HVE.out],?_,?_⟩,K0.out.bel⟩
      ·simp [results,Tryz.results114,go_sem]
      ·rw [← HVE.out] at h; omega
      ·have h:=K0.out.c
       rw [HE.out.2] at h
       rw [HE.out.2]
       exact own_base h (by omega)
      ·have h:=K0.out.o
       rw [HE.out.1] at h
       rw [HE.out.1]
       exact own_base h (by omega)
end Go.Proofs.YtghdiolnonejaaaGreatDoor
end
section
namespace Go.Proofs.YtghdiolnonejaaaGreatDoor
open Go Go.RowKit
def IntT (W:World) (v:Value) (xs:List Int):Prop := ∃ A c,v = .slice A xs.length c ∧ xs.length ≤ c ∧ RowT W 3 A xs.length (xs.map (.int .i64))
theorem IntT.below {W W':World} {v:Value} {xs:List Int} (h:IntT W v xs) (hb:Below W.heap.size W W'):IntT W' v xs := let ⟨A,c,e,h1,h2⟩:=h; ⟨A,c,e,h1,h2.keep hb⟩
theorem IntT.grown {W W':World} {v:Value} {xs:List Int} {row:Option Nat} {t':TypeId} (h:IntT W v xs) (hg:W.grownBy W' row) (hr:∀ g,row = some g → ∃ cs fr,W.heap[g]? = some (.cells cs t' fr)) (hne:3 ≠ t'):IntT W' v xs := let ⟨A,c,e,h1,h2⟩:=h; ⟨A,c,e,h1,h2.grown hg hr hne⟩
theorem IntT.store {W:World} {v:Value} {xs:List Int} {g i:Nat} {us:List Value} {t':TypeId} (h:IntT W v xs) (hr:Row W g t' us) (hne:3 ≠ t') (u:Value):IntT (W.setCell ⟨g,i,none⟩ u) v xs := let ⟨A,c,e,h1,h2⟩:=h; ⟨A,c,e,h1,h2.store hr hne _⟩
theorem own_intT {W:World} {base:Nat} {v:Value} {xs:List Int} (h:W.ownsRow base 3 1 v xs.length (xs.map (.int .i64))):IntT W v xs := by
 obtain ⟨A,c,rfl⟩:=owns_slice h
 exact ⟨A,c,rfl,own_cap h,own_rowT h⟩
structure PcV (W:World) (vC vO:Value) (x:Int) (p:Pl.Pc):Prop where
 c:IntT W vC p.code
 o:IntT W vO (nats p.order)
 r:x = p.roots
section
variable {W W':World} {vC vO:Value} {x:Int} {p:Pl.Pc}
theorem PcV.below (h:PcV W vC vO x p) (hb:Below W.heap.size W W'):PcV W' vC vO x p := ⟨h.c.below hb,h.o.below hb,h.r⟩
theorem PcV.grown {row:Option Nat} {t':TypeId} (h:PcV W vC vO x p) (hg:W.grownBy W' row) (hr:∀ g,row = some g → ∃ cs fr,W.heap[g]? = some (.cells cs t' fr)) (hne:3 ≠ t'):PcV W' vC vO x p := ⟨h.c.grown hg hr hne,h.o.grown hg hr hne,h.r⟩
theorem PcV.store {g i:Nat} {us:List Value} {t':TypeId} (h:PcV W vC vO x p) (hr:Row W g t' us) (hne:3 ≠ t') (u:Value):PcV (W.setCell ⟨g,i,none⟩ u) vC vO x p := ⟨h.c.store hr hne u,h.o.store hr hne u,h.r⟩
end
def PBox (d:Pl.Dg) (l:List Nat) (k:Nat) (W:World) (vC vO:Value) (x:Int):Prop :=
 (k = 0 ∧ vC = .slice none 0 0 ∧ vO = .slice none 0 0 ∧ x = 0) ∨ ∃ p,PcV W vC vO x p ∧ Pl.Lst5 d (l.take k) p ∧ 0 ≤ x ∧ x ≤ k
theorem PBox.below {d:Pl.Dg} {l:List Nat} {k:Nat} {W W':World} {vC vO:Value} {x:Int} (h:PBox d l k W vC vO x) (hb:Below W.heap.size W W'):PBox d l k W' vC vO x := by
 rcases h with h | ⟨p,h1,h2⟩
 ·exact .inl h
 ·exact .inr ⟨p,h1.below hb,h2⟩
theorem PBox.best {d:Pl.Dg} (hd:Pl.Wf d) {l:List Nat} {k q:Nat} {W:World} {vC vO:Value} {x:Int} (h:PBox d l k W vC vO x) (hq:q < d.n) (hl:∀ c,c ∈ l → c < d.n ∧ Pl.Comp d c q) :
 (k = 0 ∧ BestAt W vC (Pl.code d q).length none) ∨ ∃ p,PcV W vC vO x p ∧ Pl.Lst5 d (l.take k) p ∧ 0 ≤ x ∧ x ≤ k ∧ BestAt W vC (Pl.code d q).length (some p.code) := by
 rcases h with ⟨h0,h1,h2,_⟩ | ⟨p,h1,h2,h3,h4⟩
 ·exact .inl ⟨h0,h1⟩
 ·refine .inr ⟨p,h1,h2,h3,h4,?_⟩
  obtain ⟨r,hr,hc,ho⟩:=h2.is
  have hm:=hl r (List.mem_of_mem_take hr)
  obtain ⟨A,c,e,hcap,ht⟩:=h1.c
  have hlen:p.code.length = (Pl.code d q).length:=by rw [hc]; exact Pl.code_len_eq hd hm.1 hq hm.2
  have hpos:0 < p.code.length:=by
   rw [hlen,Pl.code_len]
   have:=(Pl.ord_ok hd hq).root
   have:=List.length_pos_of_mem this
   omega
  obtain ⟨b,o,cs,fr,hA,_⟩:=ht.2 hpos
  subst hA
  exact ⟨b,o,c,e,ht.row,hlen,hcap⟩
end Go.Proofs.YtghdiolnonejaaaGreatDoor
end
section
namespace Go.Proofs.YtghdiolnonejaaaGreatDoor
open Go Go.RowKit
attribute [local go_sem ↓] Go.wp_at_zero Go.wp_at_succ
theorem own_setNe {W:World} {base b n s:Nat} {e:TypeId} {v:Value} {xs:List Value} (h:W.ownsRow base e s v n xs) (hne:v.ownBlock ≠ some b) (o:Nat) (u:Value):(W.setCell ⟨b,o,none⟩ u).ownsRow base e s v n xs := by
 refine ⟨h.1,?_⟩
 rcases h.2 with hz | ⟨g,cap,cur,r1,r2,r3,r4⟩
 ·exact .inl hz
 ·refine .inr ⟨g,cap,cur,r1,r2,?_,r4⟩
  have hgb:g ≠ b:=fun e => hne (by rw [r1,e]; rfl)
  exact (Below.heap_setCell W ⟨b,o,none⟩ u g hgb).trans r3
def PcsV (W:World):List Value → List Pl.Pc → Prop
 | [],[] => True
 | vC :: vO :: .int .i64 x :: r,p :: ps => PcV W vC vO x p ∧ PcsV W r ps
 | _,_ => False
theorem PcsV.map {W W':World} (f:∀ {vC vO:Value} {x:Int} {p:Pl.Pc},PcV W vC vO x p → PcV W' vC vO x p):∀ {cs:List Value} {ps:List Pl.Pc},PcsV W cs ps → PcsV W' cs ps
 | [],[],_ => trivial
 | vC :: vO :: .int .i64 x :: r,p :: ps,h => ⟨f h.1,PcsV.map f h.2⟩
theorem PcsV.add {W:World} {vC vO:Value} {x:Int} {p:Pl.Pc} (hp:PcV W vC vO x p):∀ {cs:List Value} {ps:List Pl.Pc},PcsV W cs ps → PcsV W (cs ++ [vC,vO,.int .i64 x]) (ps ++ [p])
 | [],[],_ => ⟨hp,trivial⟩
 | vC' :: vO' :: .int .i64 x' :: r,p' :: ps,h => ⟨h.1,PcsV.add hp h.2⟩
structure GRf (d:Pl.Dg) (ls:List Int) (P:Nat) (A:Option Addr) (vs:List Value) (W:World):Prop where
 r:RowT W 22 A P vs
 v:Vs W vs ((List.range P).map (Gl ls d.n))
structure PL (w:World) (d:Pl.Dg) (ls:List Int) (P:Nat) (A:Option Addr) (vs dv:List Value) (j:Nat) (vL:Value) (cs:List Value) (ps:List Pl.Pc) (W:World):Prop where
 bx:Row W w.heap.size 24 dv
 gr:GRf d ls P A vs W
 own:W.ownsRow (w.heap.size + 1) 146 3 vL j cs
 pv:PcsV W cs ps
 len:ps.length = j
 is:∀ (i:Nat) (p:Pl.Pc),ps[i]? = some p → Pl.Lst5 d (Gl ls d.n i) p
 bel:Below w.heap.size w W
section
variable {w W W':World} {d:Pl.Dg} {ls:List Int} {P:Nat} {A:Option Addr} {vs dv:List Value} {j:Nat} {vL:Value} {cs:List Value} {ps:List Pl.Pc}
theorem PL.big (h:PL w d ls P A vs dv j vL cs ps W):w.heap.size + 1 ≤ W.heap.size := by have := h.bx.lt; omega
theorem PL.below (h:PL w d ls P A vs dv j vL cs ps W) (hb:Below W.heap.size W W'):PL w d ls P A vs dv j vL cs ps W' :=
 ⟨h.bx.below hb,⟨h.gr.r.keep hb,h.gr.v.below hb⟩,own_below h.own hb,h.pv.map (fun p => p.below hb),h.len,h.is,h.bel.trans (hb.mono h.bel.size)⟩
theorem PL.alloc (h:PL w d ls P A vs dv j vL cs ps W) (o:Obj):PL w d ls P A vs dv j vL cs ps (W.alloc o) := h.below ((Below.refl _ _).alloc (Nat.le_refl _) o)
theorem PL.setB (h:PL w d ls P A vs dv j vL cs ps W) {g:Nat} {us:List Value} (hr:Row W g 146 us) (hg:w.heap.size < g) (hne:vL.ownBlock ≠ some g) (o:Nat) (u:Value):PL w d ls P A vs dv j vL cs ps (W.setCell ⟨g,o,none⟩ u) :=
 ⟨h.bx.other (by show _ ≠ g; omega) _,⟨h.gr.r.store hr (by decide) u,h.gr.v.store hr (by decide) u⟩,own_setNe h.own hne o u,h.pv.map (fun p => p.store hr (by decide) u),h.len,h.is,h.bel.setCell (by show _ ≤ g; omega) _⟩
theorem PL.app (h:PL w d ls P A vs dv j vL cs ps W) {g c n:Nat} {vC vO:Value} {x:Int} {p:Pl.Pc} (own:W'.ownsRow (w.heap.size + 1) 146 3 (.slice (some ⟨g,0,none⟩) n c) n (cs ++ [vC,vO,.int .i64 x])) (gr:W.grownBy W' vL.ownBlock) (hn:n = j + 1) (hp:PcV W vC vO x p) (hi:Pl.Lst5 d (Gl ls d.n j) p) :
 PL w d ls P A vs dv n (.slice (some ⟨g,0,none⟩) n c) (cs ++ [vC,vO,.int .i64 x]) (ps ++ [p]) W' := by
 have hbk:=fun g (hg:vL.ownBlock = some g) => ownsRow_block h.own g hg
 refine ⟨h.bx.grown gr (fun e => ?_),⟨h.gr.r.grown gr hbk (by decide),h.gr.v.grown gr hbk (by decide)⟩,own,PcsV.add (hp.grown gr hbk (by decide)) (h.pv.map (fun q => q.grown gr hbk (by decide))),by rw [List.length_append,h.len,hn]; rfl,fun i q hq => ?_,h.bel.grown gr h.bel.size (fun k hk => by have := (h.own.lt k hk).1; omega)⟩
 ·have:=(h.own.lt _ e.symm).1
  omega
 ·rw [List.getElem?_append] at hq
  split at hq
  ·exact h.is i q hq
  ·have h1:=(List.getElem?_eq_some_iff.1 hq).1
   have h2:i = j:=by have := h.len; simp at h1; omega
   subst h2
   rw [h.len,Nat.sub_self] at hq
   injection hq with hq
   subst hq
   exact hi
end
end Go.Proofs.YtghdiolnonejaaaGreatDoor
end
section
namespace Go.Proofs.YtghdiolnonejaaaGreatDoor
open Go Go.RowKit
attribute [local go_sem ↓] Go.wp_at_zero Go.wp_at_succ
theorem PL.setB3 {w W:World} {d:Pl.Dg} {ls:List Int} {P:Nat} {A:Option Addr} {vs dv:List Value} {j:Nat} {vL:Value} {cs:List Value} {ps:List Pl.Pc} (h:PL w d ls P A vs dv j vL cs ps W) {g:Nat} {us:List Value} (hr:Row W g 146 us) (hg:w.heap.size < g) (hne:vL.ownBlock ≠ some g) (y0 y1 y2:Value) :
 PL w d ls P A vs dv j vL cs ps (((W.setCell ⟨g,0,none⟩ y0).setCell ⟨g,1,none⟩ y1).setCell ⟨g,2,none⟩ y2) :=
 ((h.setB hr hg hne 0 y0).setB (hr.set 0 y0) hg hne 1 y1).setB ((hr.set 0 y0).set 1 y1) hg hne 2 y2
theorem IntT.store3 {W:World} {v:Value} {xs:List Int} (h:IntT W v xs) {g:Nat} {us:List Value} (hr:Row W g 146 us) (y0 y1 y2:Value) :
 IntT (((W.setCell ⟨g,0,none⟩ y0).setCell ⟨g,1,none⟩ y1).setCell ⟨g,2,none⟩ y2) v xs :=
 ((h.store hr (by decide) y0).store (hr.set 0 y0) (by decide) y1).store ((hr.set 0 y0).set 1 y1) (by decide) y2
theorem own_natT {W:World} {base:Nat} {v:Value} {l:List Nat} (h:W.ownsRow base 3 1 v l.length (l.map (fun k:Nat => Value.int .i64 k))):IntT W v (nats l) := by
 refine own_intT (base := base) ?_
 rw [map_nats]
 have e:(nats l).length = l.length:=by unfold nats; simp
 rw [e]
 exact h
structure PI (w:World) (d:Pl.Dg) (ls:List Int) (P:Nat) (A:Option Addr) (vs dv:List Value) (j:Nat) (vL:Value) (cs:List Value) (ps:List Pl.Pc) (g6 k:Nat) (vC vO:Value) (x:Int) (W:World):Prop where
 p:PL w d ls P A vs dv j vL cs ps W
 r:Row W g6 146 [vC,vO,.int .i64 x]
 b:PBox d (Gl ls d.n j) k W vC vO x
 lo:w.heap.size < g6
 ne:vL.ownBlock ≠ some g6
section
variable {w W W':World} {d:Pl.Dg} {ls:List Int} {P:Nat} {A:Option Addr} {vs dv:List Value} {j g6 k:Nat} {vL vC vO:Value} {x:Int} {cs:List Value} {ps:List Pl.Pc}
theorem PI.below (h:PI w d ls P A vs dv j vL cs ps g6 k vC vO x W) (hb:Below W.heap.size W W'):PI w d ls P A vs dv j vL cs ps g6 k vC vO x W' :=
 ⟨h.p.below hb,h.r.below hb,h.b.below hb,h.lo,h.ne⟩
theorem PI.put (h:PI w d ls P A vs dv j vL cs ps g6 k vC vO x W) {p:Pl.Pc} {vC' vO':Value} (hp:PcV W vC' vO' 1 p) (hl:Pl.Lst5 d ((Gl ls d.n j).take (k + 1)) p) :
 PI w d ls P A vs dv j vL cs ps g6 (k + 1) vC' vO' 1 (((W.setCell ⟨g6,0,none⟩ vC').setCell ⟨g6,1,none⟩ vO').setCell ⟨g6,2,none⟩ (.int .i64 1)) :=
 ⟨h.p.setB3 h.r h.lo h.ne _ _ _,row3 h.r rfl _ _ _,.inr ⟨p,⟨hp.c.store3 h.r _ _ _,hp.o.store3 h.r _ _ _,hp.r⟩,hl,by omega,by omega⟩,h.lo,h.ne⟩
theorem PI.more (h:PI w d ls P A vs dv j vL cs ps g6 k vC vO x W) {p:Pl.Pc} (hp:PcV W vC vO x p) (hl:Pl.Lst5 d ((Gl ls d.n j).take (k + 1)) ⟨p.code,p.order,x + 1⟩) (h0:0 ≤ x) (h1:x ≤ k) :
 PI w d ls P A vs dv j vL cs ps g6 (k + 1) vC vO (x + 1) (W.setCell ⟨g6,2,none⟩ (.int .i64 (x + 1))) :=
 ⟨h.p.setB h.r h.lo h.ne _ _,h.r.set 2 (.int .i64 (x + 1)),.inr ⟨⟨p.code,p.order,x + 1⟩,⟨hp.c.store h.r (by decide) _,hp.o.store h.r (by decide) _,rfl⟩,hl,by omega,by omega⟩,h.lo,h.ne⟩
theorem PI.skip (h:PI w d ls P A vs dv j vL cs ps g6 k vC vO x W) {p:Pl.Pc} (hp:PcV W vC vO x p) (hl:Pl.Lst5 d ((Gl ls d.n j).take (k + 1)) ⟨p.code,p.order,x⟩) (h0:0 ≤ x) (h1:x ≤ k) :
 PI w d ls P A vs dv j vL cs ps g6 (k + 1) vC vO x W :=
 ⟨h.p,h.r,.inr ⟨⟨p.code,p.order,x⟩,⟨hp.c,hp.o,rfl⟩,hl,by omega,by omega⟩,h.lo,h.ne⟩
end
theorem gl_comp {d:Pl.Dg} {ls:List Int} {P:Nat} (h:Pl.LB d ls P) (hp:∀ a,a < d.n → 0 ≤ Pl.pv ls a) {j a b:Nat} (ha:a ∈ Gl ls d.n j) (hb:b ∈ Gl ls d.n j):a < d.n ∧ Pl.Comp d a b := by
 rw [mem_Gl] at ha hb
 exact ⟨ha.1,h.conn a b ha.1 hb.1 (hp a ha.1) (by rw [ha.2,hb.2])⟩
theorem gl_at {P j:Nat} (ls:List Int) (n:Nat) (hj:j < P):((List.range P).map (Gl ls n))[j]? = some (Gl ls n j) := by
 rw [List.getElem?_map,List.getElem?_range hj]; rfl
end Go.Proofs.YtghdiolnonejaaaGreatDoor
end
section
namespace Go.Proofs.YtghdiolnonejaaaGreatDoor
open Go Go.RowKit
attribute [local go_sem ↓] Go.wp_at_zero Go.wp_at_succ
def cmpP (p q:Pl.Pc):Int := if p.order.length = q.order.length then Pl.lx p.code q.code else (p.order.length:Int) - (q.order.length:Int)
set_option maxRecDepth 100000 in
set_option maxHeartbeats 2000000 in
theorem cmp_pieces (vC vO vC' vO':Value) (x x':Int) (p q:Pl.Pc) (w:World) (hp:PcV w vC vO x p) (hq:PcV w vC' vO' x' q) (lp:p.order.length ≤ 64) (lq:q.order.length ≤ 64) (cp:p.code.length ≤ 320) (cq:q.code.length ≤ 320) :
 Calls Tryz.prog 116 #[.agg #[vC,vO,.int .i64 x],.agg #[vC',vO',.int .i64 x']] w fun e w' => e = .returned (.int .i64 (cmpP p q)) ∧ Below w.heap.size w w' := by
 obtain ⟨A1,e1,h1,h1c,h1b⟩:=hp.c
 obtain ⟨A2,e2,h2,_,h2b⟩:=hp.o
 obtain ⟨A3,e3,h3,h3c,h3b⟩:=hq.c
 obtain ⟨A4,e4,h4,_,h4b⟩:=hq.o
 subst h1; subst h2; subst h3; subst h4
 rw [nats_len,nats_len]
 have H1:=hide (show IntsAt w A1 p.code.length p.code from h1b.row)
 have H3:=hide (show IntsAt w A3 q.code.length q.code from h3b.row)
 clear h1b h2b h3b h4b hp hq h1c h3c
 obtain ⟨m,hm⟩:∃ m,m = p.order.length := ⟨_,rfl⟩
 obtain ⟨n,hn⟩:∃ n,n = q.order.length := ⟨_,rfl⟩
 have HMN:=hide (show cmpP p q = if m = n then Pl.lx p.code q.code else (m:Int) - (n:Int) by unfold cmpP; rw [hm,hn])
 rw [← hm,← hn]
 rw [← hm] at lp
 rw [← hn] at lq
 clear hm hn
 have B0:=hide (show Below w.heap.size w ((w.alloc (.cells #[.slice A1 p.code.length e1,.slice A2 m e2,.int .i64 x] 146)).alloc (.cells #[.slice A3 q.code.length e3,.slice A4 n e4,.int .i64 x'] 146)) from ((Below.refl _ _).alloc (Nat.le_refl _) _).alloc (by simp) _)
 by_cases he:m = n
 ·subst he
  have HR:=hide (show cmpP p q = Pl.lx p.code q.code by rw [HMN.out,if_pos rfl])
  go_enter Tryz.func116,Tryz.ntmps116
  go_wp2_with fail
  refine (compare_any p.code q.code A1 A3 _ _ e1 e3 _ (H1.out.keep B0.out) (H3.out.keep B0.out) (by omega) (by omega)).mono ?_
  rintro e w1 ⟨rfl,rfl⟩
  go_wp2
  go_ret
  exact ⟨by rw [HR.out]; rfl,B0.out⟩
 ·have HR:=hide (show cmpP p q = (m:Int) - (n:Int) by rw [HMN.out,if_neg he])
  have hei:¬ ((m:Int) = (n:Int)):=by omega
  have heb:((m:Int) != (n:Int)) = true:=by rw [bne_iff_ne]; exact hei
  clear he
  go_enter Tryz.func116,Tryz.ntmps116
  go_wp2
  go_ret
  exact ⟨ret_int (by rw [HR.out]),B0.out⟩
end Go.Proofs.YtghdiolnonejaaaGreatDoor
end
section
namespace Go.Proofs.YtghdiolnonejaaaGreatDoor
open Go Go.RowKit
attribute [local go_sem ↓] Go.wp_at_zero Go.wp_at_succ
theorem cmp_kle {p q:Pl.Pc} (hp:p.code.length = 5 * p.order.length) (hq:q.code.length = 5 * q.order.length):cmpP p q < 0 ↔ ¬ Pl.leP q p := by
 unfold cmpP Pl.leP Pl.kle
 by_cases h:p.order.length = q.order.length
 ·rw [if_pos h]
  have:=Pl.lx_neg p.code q.code
  constructor
  ·rintro h1 (h2 | ⟨_,h2⟩) <;> omega
  ·intro h1
   rcases Int.lt_or_le (Pl.lx p.code q.code) 0 with h2 | h2
   ·exact h2
   ·exact absurd (.inr ⟨by omega,by omega⟩) h1
 ·rw [if_neg h]
  constructor
  ·rintro h1 (h2 | ⟨h2,_⟩) <;> omega
  ·intro h1
   rcases Nat.lt_or_ge p.order.length q.order.length with h2 | h2
   ·omega
   ·exact absurd (.inl (by omega)) h1
theorem PcsV.at_ {W:World}:∀ {cs:List Value} {ps:List Pl.Pc},PcsV W cs ps → ∀ {j:Nat} {p:Pl.Pc},ps[j]? = some p → ∃ vC vO x,PcV W vC vO x p ∧ cs[j * 3]? = some vC ∧ cs[j * 3 + 1]? = some vO ∧ cs[j * 3 + 2]? = some (.int .i64 x)
 | [],[],_,j,p,h => by simp at h
 | vC :: vO :: .int .i64 x :: r, q :: ps, hv, 0, p, h => by
   obtain rfl:q = p := by simpa using h
   exact ⟨vC,vO,x,hv.1,rfl,rfl,rfl⟩
 | vC :: vO :: .int .i64 x :: r, q :: ps, hv, j + 1, p, h => by
   obtain ⟨a,b,y,h1,h2,h3,h4⟩:=PcsV.at_ hv.2 (j := j) (p := p) (by simpa using h)
   refine ⟨a,b,y,h1,?_,?_,?_⟩
   ·rw [show (j + 1) * 3 = j * 3 + 3 by omega]; exact h2
   ·rw [show (j + 1) * 3 + 1 = j * 3 + 1 + 3 by omega]; exact h3
   ·rw [show (j + 1) * 3 + 2 = j * 3 + 2 + 3 by omega]; exact h4
theorem PcsV.put {W:World} {vC vO:Value} {x:Int} {p:Pl.Pc} (hp:PcV W vC vO x p):∀ {cs:List Value} {ps:List Pl.Pc},PcsV W cs ps → ∀ (j:Nat),j < ps.length → PcsV W (((cs.set (j * 3) vC).set (j * 3 + 1) vO).set (j * 3 + 2) (.int .i64 x)) (ps.set j p)
 | [],[],_,j,h => by simp at h
 | vC' :: vO' :: .int .i64 x' :: r,q :: ps,hv,0,h => ⟨hp,hv.2⟩
 | vC' :: vO' :: .int .i64 x' :: r, q :: ps, hv, j + 1, h => by
   have ih:=PcsV.put hp hv.2 j (by simpa using h)
   rw [show (j + 1) * 3 = j * 3 + 3 by omega,show j * 3 + 3 + 1 = (j * 3 + 1) + 3 by omega,show j * 3 + 3 + 2 = (j * 3 + 2) + 3 by omega]
   exact ⟨hv.1,ih⟩
end Go.Proofs.YtghdiolnonejaaaGreatDoor
end
section
namespace Go.Proofs.YtghdiolnonejaaaGreatDoor
open Go Go.RowKit
attribute [local go_sem ↓] Go.wp_at_zero Go.wp_at_succ
structure SI (base:Nat) (w:World) (A:Option Addr) (n c:Nat) (cs:List Value) (ps:List Pl.Pc) (W:World):Prop where
 own:W.ownsRow base 146 3 (.slice A n c) n cs
 pv:PcsV W cs ps
 len:ps.length = n
 bel:Below base w W
 big:base ≤ W.heap.size
theorem SI.below {base:Nat} {w W W':World} {A:Option Addr} {n c:Nat} {cs:List Value} {ps:List Pl.Pc} (h:SI base w A n c cs ps W) (hb:Below W.heap.size W W'):SI base w A n c cs ps W' :=
 ⟨own_below h.own hb,h.pv.map (fun p => p.below hb),h.len,h.bel.trans (hb.mono h.big),Nat.le_trans h.big hb.size⟩
theorem own_free {W:World} {base s g n c:Nat} {e:TypeId} {xs:List Value} (h:W.ownsRow base e s (.slice (some ⟨g,0,none⟩) n c) n xs):∀ o,W.frozen? ⟨g,o,none⟩ = false := by
 rcases h.2 with ⟨h1,_⟩ | ⟨g',cap,cur,h1,_,h3,_⟩
 ·cases h1
 ·injection h1 with h1
  injection h1 with h1
  injection h1 with h1
  subst h1
  exact Row.free (t := e) (vs := cur.toList) (show W.heap[g]? = _ by rw [h3])
theorem own_setIn {W:World} {base s g n c k:Nat} {e:TypeId} {xs:List Value} (h:W.ownsRow base e s (.slice (some ⟨g,0,none⟩) n c) n xs) (v:Value):(W.setCell ⟨g,k,none⟩ v).ownsRow base e s (.slice (some ⟨g,0,none⟩) n c) n (xs.set k v) := by
 refine ⟨by rw [List.length_set]; exact h.1,?_⟩
 rcases h.2 with ⟨h1,_⟩ | ⟨g',cap,cur,h1,h2,h3,h4,h5,h6,h7⟩
 ·cases h1
 ·injection h1 with h1 h1b h1c
  injection h1 with h1
  injection h1 with h1
  subst h1
  have hr:Row W g e cur.toList:=by show W.heap[g]? = _; rw [h3]
  have hs:=hr.set k v
  refine .inr ⟨g,cap,(cur.toList.set k v).toArray,by rw [h1c],h2,hs,h4,h5,by simp; exact h6,?_⟩
  simp only [List.toList_toArray]
  rw [List.take_set,h7]
def PcSz (p:Pl.Pc):Prop := p.order.length ≤ 64 ∧ p.code.length = 5 * p.order.length
theorem own_rowE {W:World} {base s g n c:Nat} {e:TypeId} {xs:List Value} (h:W.ownsRow base e s (.slice (some ⟨g,0,none⟩) n c) n xs):base ≤ g ∧ ∃ us,Row W g e us := by
 rcases h.2 with ⟨h1,_⟩ | ⟨g',cap,cur,h1,h2,h3,_⟩
 ·cases h1
 ·injection h1 with h1
  injection h1 with h1
  injection h1 with h1
  subst h1
  exact ⟨h2,cur.toList,by show W.heap[g]? = _; rw [h3]⟩
theorem PcV.store3 {W:World} {vC vO:Value} {x:Int} {p:Pl.Pc} (h:PcV W vC vO x p) {g:Nat} {us:List Value} (hr:Row W g 146 us) (a b c:Nat) (y0 y1 y2:Value) :
 PcV (((W.setCell ⟨g,a,none⟩ y0).setCell ⟨g,b,none⟩ y1).setCell ⟨g,c,none⟩ y2) vC vO x p :=
 ((h.store hr (by decide) y0).store (hr.set a y0) (by decide) y1).store ((hr.set a y0).set b y1) (by decide) y2
theorem SI.set3 {base g n c:Nat} {w W:World} {cs:List Value} {ps:List Pl.Pc} (h:SI base w (some ⟨g,0,none⟩) n c cs ps W) {vC vO:Value} {x:Int} {p:Pl.Pc} (hp:PcV W vC vO x p) {j:Nat} (hj:j < ps.length) :
 SI base w (some ⟨g,0,none⟩) n c (((cs.set (j * 3) vC).set (j * 3 + 1) vO).set (j * 3 + 2) (.int .i64 x)) (ps.set j p) (((W.setCell ⟨g,j * 3,none⟩ vC).setCell ⟨g,j * 3 + 1,none⟩ vO).setCell ⟨g,j * 3 + 2,none⟩ (.int .i64 x)) := by
 obtain ⟨hb,us,hr⟩:=own_rowE h.own
 exact ⟨own_setIn (own_setIn (own_setIn h.own _) _) _,PcsV.put (hp.store3 hr _ _ _ _ _ _) (h.pv.map (fun q => q.store3 hr _ _ _ _ _ _)) j hj,by rw [List.length_set]; exact h.len,((h.bel.setCell (by show _ ≤ g; exact hb) _).setCell (by show _ ≤ g; exact hb) _).setCell (by show _ ≤ g; exact hb) _,by simpa using h.big⟩
set_option maxRecDepth 100000 in
set_option maxHeartbeats 8000000 in
theorem isort_any (base:Nat) (A:Option Addr) (n c:Nat) (cs:List Value) (qs:List Pl.Pc) (w:World) (h0:SI base w A n c cs qs w) (hsz:∀ p,p ∈ qs → PcSz p) (hn:n ≤ 64) :
 Calls Tryz.prog 133 #[.slice A n c,.int .i64 0,.int .i64 (n:Int),.func (.func 116) #[] #[]] w fun e w' => (∃ v,e = .returned v) ∧ ∃ cs' ps',SI base w A n c cs' ps' w' ∧ ps'.Perm qs ∧ ps'.Pairwise Pl.leP := by
 have H0:=hide h0
 have HSZ:=hide hsz
 clear h0 hsz
 obtain ⟨N,hN1,hN2,hN3⟩:∃ N,n ≤ N ∧ 1 ≤ N ∧ N ≤ 64 := ⟨max n 1,by omega,by omega,by omega⟩
 go_enter Tryz.func133,Tryz.ntmps133
 go_wp2
 go_loopg [8,9] (N - 1) (fun g s8 s9 wx => ∃ (i:Nat) (cs:List Value) (ps:List Pl.Pc),i + g = N ∧ s8 = .int .i64 (i:Int) ∧ SI base w A n c cs ps wx ∧ ps.Perm qs ∧ (ps.take i).Pairwise Pl.leP)
 case atStart => exact ⟨1,cs,qs,by omega,rfl,H0.out,List.Perm.refl _,by
  cases qs with
  | nil => simp
  | cons a l => simp⟩
 case round =>
  clear H0
  obtain ⟨i,cs,ps,hig,rfl,hk,hpm,hso⟩:=hrel
  have HIG:=hide hig
  have K0:=hide hk
  have HPM:=hide hpm
  have HSO:=hide hso
  have hin:i ≤ N:=by omega
  clear hk hpm hso
  obtain ⟨go,rfl⟩:∃ go,go = gk := ⟨_,rfl⟩
  by_cases hi:i < n
  ·have hii:(i:Int) < (n:Int):=by omega
   have I0:=hide (Pl.Ins.start HPM.out HSO.out (by rw [K0.out.len]; exact hi))
   clear hig
   go_wp2_with fail
   go_loopg [9] i (fun g s9 wx => ∃ (j:Nat) (cs:List Value) (ps:List Pl.Pc),j = g ∧ s9 = .int .i64 (j:Int) ∧ SI base w A n c cs ps wx ∧ Pl.Ins qs ps i j)
   case atStart => exact ⟨i,_,_,rfl,rfl,K0.out,I0.out⟩
   case round =>
    clear I0 K0 HSO HPM
    obtain ⟨j,cs,ps,hjg,rfl,hk,hins⟩:=hrel
    have HJG:=hide hjg
    have K0:=hide hk
    have HI:=hide hins
    clear hk hins hjg
    have hnA:0 < n:=by omega
    obtain ⟨g,cap,hA,hcap,hgl⟩:=World.ownsRow.form K0.out.own hnA
    injection hA with hA _ hcc
    subst hA
    subst hcc
    by_cases hj0:j = 0
    ·subst hj0
     have HST:=hide (HI.out.stop (.inl rfl))
     have hz:¬ ((0:Int) < ((0:Nat):Int)):=by omega
     go_upto_region 4 with fail
     go_quiet (fail)
     go_wp2
     go_roundg (go - 1)
     case measure => have := HIG.out; omega
     case rel => exact ⟨i + 1,cs,ps,by have := HIG.out; omega,by go_num,K0.out.below (below_drewN (Below.refl _ _) _),HI.out.perm,HST.out⟩
    ·obtain ⟨k,rfl⟩:∃ k,j = k + 1 := ⟨j - 1,by omega⟩
     clear hj0
     obtain ⟨pre,x0,mid,suf,he1,he2,he3,_,_⟩:=HI.out.ex
     have hlen:k + 1 < ps.length:=by rw [he1]; simp; omega
     have hkn:k + 1 < n:=by rw [← K0.out.len]; exact hlen
     clear he1 he2 he3
     obtain ⟨x,hx⟩:∃ x,ps[k + 1]? = some x := ⟨_,List.getElem?_eq_getElem hlen⟩
     obtain ⟨y,hy⟩:∃ y,ps[k]? = some y := ⟨_,List.getElem?_eq_getElem (by omega)⟩
     have hsx:=HSZ.out x (HI.out.perm.mem_iff.1 (List.mem_of_getElem? hx))
     have hsy:=HSZ.out y (HI.out.perm.mem_iff.1 (List.mem_of_getElem? hy))
     obtain ⟨a0,a1,a2,hpx,ca0,ca1,ca2⟩:=K0.out.pv.at_ hx
     obtain ⟨b0,b1,b2,hpy,cb0,cb1,cb2⟩:=K0.out.pv.at_ hy
     have HX:=hide hx
     have HY:=hide hy
     have HPX:=hide hpx
     have HPY:=hide hpy
     have CA:=fun (t:Nat) (u:Value) (ht:(k + 1) * 3 + t < n * 3) (e:cs[(k + 1) * 3 + t]? = some u) => (show wr.cell? ⟨g,(k + 1) * 3 + t,none⟩ = some u by rw [World.ownsRow.cellAt K0.out.own _ ht]; exact e)
     have CB:=fun (t:Nat) (u:Value) (ht:k * 3 + t < n * 3) (e:cs[k * 3 + t]? = some u) => (show wr.cell? ⟨g,k * 3 + t,none⟩ = some u by rw [World.ownsRow.cellAt K0.out.own _ ht]; exact e)
     have x0:=CA 0 a0 (by omega) ca0
     have x1:=CA 1 a1 (by omega) ca1
     have x2:=CA 2 _ (by omega) ca2
     have y0:=CB 0 b0 (by omega) cb0
     have y1:=CB 1 b1 (by omega) cb1
     have y2:=CB 2 _ (by omega) cb2
     rw [Nat.add_zero] at x0 y0
     clear CA CB ca0 ca1 ca2 cb0 cb1 cb2 hx hy
     obtain ⟨v,hv⟩:∃ v,v = cmpP x y := ⟨_,rfl⟩
     have HV:=hide hv
     have HCM:=hide (fun (p:Cls (fun W => Below wr.heap.size wr W)) => calls_cls (C := (fun W => Below wr.heap.size wr W)) (cmp_pieces a0 a1 b0 b1 a2 b2 x y p.w (HPX.out.below p.ok) (HPY.out.below p.ok) hsx.1 hsy.1 (by rw [hsx.2]; have := hsx.1; omega) (by rw [hsy.2]; have := hsy.1; omega)) (fun e w' h => ⟨h.1,p.ok.trans (h.2.mono p.ok.size)⟩))
     have HKL:=hide (cmp_kle hsx.2 hsy.2)
     rw [← hv] at HCM HKL
     clear hpx hpy hsx hsy hv
     go_upto_region 4 with fail
     by_cases hv0:v < 0
     ·have hvb:decide (v < 0) = true:=decide_eq_true hv0
      have hkp:(0:Int) < (k:Int) + 1:=by omega
      have c0:∀ p:Cls (fun W => Below wr.heap.size wr W),p.w.cell? ⟨g,(k + 1) * 3,none⟩ = some a0:=fun p => cell_below x0 p.ok
      have c1:∀ p:Cls (fun W => Below wr.heap.size wr W),p.w.cell? ⟨g,(k + 1) * 3 + 1,none⟩ = some a1:=fun p => cell_below x1 p.ok
      have c2:∀ p:Cls (fun W => Below wr.heap.size wr W),p.w.cell? ⟨g,(k + 1) * 3 + 2,none⟩ = some (.int .i64 a2):=fun p => cell_below x2 p.ok
      have c3:∀ p:Cls (fun W => Below wr.heap.size wr W),p.w.cell? ⟨g,k * 3,none⟩ = some b0:=fun p => cell_below y0 p.ok
      have c4:∀ p:Cls (fun W => Below wr.heap.size wr W),p.w.cell? ⟨g,k * 3 + 1,none⟩ = some b1:=fun p => cell_below y1 p.ok
      have c5:∀ p:Cls (fun W => Below wr.heap.size wr W),p.w.cell? ⟨g,k * 3 + 2,none⟩ = some (.int .i64 b2):=fun p => cell_below y2 p.ok
      refine wp_region_cls (fun W => Below wr.heap.size wr W) (by kernel_rfl) (by kernel_rfl) (Below.refl wr.heap.size wr).drew (fun hne => ?_)
      repeat (go_big_quiet_step (((go_at_call 116; exact HCM.out _))))
      refine wpQuiet_nil ?_
      rintro _ ⟨p,rfl⟩
      have K1:=hide (K0.out.below p.ok)
      have HPX1:=hide (HPX.out.below p.ok)
      have HPY1:=hide (HPY.out.below p.ok)
      have q0:=c0 p
      have q1:=c1 p
      have q2:=c2 p
      have q3:=c3 p
      have q4:=c4 p
      have q5:=c5 p
      have fz:∀ o,p.w.frozen? ⟨g,o,none⟩ = false:=own_free K1.out.own
      clear c0 c1 c2 c3 c4 c5 x0 x1 x2 y0 y1 y2 HCM K0 HPX HPY
      obtain ⟨D0,e0,h0,h0b⟩:=HPX1.out.c
      obtain ⟨D1,e1,h1,h1b⟩:=HPX1.out.o
      obtain ⟨E0,i0,h2,h2b⟩:=HPY1.out.c
      obtain ⟨E1,i1,h3,h3b⟩:=HPY1.out.o
      subst h0
      subst h1
      subst h2
      subst h3
      clear h0b h1b h2b h3b
      obtain ⟨V,hV⟩:∃ V,V = p.w := ⟨_,rfl⟩
      rw [← hV] at K1 HPX1 HPY1 q0 q1 q2 q3 q4 q5 fz ⊢
      have INS:=hide (HI.out.step HX.out HY.out (HKL.out.1 hv0))
      clear hV HI hv0 hvb
      go_upto_region 6 with fail
      go_region
      all_goals (go_wp2_with fail)
      go_roundg (gk - 1)
      case measure => have := HJG.out; omega
      case rel =>
       obtain ⟨_,us,hr⟩:=own_rowE K1.out.own
       have F1:=K1.out.set3 HPY1.out hlen
       have F2:=F1.set3 (HPX1.out.store3 hr _ _ _ _ _ _) (j := k) (by rw [List.length_set]; omega)
       exact ⟨k,_,_,by have := HJG.out; omega,rfl,F2.below (Below.refl _ _).drew,INS.out⟩
     ·have hvb:decide (v < 0) = false:=decide_eq_false hv0
      have hkp:(0:Int) < (k:Int) + 1:=by omega
      have HST:=hide (HI.out.stop (.inr ⟨x,y,HX.out,HY.out,by
       rcases Classical.em (Pl.leP y x) with h | h
       ·exact h
       ·exact absurd (HKL.out.2 h) hv0⟩))
      have c0:∀ p:Cls (fun W => Below wr.heap.size wr W),p.w.cell? ⟨g,(k + 1) * 3,none⟩ = some a0:=fun p => cell_below x0 p.ok
      have c1:∀ p:Cls (fun W => Below wr.heap.size wr W),p.w.cell? ⟨g,(k + 1) * 3 + 1,none⟩ = some a1:=fun p => cell_below x1 p.ok
      have c2:∀ p:Cls (fun W => Below wr.heap.size wr W),p.w.cell? ⟨g,(k + 1) * 3 + 2,none⟩ = some (.int .i64 a2):=fun p => cell_below x2 p.ok
      have c3:∀ p:Cls (fun W => Below wr.heap.size wr W),p.w.cell? ⟨g,k * 3,none⟩ = some b0:=fun p => cell_below y0 p.ok
      have c4:∀ p:Cls (fun W => Below wr.heap.size wr W),p.w.cell? ⟨g,k * 3 + 1,none⟩ = some b1:=fun p => cell_below y1 p.ok
      have c5:∀ p:Cls (fun W => Below wr.heap.size wr W),p.w.cell? ⟨g,k * 3 + 2,none⟩ = some (.int .i64 b2):=fun p => cell_below y2 p.ok
      refine wp_region_cls (fun W => Below wr.heap.size wr W) (by kernel_rfl) (by kernel_rfl) (Below.refl wr.heap.size wr).drew (fun hne => ?_)
      repeat (go_big_quiet_step (((go_at_call 116; exact HCM.out _))))
      refine wpQuiet_nil ?_
      rintro _ ⟨p,rfl⟩
      clear c0 c1 c2 c3 c4 c5 x0 x1 x2 y0 y1 y2 HCM
      go_wp2
      go_roundg (go - 1)
      case measure => have := HIG.out; omega
      case rel => exact ⟨i + 1,cs,ps,by have := HIG.out; omega,by go_num,K0.out.below p.ok,HI.out.perm,HST.out⟩
  ·have hii:¬ ((i:Int) < (n:Int)):=by omega
   have HE:=hide (show ps.Pairwise Pl.leP by
    have h:=HSO.out
    rw [List.take_of_length_le (by rw [K0.out.len]; omega)] at h
    exact h)
   clear hig
   go_wp2
   exact bodyPost_end (by simp [results,Tryz.results133,go_sem]; rfl) rfl ⟨⟨_,rfl⟩,_,_,K0.out,HPM.out,HE.out⟩
end Go.Proofs.YtghdiolnonejaaaGreatDoor
end
section
namespace Go.Proofs.YtghdiolnonejaaaGreatDoor
open Go Go.RowKit
theorem lst5_ok {d:Pl.Dg} (hd:Pl.Wf d) {ls:List Int} {P:Nat} (hL:Pl.LB d ls P) (hp:∀ a,a < d.n → 0 ≤ Pl.pv ls a) {i:Nat} {p:Pl.Pc} (h:Pl.Lst5 d (Gl ls d.n i) p):Pl.PcOk d p ∧ ∀ c,c ∈ p.order ↔ c < d.n ∧ Pl.pv ls c = (i:Int) := by
 obtain ⟨r,h1,h2,h3⟩:=h.is
 obtain ⟨hr,hri⟩:=mem_Gl.1 h1
 have key:∀ c,c < d.n → (Pl.pv ls c = (i:Int) ↔ Pl.Comp d r c):=fun c hc => by
  constructor
  ·intro e
   exact hL.conn r c hr hc (hp r hr) (by rw [hri,e])
  ·intro e
   rw [hL.same r c hr e (hp r hr),hri]
 refine ⟨h.ok hd hr (fun c => ?_),fun c => ?_⟩
 ·rw [mem_Gl]
  constructor
  ·rintro ⟨hc,e⟩
   exact ⟨hc,(key c hc).1 e⟩
  ·rintro ⟨hc,e⟩
   exact ⟨hc,(key c hc).2 e⟩
 ·rw [h3,Pl.ord_mem hd hr]
  constructor
  ·intro e
   have hc:c < d.n:=((Pl.ord_ok hd hr).mem c ((Pl.ord_mem hd hr c).2 e)).1
   exact ⟨hc,(key c hc).2 e⟩
  ·rintro ⟨hc,e⟩
   exact (key c hc).1 e
theorem pcs_groups {d:Pl.Dg} (hd:Pl.Wf d) {ls:List Int} {P:Nat} (hL:Pl.LB d ls P) (hp:∀ a,a < d.n → 0 ≤ Pl.pv ls a) {ps:List Pl.Pc} (hlen:ps.length = P) (his:∀ (i:Nat) (p:Pl.Pc),ps[i]? = some p → Pl.Lst5 d (Gl ls d.n i) p):Pl.Pcs d ps := by
 have hok:∀ p,p ∈ ps → Pl.PcOk d p:=fun p hm => by
  obtain ⟨i,hi,rfl⟩:=List.getElem_of_mem hm
  exact (lst5_ok hd hL hp (his i _ (List.getElem?_eq_getElem hi))).1
 refine ⟨hok,?_,fun c hc => ?_⟩
 ·refine List.pairwise_flatMap.2 ⟨fun p hm => ?_,?_⟩
  ·obtain ⟨r,hr,_,e,_⟩:=hok p hm
   rw [e]; exact (Pl.ord_ok hd hr).nd
  ·rw [List.pairwise_iff_getElem]
   intro i j hi hj hij x hx y hy e
   subst e
   have h1:=((lst5_ok hd hL hp (his i _ (List.getElem?_eq_getElem hi))).2 x).1 hx
   have h2:=((lst5_ok hd hL hp (his j _ (List.getElem?_eq_getElem hj))).2 x).1 hy
   have:=h1.2.symm.trans h2.2
   omega
 ·have h0:=hp c hc
  have h1:=(hL.lo c hc).2
  obtain ⟨i,hi⟩:∃ i:Nat,Pl.pv ls c = (i:Int) := ⟨(Pl.pv ls c).toNat,by omega⟩
  have hiP:i < ps.length:=by rw [hlen]; omega
  exact ⟨ps[i],List.getElem_mem hiP,((lst5_ok hd hL hp (his i _ (List.getElem?_eq_getElem hiP))).2 c).2 ⟨hc,hi⟩⟩
theorem pcs_perm {d:Pl.Dg} {ps qs:List Pl.Pc} (h:Pl.Pcs d ps) (hp:qs.Perm ps):Pl.Pcs d qs :=
 ⟨fun p hq => h.ok p (hp.mem_iff.1 hq), (hp.flatMap_right Pl.Pc.order).nodup_iff.2 h.nd, fun c hc => by
   obtain ⟨p,h1,h2⟩:=h.all c hc
   exact ⟨p,hp.mem_iff.2 h1,h2⟩⟩
theorem pcs_sz {d:Pl.Dg} (hd:Pl.Wf d) {ps:List Pl.Pc} (h:Pl.Pcs d ps):∀ p,p ∈ ps → PcSz p := fun p hm => by
 obtain ⟨r,hr,e1,e2,_⟩:=h.ok p hm
 refine ⟨?_,(h.ok p hm).len⟩
 have h1:=(Pl.ord_ok hd hr).nd
 have h2:∀ c,c ∈ Pl.ord d r → c < d.n:=fun c hc => ((Pl.ord_ok hd hr).mem c hc).1
 have:=hd.few
 rw [e2]
 have h3:=Pl.nodup_len h1 h2
 omega
end Go.Proofs.YtghdiolnonejaaaGreatDoor
end
section
namespace Go.Proofs.YtghdiolnonejaaaGreatDoor
open Go Go.RowKit
attribute [local go_sem ↓] Go.wp_at_zero Go.wp_at_succ
set_option maxRecDepth 100000 in
set_option maxHeartbeats 2000000 in
theorem stable_any (base:Nat) (A:Option Addr) (n c:Nat) (cs:List Value) (qs:List Pl.Pc) (w:World) (h0:SI base w A n c cs qs w) (hsz:∀ p,p ∈ qs → PcSz p) (hn:n < 20) :
 Calls Tryz.prog 125 #[.slice A n c,.int .i64 (n:Int),.func (.func 116) #[] #[]] w fun e w' => (∃ v,e = .returned v) ∧ ∃ cs' ps',SI base w A n c cs' ps' w' ∧ ps'.Perm qs ∧ ps'.Pairwise Pl.leP := by
 have H0:=hide h0
 have HSZ:=hide hsz
 have hn1:¬ ((20:Int) ≤ (n:Int)):=by omega
 have hn2:¬ ((20:Int) < (n:Int)):=by omega
 clear h0 hsz
 go_enter Tryz.func125,Tryz.ntmps125
 go_wp2_with fail
 go_loopg [7,8] 0 (fun g s7 s8 wx => s7 = .int .i64 0 ∧ s8 = .int .i64 20 ∧ wx = w)
 case atStart => exact ⟨rfl,rfl,rfl⟩
 case round =>
  obtain ⟨rfl,rfl,rfl⟩:=hrel
  go_wp2_with fail
  refine (isort_any base A n c cs qs _ H0.out HSZ.out (by omega)).mono ?_
  rintro e w1 ⟨⟨v,rfl⟩,cs',ps',hS,hP,hW⟩
  have HR:=hide (show ∃ cs' ps',SI base wr A n c cs' ps' w1 ∧ ps'.Perm qs ∧ ps'.Pairwise Pl.leP from ⟨cs',ps',hS,hP,hW⟩)
  clear hS hP hW
  go_wp2_with fail
  go_loopg [6,7,8] 0 (fun g s6 s7 s8 wx => s6 = .int .i64 20 ∧ wx = w1)
  case atStart => exact ⟨rfl,rfl⟩
  case round =>
   obtain ⟨rfl,rfl⟩:=hrel
   go_wp2
   exact bodyPost_end (by simp [results,Tryz.results125,go_sem]; rfl) rfl ⟨⟨_,rfl⟩,HR.out⟩
set_option maxRecDepth 100000 in
set_option maxHeartbeats 2000000 in
theorem isort_none (A:Option Addr) (n c:Nat) (w:World) (hn:n ≤ 64) :
 Calls Tryz.prog 133 #[.slice A n c,.int .i64 (n:Int),.int .i64 (n:Int),.func (.func 116) #[] #[]] w fun e w' => (∃ v,e = .returned v) ∧ w' = w := by
 have h1:¬ ((n:Int) + 1 < (n:Int)):=by omega
 go_enter Tryz.func133,Tryz.ntmps133
 go_wp2
 go_loopg [8,9] 0 (fun g s8 s9 wx => s8 = .int .i64 ((n:Int) + 1) ∧ wx = w)
 case atStart => exact ⟨rfl,rfl⟩
 case round =>
  obtain ⟨rfl,rfl⟩:=hrel
  go_wp2
  exact bodyPost_end (by simp [results,Tryz.results133,go_sem]; rfl) rfl ⟨⟨_,rfl⟩,rfl⟩
set_option maxRecDepth 100000 in
set_option maxHeartbeats 2000000 in
theorem stable_20 (base:Nat) (A:Option Addr) (c:Nat) (cs:List Value) (qs:List Pl.Pc) (w:World) (h0:SI base w A 20 c cs qs w) (hsz:∀ p,p ∈ qs → PcSz p) :
 Calls Tryz.prog 125 #[.slice A 20 c,.int .i64 20,.func (.func 116) #[] #[]] w fun e w' => (∃ v,e = .returned v) ∧ ∃ cs' ps',SI base w A 20 c cs' ps' w' ∧ ps'.Perm qs ∧ ps'.Pairwise Pl.leP := by
 have H0:=hide h0
 have HSZ:=hide hsz
 clear h0 hsz
 go_enter Tryz.func125,Tryz.ntmps125
 go_wp2_with fail
 go_loopg [7,8] 1 (fun g s7 s8 wx => (g = 1 ∧ s7 = .int .i64 0 ∧ s8 = .int .i64 20 ∧ wx = w) ∨ (g = 0 ∧ s7 = .int .i64 20 ∧ s8 = .int .i64 40 ∧ ∃ cs' ps',SI base w A 20 c cs' ps' wx ∧ ps'.Perm qs ∧ ps'.Pairwise Pl.leP))
 case atStart => exact .inl ⟨rfl,rfl,rfl,rfl⟩
 case round =>
  obtain ⟨go,rfl⟩:∃ go,go = gk := ⟨_,rfl⟩
  rcases hrel with ⟨hg,rfl,rfl,rfl⟩ | ⟨hg,rfl,rfl,hR⟩
  ·have HG:=hide hg
   clear hg
   go_wp2_with fail
   refine (isort_any base A 20 c cs qs _ H0.out HSZ.out (by omega)).mono ?_
   rintro e w1 ⟨⟨v,rfl⟩,cs',ps',hS,hP,hW⟩
   have HR:=hide (show ∃ cs' ps',SI base wr A 20 c cs' ps' w1 ∧ ps'.Perm qs ∧ ps'.Pairwise Pl.leP from ⟨cs',ps',hS,hP,hW⟩)
   clear hS hP hW
   go_wp2_with fail
   go_roundg 0
   case measure => have := HG.out; omega
   case rel => exact .inr ⟨rfl,rfl,rfl,HR.out⟩
  ·have HR:=hide hR
   clear hR hg
   go_wp2_with fail
   refine (isort_none A 20 c _ (by omega)).mono ?_
   rintro e w1 ⟨⟨v,rfl⟩,rfl⟩
   go_wp2_with fail
   go_loopg [6,7,8] 0 (fun g s6 s7 s8 wx => s6 = .int .i64 20 ∧ wx = w1)
   case atStart => exact ⟨rfl,rfl⟩
   case round =>
    obtain ⟨rfl,rfl⟩:=hrel
    go_wp2
    exact bodyPost_end (by simp [results,Tryz.results125,go_sem]; rfl) rfl ⟨⟨_,rfl⟩,HR.out⟩
set_option maxRecDepth 100000 in
set_option maxHeartbeats 2000000 in
theorem sort_any (base:Nat) (A:Option Addr) (n c:Nat) (cs:List Value) (qs:List Pl.Pc) (w:World) (h0:SI base w A n c cs qs w) (hsz:∀ p,p ∈ qs → PcSz p) (hn:n ≤ 20) :
 Calls Tryz.prog 115 #[.slice A n c,.func (.func 116) #[] #[]] w fun e w' => (∃ v,e = .returned v) ∧ ∃ cs' ps',SI base w A n c cs' ps' w' ∧ ps'.Perm qs ∧ ps'.Pairwise Pl.leP := by
 have H0:=hide h0
 have HSZ:=hide hsz
 clear h0 hsz
 go_enter Tryz.func115,Tryz.ntmps115
 go_wp2_with fail
 have hst:Calls Tryz.prog 125 #[.slice A n c,.int .i64 (n:Int),.func (.func 116) #[] #[]] w fun e w' => (∃ v,e = .returned v) ∧ ∃ cs' ps',SI base w A n c cs' ps' w' ∧ ps'.Perm qs ∧ ps'.Pairwise Pl.leP:=by
  rcases Nat.lt_or_ge n 20 with h | h
  ·exact stable_any base A n c cs qs _ H0.out HSZ.out h
  ·obtain rfl:n = 20 := by omega
   exact stable_20 base A c cs qs _ H0.out HSZ.out
 refine hst.mono ?_
 clear hst
 rintro e w1 ⟨⟨v,rfl⟩,cs',ps',hS,hP,hW⟩
 have HR:=hide (show ∃ cs' ps',SI base w A n c cs' ps' w1 ∧ ps'.Perm qs ∧ ps'.Pairwise Pl.leP from ⟨cs',ps',hS,hP,hW⟩)
 clear hS hP hW
 go_wp2
 exact bodyPost_end (by simp [results,Tryz.results115,go_sem]; rfl) rfl ⟨⟨_,rfl⟩,HR.out⟩
end Go.Proofs.YtghdiolnonejaaaGreatDoor
end
section
namespace Go.Proofs.YtghdiolnonejaaaGreatDoor
open Go Go.RowKit
attribute [local go_sem ↓] Go.wp_at_zero Go.wp_at_succ
set_option maxRecDepth 100000 in
set_option maxHeartbeats 8000000 in
theorem pieces_any (d:Pl.Dg) (hd:Pl.Valid d) (A B:Option Addr) (cp cq m:Nat) (w:World) (hm:m = 4 * d.n) (hg:DgAt w A B d) (h20:d.n ≤ 20) :
 Calls Tryz.prog 96 #[.agg #[.slice A d.n cp,.slice B m cq,.int .i64 d.lp]] w fun e w' => ∃ (A':Option Addr) (n c:Nat) (cs:List Value) (ps:List Pl.Pc),e = .returned (.slice A' n c) ∧ w'.ownsRow (w.heap.size + 1) 146 3 (.slice A' n c) n cs ∧ PcsV w' cs ps ∧ ps.length = n ∧ n ≤ d.n ∧ Pl.Pcs d ps ∧ Pl.Srt ps ∧ Below w.heap.size w w' := by
 have hn:=hd.wf.few
 have HM:=hide hm
 have HG:=hide hg
 have HD:=hide hd
 clear hm hg
 have X0:=hide (row_at (W := w) (g := w.heap.size) (t := 24) (vs := [.slice A d.n cp,.slice B m cq,.int .i64 d.lp]) rfl)
 have B0:=hide (show Below w.heap.size w (w.alloc (.cells #[.slice A d.n cp,.slice B m cq,.int .i64 d.lp] 24)) from (Below.refl _ _).alloc (Nat.le_refl _) _)
 go_enter Tryz.func96,Tryz.ntmps96
 obtain ⟨d0,d1,d2,d3⟩:=box3 X0.out
 go_wp2_with fail
 refine (graph_any d hd A B cp cq m _ HM.out (HG.out.keep B0.out)).mono ?_
 rintro e w1 ⟨AG,cG,P,ls,vs,rfl,hP,hLB,hpos,hrow,hvs,hb1,_⟩
 have HLB:=hide hLB
 have HPOS:=hide hpos
 have L0:=hide (show PL w d ls P AG vs [.slice A d.n cp,.slice B m cq,.int .i64 d.lp] 0 (.slice none 0 0) [] [] w1 from
  ⟨X0.out.below hb1,⟨hrow,hvs⟩,World.ownsRow_nil _ _ _ _,trivial,rfl,fun i p h => by simp at h,B0.out.trans (hb1.mono B0.out.size)⟩)
 clear hLB hpos hrow hvs hb1 X0 B0 d0 d1 d2 d3
 go_wp2_with fail
 go_loopg [3,5,6,8,9,10,11,15,34,40] P (fun g s3 s5 s6 s8 s9 s10 s11 s15 s34 s40 wx => ∃ (j:Nat) (cs:List Value) (ps:List Pl.Pc),j + g = P ∧ s15 = .int .i64 (j:Int) ∧ PL w d ls P AG vs [.slice A d.n cp,.slice B m cq,.int .i64 d.lp] j s3 cs ps wx)
 case atStart => exact ⟨0,_,_,by omega,rfl,L0.out⟩
 case round =>
  clear L0
  obtain ⟨j,cs,ps,hjg,rfl,hk⟩:=hrel
  have HJG:=hide hjg
  have K0:=hide hk
  have hjP:j ≤ P:=by omega
  clear hk
  obtain ⟨go,rfl⟩:∃ go,go = gk := ⟨_,rfl⟩
  by_cases hj:j < P
  ·have hji:(j:Int) < (P:Int):=by omega
   have j0:(0:Int) ≤ (j:Int):=by omega
   obtain ⟨v,hvj,AF,cF,rfl,hF⟩:=K0.out.gr.v.2 j _ (gl_at ls d.n hj)
   have hvl:=(List.getElem?_eq_some_iff.1 hvj).1
   obtain ⟨bG,oG,rfl,x1⟩:=RowAt.at_ K0.out.gr.r.row hj
   rw [(List.getElem?_eq_some_iff.1 hvj).2] at x1
   have HVJ:=hide hvj
   obtain ⟨l,hl⟩:∃ l,l = Gl ls d.n j := ⟨_,rfl⟩
   rw [← hl] at x1 hF
   obtain ⟨nl,hnl⟩:∃ n,n = l.length := ⟨_,rfl⟩
   have HNL:=hide hnl
   rw [← hnl] at x1
   have HLL:=hide hl
   have hnl64:nl ≤ 64:=by rw [hnl,hl]; have := Gl_len ls d.n j; omega
   obtain ⟨aLst,cL,rfl⟩:=owns_slice K0.out.own
   have hng:(Value.slice aLst j cL).ownBlock ≠ some wr.heap.size:=fun e => by have := (K0.out.own.lt _ e).2; omega
   have P0:=hide (show PI w d ls P (some ⟨bG,oG,none⟩) vs [.slice A d.n cp,.slice B m cq,.int .i64 d.lp] j (.slice aLst j cL) cs ps wr.heap.size 0 (.slice none 0 0) (.slice none 0 0) 0 (wr.alloc (.cells #[.slice none 0 0,.slice none 0 0,.int .i64 0] 146)) from
    ⟨K0.out.alloc _,row_at (vs := [.slice none 0 0,.slice none 0 0,.int .i64 0]) rfl,.inl ⟨rfl,rfl,rfl,rfl⟩,by have := K0.out.big; omega,hng⟩)
   have hlo:w.heap.size < wr.heap.size:=by have := K0.out.big; omega
   clear hvj hl hnl hF hjg hng
   obtain ⟨d0,d1,d2,d3⟩:=box3 K0.out.bx
   obtain ⟨g6,hg6⟩:∃ g,g = wr.heap.size := ⟨_,rfl⟩
   go_upto_region 6 with fail
   rw [← hg6] at P0 hlo ⊢
   clear hg6 d0 d1 d2 d3 x1 K0
   go_wp2_with fail
   go_loopg [8,9,10,11,21,34,40] nl (fun g s8 s9 s10 s11 s21 s34 s40 wx => ∃ (k:Nat) (vC vO:Value) (x:Int),k + g = nl ∧ s21 = .int .i64 (k:Int) ∧ PI w d ls P (some ⟨bG,oG,none⟩) vs [.slice A d.n cp,.slice B m cq,.int .i64 d.lp] j (.slice aLst j cL) cs ps g6 k vC vO x wx)
   case atStart => exact ⟨0,_,_,_,by omega,rfl,P0.out⟩
   case round =>
    clear P0
    obtain ⟨k,vC,vO,x,hkg,rfl,hk⟩:=hrel
    have HKG:=hide hkg
    have K0:=hide hk
    have hkn:k ≤ nl:=by omega
    clear hk
    obtain ⟨gi,rfl⟩:∃ gi,gi = gk := ⟨_,rfl⟩
    by_cases hk:k < nl
    ·have hki:(k:Int) < (nl:Int):=by omega
     have k0:(0:Int) ≤ (k:Int):=by omega
     obtain ⟨v',e',hF⟩:=K0.out.p.gr.v.2 j _ (gl_at ls d.n hj)
     rw [HVJ.out] at e'
     injection e' with e'
     subst e'
     have hF2:=hF.ints.2
     rw [← HLL.out,← HNL.out] at hF2
     obtain ⟨b8,o8,rfl,x8⟩:=nats_at hF2 hk
     obtain ⟨q,hq⟩:∃ q,q = l.getD k 0 := ⟨_,rfl⟩
     rw [← hq] at x8
     have hql:l[k]? = some q:=by rw [hq,List.getD_eq_getElem?_getD,List.getElem?_eq_getElem (by rw [← HNL.out]; exact hk)]; rfl
     have hqm:q ∈ Gl ls d.n j:=by rw [← HLL.out]; exact List.mem_of_getElem? hql
     have hqn:q < d.n:=(mem_Gl.1 hqm).1
     have HTK:=hide (show (Gl ls d.n j).take (k + 1) = (Gl ls d.n j).take k ++ [q] from Pl.take_one (by rw [← HLL.out]; exact hql))
     have hcc:=fun c (hc:c ∈ Gl ls d.n j) => gl_comp HLB.out HPOS.out hc hqm
     have hq0:(0:Int) ≤ (q:Int):=by omega
     have hbest:=K0.out.b.best HD.out.wf hqn hcc
     clear hF hF2 hq hql hqm hcc hkg
     obtain ⟨d0,d1,d2,d3⟩:=box3 K0.out.p.bx
     obtain ⟨f0,f1,f2,f3⟩:=box3 K0.out.r
     rcases hbest with ⟨hk0,hb⟩ | ⟨p,hpv,hl5,hx0,hxk,hb⟩
     ·have HB:=hide hb
      have hvn:vC = .slice none 0 0:=hb
      subst hvn
      have HK0:=hide hk0
      clear hb hk0
      go_wp2_with fail
      refine (number_any d HD.out.wf A B cp cq m q _ none _ HM.out (HG.out.keep K0.out.p.bel) hqn HB.out).mono ?_
      intro e w2 hres
      obtain ⟨vC',vO',rfl,own1,own2⟩:=hres.2.1 (by rw [Pl.vall_none]; omega)
      have K2:=hide (K0.out.below hres.2.2)
      obtain ⟨A1,e1,rfl⟩:=owns_slice own1
      obtain ⟨A2,e2,rfl⟩:=owns_slice own2
      have HP:=hide (show PcV w2 (.slice A1 (Pl.code d q).length e1) (.slice A2 (Pl.ord d q).length e2) 1 ⟨Pl.code d q,Pl.ord d q,1⟩ from ⟨own_intT own1,own_natT own2,rfl⟩)
      rw [show Pl.vall none (Pl.code d q) = -1 from Pl.vall_none _]
      clear hres own1 own2 d0 d1 d2 d3 f0 f1 f2 f3 x8 K0
      obtain ⟨f0,f1,f2,f3⟩:=box3 K2.out.r
      go_wp2
      go_roundg (gi - 1)
      case measure => have := HKG.out; omega
      case rel => exact ⟨k + 1,_,_,1,by have := HKG.out; omega,by go_num,K2.out.put HP.out (by rw [HTK.out,HK0.out]; exact Pl.Lst5.one q 1)⟩
     ·have HB:=hide hb
      obtain ⟨bb,bo,bc,rfl,hrest⟩:=hb
      clear hrest
      have HPV:=hide hpv
      have HL5:=hide hl5
      clear hpv hl5
      go_wp2_with fail
      refine (number_any d HD.out.wf A B cp cq m q _ (some p.code) _ HM.out (HG.out.keep K0.out.p.bel) hqn HB.out).mono ?_
      intro e w2 hres
      have K2:=hide (K0.out.below hres.2.2)
      have HPV2:=hide (HPV.out.below hres.2.2)
      clear d0 d1 d2 d3 f0 f1 f2 f3 x8 K0 HPV HB
      obtain ⟨f0,f1,f2,f3⟩:=box3 K2.out.r
      obtain ⟨v,hv⟩:∃ v,v = Pl.vall (some p.code) (Pl.code d q) := ⟨_,rfl⟩
      have HV:=hide (show v = Pl.lx (Pl.code d q) p.code from hv.trans (Pl.vall_some _ _))
      by_cases hv0:0 < v
      ·obtain rfl := hres.1 (by rw [← hv]; exact hv0)
       clear hres hv
       have HLS:=hide (HL5.out.more (q := q) (by rw [← HV.out]; omega) x)
       go_wp2
       go_roundg (gi - 1)
       case measure => have := HKG.out; omega
       case rel => exact ⟨k + 1,_,_,x,by have := HKG.out; omega,by go_num,K2.out.skip HPV2.out (by rw [HTK.out]; exact HLS.out) hx0 hxk⟩
      ·obtain ⟨vC',vO',rfl,own1,own2⟩:=hres.2.1 (by rw [← hv]; exact hv0)
       obtain ⟨A1,e1,rfl⟩:=owns_slice own1
       obtain ⟨A2,e2,rfl⟩:=owns_slice own2
       have HP:=hide (show PcV w2 (.slice A1 (Pl.code d q).length e1) (.slice A2 (Pl.ord d q).length e2) 1 ⟨Pl.code d q,Pl.ord d q,1⟩ from ⟨own_intT own1,own_natT own2,rfl⟩)
       rw [← hv]
       clear hres hv own1 own2
       by_cases hvz:v = 0
       ·have HLS:=hide (HL5.out.more (q := q) (by rw [← HV.out]; omega) (x + 1))
        subst hvz
        have hx64:x ≤ 64:=by omega
        go_wp2
        go_roundg (gi - 1)
        case measure => have := HKG.out; omega
        case rel => exact ⟨k + 1,_,_,x + 1,by have := HKG.out; omega,by go_num,K2.out.more HPV2.out (by rw [HTK.out]; exact HLS.out) hx0 hxk⟩
       ·have hvn:v < 0:=by omega
        have HLS:=hide (HL5.out.less (q := q) (by rw [← HV.out]; exact hvn) 1)
        clear hvz hv0
        go_wp2
        go_roundg (gi - 1)
        case measure => have := HKG.out; omega
        case rel => exact ⟨k + 1,_,_,1,by have := HKG.out; omega,by go_num,K2.out.put HP.out (by rw [HTK.out]; exact HLS.out)⟩
    ·have hki:¬ ((k:Int) < (nl:Int)):=by omega
     have hnl0:0 < nl:=by
      obtain ⟨a,ha,he⟩:=HLB.out.all j hj
      rw [HNL.out,HLL.out]
      exact List.length_pos_of_mem (mem_Gl.2 ⟨ha,he⟩)
     rcases K0.out.b with ⟨h0,_⟩ | ⟨p,hp,hl5,hx0,hxk⟩
     ·omega
     ·have HP:=hide hp
      have HL5:=hide (show Pl.Lst5 d (Gl ls d.n j) p by
       have h:(Gl ls d.n j).take k = Gl ls d.n j:=List.take_of_length_le (by rw [← HLL.out,← HNL.out]; omega)
       rw [h] at hl5
       exact hl5)
      clear hp hl5
      obtain ⟨A1,e1,h1,h1b⟩:=HP.out.c
      obtain ⟨A2,e2,h2,h2b⟩:=HP.out.o
      subst h1
      subst h2
      clear h1b h2b hkg hnl0
      have hj64:j ≤ 64:=by omega
      obtain ⟨f0,f1,f2,f3⟩:=box3 K0.out.r
      have KA:=hide (K0.out.p.alloc (.cells #[.slice A1 p.code.length e1,.slice A2 (nats p.order).length e2,.int .i64 x] 146))
      have HPA:=hide (HP.out.below ((Below.refl wr.heap.size wr).alloc (Nat.le_refl _) (.cells #[.slice A1 p.code.length e1,.slice A2 (nats p.order).length e2,.int .i64 x] 146)))
      obtain ⟨i0,hi0,hz0,hz1,hz2⟩:=info_parts pieceInfo
      have P1:∀ u ∈ [Value.slice A1 p.code.length e1,.slice A2 (nats p.order).length e2,.int .i64 x],u.oneCell' = true:=by simp [Value.oneCell']
      go_wp2_with (at_builtin; refine wpList_append_lies _ (by rfl) _ _ 143 (by rfl) (w.heap.size + 1) 146 i0 (.agg #[.slice none 0 0,.slice none 0 0,.int .i64 0]) 3 56 Tryz.underlying143 hi0 hz0 hz1 hz2 rfl (by omega) _ j cs (by rfl) KA.out.own ⟨wr.heap.size,0,none⟩ 1 1 [.slice A1 p.code.length e1,.slice A2 (nats p.order).length e2,.int .i64 x] (by rfl) (by rfl) (three_news wr _ rfl _ _ _) P1 (by omega) (by unfold maxLen; omega) (by omega) KA.out.big (wr.heap.size + 1) (by simp) ?_; intro g3 c3 w3 own3 grow3 at3 lt3; have OWN3 := hide own3; have GR3 := hide grow3; clear own3 grow3 at3)
      go_roundg (go - 1)
      case measure => have := HJG.out; omega
      case rel => exact ⟨j + 1,_,_,by have := HJG.out; omega,by go_num,KA.out.app OWN3.out GR3.out rfl HPA.out HL5.out⟩
  ·have hji:¬ ((j:Int) < (P:Int)):=by omega
   obtain ⟨aLst,cL,rfl⟩:=owns_slice K0.out.own
   have hjP':j = P:=by omega
   have hPd:=HLB.out.le
   have HPCS:=hide (pcs_groups HD.out.wf HLB.out HPOS.out (by rw [K0.out.len]; exact hjP') K0.out.is)
   have S0:=hide (show SI (w.heap.size + 1) wr aLst j cL cs ps wr from ⟨K0.out.own,K0.out.pv,K0.out.len,Below.refl _ _,K0.out.big⟩)
   have BW:=hide K0.out.bel
   clear K0 hjP'
   go_wp2_with fail
   refine (sort_any (w.heap.size + 1) aLst j cL cs ps _ S0.out (pcs_sz HD.out.wf HPCS.out) (by omega)).mono ?_
   rintro e w1 ⟨⟨v,rfl⟩,cs',ps',hS,hP,hW⟩
   have HR:=hide (show ∃ (A':Option Addr) (n c:Nat) (cs:List Value) (ps:List Pl.Pc),Ending.returned (.slice aLst j cL) = .returned (.slice A' n c) ∧ w1.ownsRow (w.heap.size + 1) 146 3 (.slice A' n c) n cs ∧ PcsV w1 cs ps ∧ ps.length = n ∧ n ≤ d.n ∧ Pl.Pcs d ps ∧ Pl.Srt ps ∧ Below w.heap.size w w1 from
    ⟨aLst,j,cL,cs',ps',rfl,hS.own,hS.pv,hS.len,by omega,pcs_perm HPCS.out hP,hW,BW.out.trans (hS.bel.mono (Nat.le_succ _))⟩)
   clear hS hP hW
   go_wp2
   go_ret
   exact HR.out
end Go.Proofs.YtghdiolnonejaaaGreatDoor
end
section
namespace Go.Proofs.YtghdiolnonejaaaGreatDoor
open Go Go.RowKit
attribute [local go_sem ↓] Go.wp_at_zero Go.wp_at_succ
def pcJ (lp:Nat) (ps:List Pl.Pc) (j:Nat):List Int := (lp:Int) :: (ps.length:Int) :: (ps.take j).flatMap (fun p => (p.order.length:Int) :: p.code)
theorem pcJ_zero (lp:Nat) (ps:List Pl.Pc):pcJ lp ps 0 = [(lp:Int),(ps.length:Int)] := by unfold pcJ; simp
theorem pcJ_succ (lp:Nat) {ps:List Pl.Pc} {j:Nat} {p:Pl.Pc} (h:ps[j]? = some p):pcJ lp ps (j + 1) = (pcJ lp ps j ++ [(p.order.length:Int)]) ++ p.code := by
 unfold pcJ
 rw [Pl.take_one h,List.flatMap_append]
 simp
theorem pcJ_all (lp:Nat) {ps:List Pl.Pc} {j:Nat} (h:ps.length ≤ j):pcJ lp ps j = Pl.pcode lp ps := by
 unfold pcJ Pl.pcode
 rw [List.take_of_length_le h]
theorem pcJ_len (lp:Nat) {ps:List Pl.Pc} (hs:∀ p,p ∈ ps → PcSz p):∀ j,(pcJ lp ps j).length ≤ 2 + 400 * j
 | 0 => by rw [pcJ_zero]; simp
 | j + 1 => by
   by_cases h:j < ps.length
   ·have e:ps[j]? = some ps[j]:=List.getElem?_eq_getElem h
    have h1:=hs _ (List.getElem_mem h)
    have h2:=h1.1
    have h3:=h1.2
    have ih:=pcJ_len lp hs j
    rw [pcJ_succ lp e]
    simp only [List.length_append,List.length_cons,List.length_nil]
    omega
   ·have ih:=pcJ_len lp hs j
    rw [pcJ_all lp (by omega)] at ih
    rw [pcJ_all lp (by omega)]
    omega
structure CL (w1:World) (xs:List Int) (m:Nat) (vL:Value) (W:World):Prop where
 own:W.ownsRow w1.heap.size 3 1 vL m (xs.map (.int .i64))
 len:xs.length = m
 bel:Below w1.heap.size w1 W
theorem CL.alloc {w1 W:World} {xs:List Int} {m:Nat} {vL:Value} (h:CL w1 xs m vL W) (o:Obj):CL w1 xs m vL (W.alloc o) :=
 ⟨own_below h.own ((Below.refl _ _).alloc (Nat.le_refl _) o),h.len,h.bel.trans (((Below.refl _ _).alloc (Nat.le_refl _) o).mono h.bel.size)⟩
theorem CL.app {w1 W W':World} {xs ys:List Int} {m n:Nat} {vL vL':Value} (h:CL w1 xs m vL W) (own:W'.ownsRow w1.heap.size 3 1 vL' n (xs.map (.int .i64) ++ ys.map (.int .i64))) (gr:W.grownBy W' vL.ownBlock) (hn:n = m + ys.length):CL w1 (xs ++ ys) n vL' W' :=
 ⟨by rw [List.map_append]; exact own,by rw [List.length_append,h.len,hn],h.bel.grown gr h.bel.size (fun k hk => (h.own.lt k hk).1)⟩
theorem own_two (w:World) (x y:Int):(w.alloc (.cells #[.int .i64 x,.int .i64 y] 3)).ownsRow w.heap.size 3 1 (.slice (some ⟨w.heap.size,0,none⟩) 2 2) 2 ([x,y].map (.int .i64)) :=
 ⟨rfl,.inr ⟨w.heap.size,2,#[.int .i64 x,.int .i64 y],rfl,Nat.le_refl _,heap_alloc_new w _,Nat.le_refl _,by unfold maxLen; omega,rfl,rfl⟩⟩
def CodeT (d:Pl.Dg) (w:World) (e:Ending) (w':World):Prop :=
 ∃ (A':Option Addr) (n c:Nat) (ps:List Pl.Pc),e = .returned (.slice A' n c) ∧ Pl.Pcs d ps ∧ Pl.Srt ps ∧ n ≤ 8100 ∧ RowT w' 3 A' n ((Pl.pcode d.lp ps).map (.int .i64)) ∧ Below w.heap.size w w'
set_option maxRecDepth 100000 in
set_option maxHeartbeats 8100000 in
theorem code_t (d:Pl.Dg) (hd:Pl.Valid d) (h20:d.n ≤ 20) (A B:Option Addr) (cp cq m:Nat) (w:World) (hm:m = 4 * d.n) (hg:DgAt w A B d) :
 Calls Tryz.prog 66 #[.agg #[.slice A d.n cp,.slice B m cq,.int .i64 d.lp]] w (CodeT d w) := by
 have hlp:=hd.wf.lp
 have HM:=hide hm
 have HG:=hide hg
 have HD:=hide hd
 clear hm hg
 have X0:=hide (row_at (W := w) (g := w.heap.size) (t := 24) (vs := [.slice A d.n cp,.slice B m cq,.int .i64 d.lp]) rfl)
 have B0:=hide (show Below w.heap.size w (w.alloc (.cells #[.slice A d.n cp,.slice B m cq,.int .i64 d.lp] 24)) from (Below.refl _ _).alloc (Nat.le_refl _) _)
 go_enter Tryz.func66,Tryz.ntmps66
 obtain ⟨d0,d1,d2,d3⟩:=box3 X0.out
 go_wp2_with fail
 refine (valid_yes d HD.out A B cp cq m _ HM.out (HG.out.keep B0.out)).mono ?_
 rintro e w1 ⟨rfl,hb1⟩
 have Y0:=hide (X0.out.below hb1)
 have B1:=hide (B0.out.trans (hb1.mono B0.out.size))
 clear X0 B0 hb1 d0 d1 d2 d3
 obtain ⟨d0,d1,d2,d3⟩:=box3 Y0.out
 go_wp2_with fail
 refine (pieces_any d HD.out A B cp cq m _ HM.out (HG.out.keep B1.out) h20).mono ?_
 rintro e w2 ⟨aLst,n,cL,cs,ps,rfl,hown,hpv,hlen,hnd,hpcs,hsrt,hb2⟩
 have Z0:=hide (Y0.out.below hb2)
 have B2:=hide (B1.out.trans (hb2.mono B1.out.size))
 have OW:=hide hown
 have HPV:=hide hpv
 have HLEN:=hide hlen
 have HPS:=hide (show Pl.Pcs d ps ∧ Pl.Srt ps from ⟨hpcs,hsrt⟩)
 have HSZ:=hide (pcs_sz HD.out.wf hpcs)
 have hn20:n ≤ 20:=by omega
 clear hown hpv hlen hpcs hsrt hb2 d0 d1 d2 d3 Y0 B1 hnd
 obtain ⟨d0,d1,d2,d3⟩:=box3 Z0.out
 go_upto_region 5 with fail
 have L0:=hide (show CL w2 (pcJ d.lp ps 0) 2 (.slice (some ⟨w2.heap.size,0,none⟩) 2 2) (w2.alloc (.cells #[.int .i64 d.lp,.int .i64 n] 3)) from by
  rw [pcJ_zero,HLEN.out]
  exact ⟨own_two _ _ _,rfl,(Below.refl _ _).alloc (Nat.le_refl _) _⟩)
 clear d0 d1 d2 d3
 go_wp2_with fail
 go_loopg [4,6,19] n (fun g s4 s6 s19 wx => ∃ (j m:Nat) (xs:List Int),j + g = n ∧ s19 = .int .i64 (j:Int) ∧ xs = pcJ d.lp ps j ∧ CL w2 xs m s4 wx)
 case atStart => exact ⟨0,_,_,by omega,rfl,rfl,L0.out⟩
 case round =>
  clear L0
  obtain ⟨j,k,xs,hjg,rfl,hxs,hk⟩:=hrel
  have HJG:=hide hjg
  have K0:=hide hk
  have HXS:=hide hxs
  have hjn:j ≤ n:=by omega
  have hkl:k ≤ 2 + 400 * j:=by
   rw [← hk.len,hxs]
   exact pcJ_len d.lp HSZ.out j
  clear hk hxs
  obtain ⟨A4,c4,rfl⟩:=owns_slice K0.out.own
  by_cases hj:j < n
  ·have hji:(j:Int) < (n:Int):=by omega
   have j0:(0:Int) ≤ (j:Int):=by omega
   have hnA:0 < n:=by omega
   obtain ⟨g,cap,hA,hcap,hgl⟩:=World.ownsRow.form OW.out hnA
   injection hA with hA _ hcc
   subst hA
   subst hcc
   obtain ⟨p,hp⟩:∃ p,ps[j]? = some p := ⟨_,List.getElem?_eq_getElem (by rw [HLEN.out]; exact hj)⟩
   have HXN:=hide (pcJ_succ d.lp hp)
   have hpsz:=HSZ.out p (List.mem_of_getElem? hp)
   obtain ⟨a0,a1,a2,hpx,ca0,ca1,ca2⟩:=HPV.out.at_ hp
   have CA:=fun (t:Nat) (u:Value) (ht:j * 3 + t < n * 3) (e:cs[j * 3 + t]? = some u) => (show wr.cell? ⟨g,j * 3 + t,none⟩ = some u by exact cell_below (by rw [World.ownsRow.cellAt OW.out _ ht]; exact e) K0.out.bel)
   have x0:=CA 0 a0 (by omega) ca0
   have x1:=CA 1 a1 (by omega) ca1
   have x2:=CA 2 _ (by omega) ca2
   rw [Nat.add_zero] at x0
   clear CA ca0 ca1 ca2 hp hjg
   obtain ⟨A1,e1,h1,h1b⟩:=hpx.c
   obtain ⟨A2,e2,h2,h2b⟩:=hpx.o
   have HC1:=hide (show IntsAt w2 A1 p.code.length p.code from h1b.2.row)
   subst h1
   subst h2
   clear h1b h2b hpx
   rw [nats_len] at x1
   obtain ⟨L1,hL1⟩:∃ n,n = p.code.length := ⟨_,rfl⟩
   obtain ⟨L2,hL2⟩:∃ n,n = p.order.length := ⟨_,rfl⟩
   rw [← hL1] at x0 HC1
   rw [← hL2] at x1
   have HL2:=hide hL2
   have HL1:=hide hL1
   have hL2b:L2 ≤ 64:=by rw [hL2]; exact hpsz.1
   have hL1b:L1 ≤ 320:=by rw [hL1,hpsz.2]; have := hpsz.1; omega
   clear hpsz hL1 hL2
   have KA:=hide (K0.out.alloc (.cells #[.slice A1 L1 e1,.slice A2 L2 e2,.int .i64 a2] 146))
   have XB:=hide (row_at (W := wr) (g := wr.heap.size) (t := 146) (vs := [.slice A1 L1 e1,.slice A2 L2 e2,.int .i64 a2]) rfl)
   obtain ⟨f0,f1,f2,f3⟩:=box3 XB.out
   go_upto_region 8 with fail
   obtain ⟨V,hV⟩:∃ V,V = wr.alloc (.cells #[.slice A1 L1 e1,.slice A2 L2 e2,.int .i64 a2] 146) := ⟨_,rfl⟩
   obtain ⟨gb,hgb⟩:∃ g,g = wr.heap.size := ⟨_,rfl⟩
   have hgV:w2.heap.size ≤ gb:=by rw [hgb]; exact K0.out.bel.size
   rw [← hV] at KA XB f0 f1 f2 f3 ⊢
   rw [← hgb] at XB f0 f1 f2 f3 ⊢
   have HUB:=hide (show ∀ b,(Value.slice A4 k c4).ownBlock = some b → b < gb from fun b h => by rw [hgb]; exact (K0.out.own.lt b h).2)
   clear hV hgb x0 x1 x2 K0
   have KB:=hide (KA.out.alloc (.cells #[.int .i64 L2] 3))
   have hVs:=KA.out.bel.size
   obtain ⟨i0,hi0,hz0,hz1,hz2⟩:=info_parts intInfo
   go_upto_region 9 with (at_builtin; refine wpList_append_lies _ (by rfl) _ _ 22 (by rfl) w2.heap.size 3 i0 (.int .i64 0) 1 8 Tryz.underlying22 hi0 hz0 hz1 hz2 rfl (by omega) _ k _ (by rfl) KB.out.own ⟨V.heap.size,0,none⟩ 1 1 [.int .i64 L2] (by rfl) (by rfl) (one_newsG _ _ rfl) (by simp [Value.oneCell']) (by omega) (by unfold maxLen; omega) (by omega) (by have := KB.out.bel.size; omega) (V.heap.size + 1) (by simp) ?_; intro g3 c3 w3 own3 grow3 at3 lt3; have OWN3 := hide own3; have GR3 := hide grow3; clear own3 grow3 at3)
   have K3:=hide (KB.out.app (ys := [(L2:Int)]) OWN3.out GR3.out rfl)
   have X3:=hide ((XB.out.below ((Below.refl V.heap.size V).alloc (Nat.le_refl _) (.cells #[.int .i64 L2] 3))).grown GR3.out (fun e => by have := HUB.out _ e.symm; omega))
   clear f0 f1 f2 f3 KA KB XB OWN3 GR3 lt3
   obtain ⟨f0,f1,f2,f3⟩:=box3 X3.out
   go_wp2_with (at_builtin; refine wpList_append_int _ (by rfl) _ _ 22 (by rfl) w2.heap.size 3 i0 (.int .i64 0) 8 Tryz.underlying22 hi0 hz0 hz1 hz2 rfl _ (k + 1) _ (by rfl) K3.out.own A1 L1 e1 p.code (by rfl) (HC1.out.keep K3.out.bel) (by unfold maxLen; omega) (by omega) K3.out.bel.size ?_; intro v4 w4 own4 gr4; have OWN4 := hide own4; have GR4 := hide gr4; clear own4 gr4)
   go_roundg (gk - 1)
   case measure => have := HJG.out; omega
   case rel => exact ⟨j + 1,_,_,by have := HJG.out; omega,by go_num,rfl,by
    rw [HXN.out,← HXS.out,← HL2.out]
    exact K3.out.app OWN4.out GR4.out (by rw [HL1.out])⟩
  ·have hji:¬ ((j:Int) < (n:Int)):=by omega
   have HIA:=hide (show RowT wr 3 A4 k ((Pl.pcode d.lp ps).map (.int .i64)) by
    rw [← pcJ_all d.lp (j := j) (by rw [HLEN.out]; omega),← HXS.out]
    exact own_rowT K0.out.own)
   have HBE:=hide (B2.out.trans (K0.out.bel.mono B2.out.size))
   go_wp2
   go_ret
   exact ⟨A4,k,c4,ps,rfl,HPS.out.1,HPS.out.2,by omega,HIA.out,HBE.out⟩
end Go.Proofs.YtghdiolnonejaaaGreatDoor
end
section
namespace Go.Proofs.YtghdiolnonejaaaGreatDoor
open Go Go.RowKit
attribute [local go_sem ↓] Go.wp_at_zero Go.wp_at_succ
theorem own_shrink {W:World} {base g n c:Nat} {e:TypeId} {xs:List Value} (h:W.ownsRow base e 1 (.slice (some ⟨g,0,none⟩) (n + 1) c) (n + 1) xs):W.ownsRow base e 1 (.slice (some ⟨g,0,none⟩) n c) n xs.dropLast := by
 have hl:xs.length = n + 1:=by simpa using h.1
 refine ⟨by rw [List.length_dropLast]; omega,?_⟩
 rcases h.2 with ⟨h1,_⟩ | ⟨g',cap,cur,h1,h2,h3,h4,h5,h6,h7⟩
 ·cases h1
 ·injection h1 with e1 e2 e3
  injection e1 with e1
  injection e1 with e1
  subst e1 e3
  refine .inr ⟨g,c,cur,rfl,h2,h3,by omega,h5,h6,?_⟩
  rw [← h7,Nat.mul_one,Nat.mul_one,List.dropLast_eq_take,List.take_take,List.length_take]
  congr 1
  have:cur.toList.length = c * 1:=by simpa using h6
  omega
theorem cut_own (g n c:Nat) (hn:n ≤ c) (hc:c ≤ maxLen) (W:World):(Instr.slice 22 (.slice (some ⟨g,0,none⟩) (n + 1) c) none (some (.int .i64 (n:Int))) none).run Tryz.prog W = .ok (.slice (some ⟨g,0,none⟩) n c) W := by
 unfold maxLen at hc
 rw [run_slice_h W 22 (some ⟨g,0,none⟩) (n + 1) c elemI .i64 (n:Int) (by omega) (by omega),sizeI]
 by_cases h0:c = 0
 ·simp [sliced,h0]
 ·simp [sliced,h0,Addr.add]
theorem own_capI {W:World} {base n c:Nat} {e:TypeId} {A:Option Addr} {xs:List Value} (h:W.ownsRow base e 1 (.slice A n c) n xs) (hn:0 < n):n ≤ c ∧ c ≤ maxLen := by
 rcases h.2 with ⟨h1,h2⟩ | ⟨g',cap,cur,h1,h2,h3,h4,h5,h6,h7⟩
 ·omega
 ·injection h1 with e1 e2 e3
  subst e3
  exact ⟨h4,h5⟩
end Go.Proofs.YtghdiolnonejaaaGreatDoor
end
section
namespace Go.Proofs.YtghdiolnonejaaaGreatDoor
open Go Go.RowKit Go.Shelf
attribute [local go_sem ↓] Go.wp_at_zero Go.wp_at_succ
def bdR:Go.Shelf.Ren := ⟨fun | 166 => 68 | 167 => 67 | 169 => 70 | 240 => 102 | 276 => 121 | n => n,fun | 0 => 0 | 3 => 3 | 4 => 4 | 5 => 5 | 9 => 9 | 20 => 20 | 37 => 103 | 70 => 102 | 72 => 105 | 75 => 108 | 76 => 110 | 164 => 162 | 127 => 151 | 80 => 113 | n => n,fun | n => n⟩
set_option maxRecDepth 100000 in
theorem hl167:Go.Proofs.Lays.n167 Tryz.prog bdR := {
 mixed := by kernel_rfl
 f167 := Tryz.func67.trans (congrArg some (by kernel_rfl))
 f240 := Tryz.func102.trans (congrArg some (by kernel_rfl))
 f276 := Tryz.func121.trans (congrArg some (by kernel_rfl))
 t0 := Tryz.underlying0
 a0 := Tryz.isAgg0
 z0 := Tryz.sizeOf0
 v0 := Tryz.zeroValue0
 t4 := Tryz.underlying4
 a4 := Tryz.isAgg4
 z4 := Tryz.sizeOf4
 v4 := Tryz.zeroValue4
 t5 := Tryz.underlying5
 a5 := Tryz.isAgg5
 z5 := Tryz.sizeOf5
 v5 := Tryz.zeroValue5
 t9 := Tryz.underlying9
 a9 := Tryz.isAgg9
 z9 := Tryz.sizeOf9
 v9 := Tryz.zeroValue9
 t20 := Tryz.underlying20
 a20 := Tryz.isAgg20
 z20 := Tryz.sizeOf20
 v20 := Tryz.zeroValue20
 t37 := Tryz.underlying103
 a37 := Tryz.isAgg103
 z37 := Tryz.sizeOf103
 v37 := Tryz.zeroValue103
 t70 := Tryz.underlying102
 a70 := Tryz.isAgg102
 z70 := Tryz.sizeOf102
 v70 := Tryz.zeroValue102
 t72 := Tryz.underlying105
 a72 := Tryz.isAgg105
 z72 := Tryz.sizeOf105
 v72 := Tryz.zeroValue105
 t75 := Tryz.underlying108
 a75 := Tryz.isAgg108
 z75 := Tryz.sizeOf108
 v75 := Tryz.zeroValue108
 t164 := Tryz.underlying162
 a164 := Tryz.isAgg162
 z164 := Tryz.sizeOf162
 v164 := Tryz.zeroValue162 }
set_option maxRecDepth 100000 in
theorem hl166:Go.Proofs.Lays.n166 Tryz.prog bdR := {
 mixed := by kernel_rfl
 f166 := Tryz.func68.trans (congrArg some (by kernel_rfl))
 f240 := Tryz.func102.trans (congrArg some (by kernel_rfl))
 f276 := Tryz.func121.trans (congrArg some (by kernel_rfl))
 t0 := Tryz.underlying0
 a0 := Tryz.isAgg0
 z0 := Tryz.sizeOf0
 v0 := Tryz.zeroValue0
 t3 := Tryz.underlying3
 a3 := Tryz.isAgg3
 z3 := Tryz.sizeOf3
 v3 := Tryz.zeroValue3
 t4 := Tryz.underlying4
 a4 := Tryz.isAgg4
 z4 := Tryz.sizeOf4
 v4 := Tryz.zeroValue4
 t9 := Tryz.underlying9
 a9 := Tryz.isAgg9
 z9 := Tryz.sizeOf9
 v9 := Tryz.zeroValue9
 t20 := Tryz.underlying20
 a20 := Tryz.isAgg20
 z20 := Tryz.sizeOf20
 v20 := Tryz.zeroValue20
 t37 := Tryz.underlying103
 a37 := Tryz.isAgg103
 z37 := Tryz.sizeOf103
 v37 := Tryz.zeroValue103
 t70 := Tryz.underlying102
 a70 := Tryz.isAgg102
 z70 := Tryz.sizeOf102
 v70 := Tryz.zeroValue102
 t72 := Tryz.underlying105
 a72 := Tryz.isAgg105
 z72 := Tryz.sizeOf105
 v72 := Tryz.zeroValue105
 t75 := Tryz.underlying108
 a75 := Tryz.isAgg108
 z75 := Tryz.sizeOf108
 v75 := Tryz.zeroValue108
 t164 := Tryz.underlying162
 a164 := Tryz.isAgg162
 z164 := Tryz.sizeOf162
 v164 := Tryz.zeroValue162 }
set_option maxRecDepth 100000 in
theorem bdX:Builder.Extra Tryz.prog bdR := { Tryz.Builder_Extra_169 with }
def IsBd (B b:Nat) (l:List UInt8) (w:World):Prop := Lib.IsBuilderF 105 5 B b (Lib.byteCells l) w
theorem bByte_any (B b:Nat) (l:List UInt8) (c:UInt8) (w:World) (h:IsBd B b l w) (hlen:l.length + 1 ≤ 140737488355328) (hBw:B ≤ w.heap.size) :
 Calls Tryz.prog 67 #[.pointer (some ⟨b,0,none⟩),.int .u8 c.toNat] w fun e w' => e = .returned .nilIface ∧ IsBd B b (l ++ [c]) w' ∧ Below B w w' ∧ Lib.OthersKept 5 (some b) w w' :=
 (Any.Builder_WriteByte_k hl167 bdX B b (Lib.byteCells l) c.toNat w h (by simpa [Lib.byteCells_length] using hlen) hBw).mono fun e w' ⟨he, h1, h2, h3⟩ =>
   ⟨he,.inr (by rw [show Lib.byteCells (l ++ [c]) = Lib.byteCells l ++ [.int .u8 c.toNat] from by simp [Lib.byteCells]]; exact h1),h2,h3⟩
theorem bText_any (B b:Nat) (l:List UInt8) (s:ByteArray) (w:World) (h:IsBd B b l w) (hlen:l.length + s.size ≤ 140737488355328) (hBw:B ≤ w.heap.size) :
 Calls Tryz.prog 68 #[.pointer (some ⟨b,0,none⟩),.string s] w fun e w' => e = .returned (.tuple #[.int .i64 s.size,.nilIface]) ∧ IsBd B b (l ++ s.data.toList) w' ∧ Below B w w' ∧ Lib.OthersKept 5 (some b) w w' :=
 (Any.Builder_WriteString_k hl166 bdX B b (Lib.byteCells l) s w h (by simpa [Lib.byteCells_length] using hlen) hBw).mono fun e w' ⟨he, h1, h2, h3⟩ =>
   ⟨he,.inr (by rw [show Lib.byteCells (l ++ s.data.toList) = Lib.byteCells l ++ Lib.strCells s from by simp [Lib.byteCells,Lib.strCells]]; exact h1),h2,h3⟩
theorem bString_any (B b:Nat) (l:List UInt8) (w:World) (h:IsBd B b l w) (hBw:B ≤ w.heap.size) :
 Calls Tryz.prog 70 #[.pointer (some ⟨b,0,none⟩)] w fun e w' => e = .returned (.string ⟨l.toArray⟩) ∧ IsBd B b l w' ∧ Below B w w' :=
 Tryz.Builder_String_any_f B b l w h hBw
theorem isBd_new (w:World):IsBd w.heap.size w.heap.size [] (w.alloc (.cells #[.pointer none,.slice none 0 0] 105)) := by
 rcases Lib.fresh_isBuilder 105 5 w with ⟨h1,v,h2,h3,h4⟩ | ⟨h1,v,h2,h3,h4⟩
 ·exact .inl ⟨h1,v,h2,World.ownsRowF_of h3,h4⟩
 ·exact .inr ⟨h1,v,h2,World.ownsRowF_of h3,h4⟩
theorem isBd_lt {B b:Nat} {l:List UInt8} {w:World} (h:IsBd B b l w):b < w.heap.size := by
 have key:∀ p,Lib.BuilderAtF 105 5 B b p (Lib.byteCells l) w → b < w.heap.size:=by
  rintro p ⟨h1,v,h2,h3,h4⟩
  exact lt_of_heap h2
 rcases h with h | h
 ·exact key _ h
 ·exact key _ h
theorem isBd_more {B b:Nat} {l:List UInt8} {w w':World} (h:IsBd B b l w) (hb:Below w.heap.size w w'):IsBd B b l w' := by
 have key:∀ p,Lib.BuilderAtF 105 5 B b p (Lib.byteCells l) w → Lib.BuilderAtF 105 5 B b p (Lib.byteCells l) w':=by
  rintro p ⟨h1,v,h2,h3,h4⟩
  refine ⟨h1,v,(hb.block b (lt_of_heap h2)).trans h2,⟨h3.1,?_⟩,h4⟩
  rcases h3.2 with hz | ⟨g,cap,cur,fz,r1,r2,r3,r4⟩
  ·exact .inl hz
  ·exact .inr ⟨g,cap,cur,fz,r1,r2,(hb.block g (lt_of_heap r3)).trans r3,r4⟩
 rcases h with h | h
 ·exact .inl (key _ h)
 ·exact .inr (key _ h)
theorem isBd_block {B b:Nat} {l:List UInt8} {w:World} (h:IsBd B b l w):∃ cs fr,w.heap[b]? = some (.cells cs 105 fr) := by
 rcases h with ⟨h1,v,h2,_⟩ | ⟨h1,v,h2,_⟩
 ·exact ⟨_,_,h2⟩
 ·exact ⟨_,_,h2⟩
theorem RowT.oth {w w':World} {A:Option Addr} {n b:Nat} {xs:List Value} (h:RowT w 3 A n xs) (ho:Lib.OthersKept 5 (some b) w w') (hb:∃ cs fr,w.heap[b]? = some (.cells cs 105 fr)):RowT w' 3 A n xs :=
 ⟨h.1, fun hn => let ⟨g, o, cs, fr, e, hg, hc⟩ := h.2 hn; ⟨g, o, cs, fr, e, ho g _ hg (fun e => by
   injection e with e
   obtain ⟨cs',fr',hb⟩:=hb
   rw [← e,hg] at hb
   injection hb with hb
   injection hb with _ hb
   exact absurd hb (by decide)) (fun c fz e => by
   injection e with _ e
   exact absurd e (by decide)),hc⟩⟩
theorem below_ita (w:World) (k:Nat) (os:Array Obj):Below w.heap.size w («Sort».grow (w.drewN k) os) := by
 refine ⟨rfl,rfl,rfl,?_,fun j hj => ?_⟩
 ·show w.heap.size ≤ (w.heap ++ os).size
  rw [Array.size_append]; omega
 ·show (w.heap ++ os)[j]? = w.heap[j]?
  rw [Array.getElem?_append_left hj]
def GT (W : World) : Prop := Lib.TabIs Tryz.prog W "internal/strconv.uint64pow10" .u64 Lib.pow10Tab
theorem GT.below {W W':World} (h:GT W) (hb:Below W.heap.size W W'):GT W' := Joins.tab_stays (g := 0) (by kernel_rfl) h hb (Nat.le_refl _)
theorem pcode_in {d:Pl.Dg} (hd:Pl.Wf d) {ps:List Pl.Pc} (hp:Pl.Pcs d ps) (hl:(Pl.pcode d.lp ps).length ≤ 8100) {x:Int} (hx:x ∈ Pl.pcode d.lp ps):-1 ≤ x ∧ x ≤ 100000 := by
 have hlp:=hd.lp
 have hle:(ps.flatMap (fun p => (p.order.length:Int) :: p.code)).length + 2 ≤ 8100:=by
  have:=hl
  unfold Pl.pcode at this
  simpa using this
 have hps:∀ (qs:List Pl.Pc),qs.length ≤ (qs.flatMap (fun p => (p.order.length:Int) :: p.code)).length:=by
  intro qs
  induction qs with
  | nil => simp
  | cons q qs ih => rw [List.flatMap_cons,List.length_append,List.length_cons,List.length_cons]; omega
 have h1:=hps ps
 unfold Pl.pcode at hx
 rcases List.mem_cons.1 hx with rfl | hx
 ·omega
 rcases List.mem_cons.1 hx with rfl | hx
 ·omega
 obtain ⟨p,hpm,hx⟩:=List.mem_flatMap.1 hx
 obtain ⟨r,hr,e1,e2,_⟩:=hp.ok p hpm
 have ho:p.order.length ≤ 64:=by
  rw [e2]
  have:=(Pl.ord_ok hd hr).len
  have:=hd.few
  omega
 rcases List.mem_cons.1 hx with rfl | hx
 ·omega
 rw [e1] at hx
 unfold Pl.code at hx
 obtain ⟨c,hc,hx⟩:=List.mem_flatMap.1 hx
 have hcn:=((Pl.ord_ok hd hr).mem c hc).1
 have hs:=hd.sign c hcn
 have hi:∀ b,(Pl.ord d r).idxOf b ≤ 64:=fun b => by
  have:=List.idxOf_le_length (l := Pl.ord d r) (a := b)
  rw [← e2] at this ⊢
  omega
 have h2:=hi (Pl.nb d c 0)
 have h3:=hi (Pl.nb d c 1)
 have h4:=hi (Pl.nb d c 2)
 have h5:=hi (Pl.nb d c 3)
 unfold Pl.chk at hx
 simp only [List.mem_cons,List.not_mem_nil,or_false] at hx
 rcases hx with rfl | rfl | rfl | rfl | rfl <;> omega
theorem keyL_len:∀ (l:List Int),(∀ x,x ∈ l → -1 ≤ x ∧ x ≤ 100000) → (keyL l).length ≤ 22 * l.length := by
 have key:∀ (l:List Int),(∀ x,x ∈ l → -1 ≤ x ∧ x ≤ 100000) → (keyF l).length ≤ 22 * l.length:=by
  intro l
  induction l with
  | nil => intro _; simp [keyF]
  | cons x l ih =>
    intro h
    have h1:=ih (fun y hy => h y (by simp [hy]))
    have h2:=h x (by simp)
    have h3:=Lib.itoa_length_le x (by omega) (by omega)
    have e:keyF (x :: l) = 44 :: (Lib.itoa x ++ keyF l):=by unfold keyF; rw [List.flatMap_cons]; rfl
    rw [e,List.length_cons,List.length_append,List.length_cons]
    omega
 intro l h
 have:=key l h
 unfold keyL
 rw [List.length_drop]
 omega
theorem keyL_step {l:List Int} {k:Nat} {x:Int} (h:l[k]? = some x):keyL (l.take (k + 1)) = if k = 0 then Lib.itoa x else keyL (l.take k) ++ 44 :: Lib.itoa x := by
 have hk:=(List.getElem?_eq_some_iff.1 h).1
 rw [Pl.take_one h]
 split
 ·rename_i h0
  subst h0
  rw [List.take_zero,List.nil_append,keyL_one]
 ·rename_i h0
  refine keyL_snoc (fun e => ?_) x
  have:=congrArg List.length e
  rw [List.length_take,List.length_nil] at this
  omega
def KeyPost (d:Pl.Dg) (w:World) (e:Ending) (w':World):Prop := ∃ s:ByteArray,e = .returned (.string s) ∧ s.data.toList = keyD d ∧ s.size ≤ 180000 ∧ Below w.heap.size w w'
set_option maxRecDepth 100000 in
set_option maxHeartbeats 4000000 in
theorem key_any (d:Pl.Dg) (hd:Pl.Valid d) (h20:d.n ≤ 20) (A B:Option Addr) (cp cq m:Nat) (w:World) (hm:m = 4 * d.n) (hg:DgAt w A B d) (ht:GT w) :
 Calls Tryz.prog 36 #[.agg #[.slice A d.n cp,.slice B m cq,.int .i64 d.lp]] w (KeyPost d w) := by
 have HM:=hide hm
 have HG:=hide hg
 have HT:=hide ht
 have HD:=hide hd
 clear hm hg ht
 have X0:=hide (row_at (W := w) (g := w.heap.size) (t := 24) (vs := [.slice A d.n cp,.slice B m cq,.int .i64 d.lp]) rfl)
 have B0:=hide (show Below w.heap.size w (w.alloc (.cells #[.slice A d.n cp,.slice B m cq,.int .i64 d.lp] 24)) from (Below.refl _ _).alloc (Nat.le_refl _) _)
 obtain ⟨W1,hW1⟩:∃ W,W = w.alloc (.cells #[.slice A d.n cp,.slice B m cq,.int .i64 d.lp] 24) := ⟨_,rfl⟩
 rw [← hW1] at X0 B0
 have hs1:W1.heap.size = w.heap.size + 1:=by rw [hW1]; simp
 have I0:=hide (isBd_new W1)
 rw [hs1] at I0
 have X1:=hide (X0.out.alloc (.cells #[.pointer none,.slice none 0 0] 105))
 have B1:=hide (B0.out.alloc (o := .cells #[.pointer none,.slice none 0 0] 105) B0.out.size)
 have HS1:=hide hs1
 clear X0 B0 hs1
 rw [hW1] at X1 B1 I0
 clear hW1 HS1 W1
 obtain ⟨d0,d1,d2,d3⟩:=box3 X1.out
 go_enter Tryz.func36,Tryz.ntmps36
 go_wp2_with fail
 refine (code_t d HD.out h20 A B cp cq m _ HM.out (HG.out.keep B1.out)).mono ?_
 rintro e w2 ⟨A2,n,c2,ps,rfl,hps,hsr,hn,hints,hb2⟩
 have HCD:=hide (codeD_is HD.out.wf hps hsr)
 have HPI:=hide (fun (x:Int) (hx:x ∈ Pl.pcode d.lp ps) => pcode_in HD.out.wf hps (by have := hints.1; rw [List.length_map] at this; omega) hx)
 have HI:=hide hints
 have HN:=hide (show (Pl.pcode d.lp ps).length = n from by have := hints.1; rw [List.length_map] at this; exact this)
 obtain ⟨cl,hcl⟩:∃ l,l = Pl.pcode d.lp ps := ⟨_,rfl⟩
 have hs2:w.heap.size + 1 ≤ w2.heap.size:=by have := hb2.size; simp at this; omega
 have I2:=hide (isBd_more I0.out hb2)
 have B2:=hide (B1.out.trans (hb2.mono B1.out.size))
 rw [← hcl] at HCD HPI HI HN
 clear hps hsr hints hb2 hcl X1 B1 I0 d0 d1 d2 d3
 go_wp2_with fail
 go_loopg [4,5,9,16,18,19] n (fun g s4 s5 i s16 s18 s19 wx => ∃ k:Nat,k + g = n ∧ i = .int .i64 (k:Int) ∧ IsBd (w.heap.size + 1) (w.heap.size + 1) (keyL (cl.take k)) wx ∧ Below w.heap.size w wx ∧ RowT wx 3 A2 n (cl.map (.int .i64)))
 case atStart => exact ⟨0,by omega,rfl,by rw [List.take_zero]; exact I2.out,B2.out,HI.out⟩
 case round =>
  clear I2 B2 HI
  obtain ⟨k,hkg,rfl,hi,hb,hr⟩:=hrel
  have HKG:=hide hkg
  have I0:=hide hi
  have B0:=hide hb
  have R0:=hide hr
  have hkn:k ≤ n:=by omega
  have hsz:w.heap.size + 1 ≤ wr.heap.size:=Nat.le_of_lt (isBd_lt hi)
  have hkl:(keyL (cl.take k)).length ≤ 22 * k:=by
   have h:=keyL_len (cl.take k) (fun x hx => HPI.out x (List.mem_of_mem_take hx))
   rw [List.length_take] at h
   have:22 * min k cl.length ≤ 22 * k:=Nat.mul_le_mul_left _ (Nat.min_le_left _ _)
   omega
  clear hkg hi hb hr
  by_cases hk:k < n
  ·have hki:(k:Int) < (n:Int):=by omega
   have k0:(0:Int) ≤ (k:Int):=by omega
   obtain ⟨x,hx⟩:∃ x,cl[k]? = some x := ⟨_,List.getElem?_eq_getElem (by rw [HN.out]; exact hk)⟩
   obtain ⟨b,o,rfl,x1⟩:=(R0.out.row).at_ hk
   rw [show (cl.map (Value.int .i64))[k]'(by rw [R0.out.1]; exact hk) = .int .i64 x from by rw [List.getElem_map]; congr 1; exact (List.getElem?_eq_some_iff.1 hx).2] at x1
   have HXB:=hide (HPI.out x (List.mem_of_getElem? hx))
   have hxb:=HXB.out
   have HST:=hide (keyL_step hx)
   clear hx
   by_cases h0:k = 0
   ·have hk0:¬ ((0:Int) < (k:Int)):=by omega
    have HST2:=hide (show keyL (cl.take (k + 1)) = keyL (cl.take k) ++ Lib.itoa x by rw [HST.out,if_pos h0,h0]; rfl)
    clear h0
    clear HST
    go_wp2_with fail
    refine (Tryz.strconv_Itoa x (by omega) (by omega) _ (HT.out.below B0.out)).mono ?_
    rintro e w3 ⟨rfl,k3,os3,hw3⟩
    have hb3:Below wr.heap.size wr w3:=by rw [hw3]; exact below_ita wr k3 os3
    have B3:=hide (B0.out.trans (hb3.mono B0.out.size))
    have I3:=hide (isBd_more I0.out hb3)
    have R3:=hide (R0.out.keep hb3)
    have hs3:w.heap.size + 1 ≤ w3.heap.size:=by have := hb3.size; omega
    clear hw3 hb3 B0 I0 R0 x1
    obtain ⟨sx,hsx⟩:∃ x1:ByteArray,x1 = ⟨(Lib.itoa x).toArray⟩:=⟨_,rfl⟩
    have HSX:=hide (show sx.data.toList = Lib.itoa x by rw [hsx])
    have hsz2:sx.size ≤ 21:=by rw [Lib.size_eq,HSX.out]; exact Lib.itoa_length_le x (by omega) (by omega)
    rw [← hsx]
    clear hsx
    go_wp2_with fail
    refine (bText_any (w.heap.size + 1) (w.heap.size + 1) _ sx _ I3.out (by omega) hs3).mono ?_
    rintro e w4 ⟨rfl,hi4,hb4,ho4⟩
    have I4:=hide hi4
    have B4:=hide (B3.out.trans (hb4.mono (by omega)))
    have R4:=hide (R3.out.oth ho4 (isBd_block I3.out))
    clear hi4 hb4 ho4
    go_wp2_with fail
    go_roundg (gk - 1)
    case measure => have := HKG.out; omega
    case rel => exact ⟨k + 1,by have := HKG.out; omega,by go_num,by rw [HST2.out,← HSX.out]; exact I4.out,B4.out,R4.out⟩
   ·have hk0:(0:Int) < (k:Int):=by omega
    have HST2:=hide (show keyL (cl.take (k + 1)) = (keyL (cl.take k) ++ [44]) ++ Lib.itoa x by rw [HST.out,if_neg h0,List.append_assoc]; rfl)
    clear HST
    go_wp2_with fail
    refine (bByte_any (w.heap.size + 1) (w.heap.size + 1) _ 44 _ I0.out (by omega) hsz).mono ?_
    rintro e w2' ⟨rfl,hi2,hb2,ho2⟩
    have I2:=hide hi2
    have B2:=hide (B0.out.trans (hb2.mono (by omega)))
    have R2:=hide (R0.out.oth ho2 (isBd_block I0.out))
    clear hi2 hb2 ho2 B0 I0 R0 x1
    go_wp2_with fail
    refine (Tryz.strconv_Itoa x (by omega) (by omega) _ (HT.out.below B2.out)).mono ?_
    rintro e w3 ⟨rfl,k3,os3,hw3⟩
    have hb3:Below w2'.heap.size w2' w3:=by rw [hw3]; exact below_ita w2' k3 os3
    have B3:=hide (B2.out.trans (hb3.mono B2.out.size))
    have I3:=hide (isBd_more I2.out hb3)
    have R3:=hide (R2.out.keep hb3)
    have hs3:w.heap.size + 1 ≤ w3.heap.size:=Nat.le_of_lt (isBd_lt I3.out)
    clear hw3 hb3 B2 I2 R2
    obtain ⟨sx,hsx⟩:∃ x1:ByteArray,x1 = ⟨(Lib.itoa x).toArray⟩:=⟨_,rfl⟩
    have HSX:=hide (show sx.data.toList = Lib.itoa x by rw [hsx])
    have hsz2:sx.size ≤ 21:=by rw [Lib.size_eq,HSX.out]; exact Lib.itoa_length_le x (by omega) (by omega)
    have hkl2:(keyL (cl.take k) ++ [44]).length ≤ 22 * k + 1:=by rw [List.length_append,List.length_singleton]; omega
    rw [← hsx]
    clear hsx
    go_wp2_with fail
    refine (bText_any (w.heap.size + 1) (w.heap.size + 1) _ sx _ I3.out (by omega) hs3).mono ?_
    rintro e w4 ⟨rfl,hi4,hb4,ho4⟩
    have I4:=hide hi4
    have B4:=hide (B3.out.trans (hb4.mono (by omega)))
    have R4:=hide (R3.out.oth ho4 (isBd_block I3.out))
    clear hi4 hb4 ho4
    go_wp2_with fail
    go_roundg (gk - 1)
    case measure => have := HKG.out; omega
    case rel => exact ⟨k + 1,by have := HKG.out; omega,by go_num,by rw [HST2.out,← HSX.out]; exact I4.out,B4.out,R4.out⟩
  ·have hki:¬ ((k:Int) < (n:Int)):=by omega
   have hkk:k = n:=by omega
   rw [hkk,List.take_of_length_le (by have := HN.out; omega)] at I0
   have hlen:(keyL cl).length ≤ 22 * n:=by
    have h:=keyL_len cl HPI.out
    have:=HN.out
    rw [← this]
    exact h
   go_wp2_with fail
   refine (bString_any (w.heap.size + 1) (w.heap.size + 1) _ _ I0.out hsz).mono ?_
   rintro e w4 ⟨rfl,hi4,hb4⟩
   have B4:=hide (B0.out.trans (hb4.mono (by omega)))
   go_wp2
   go_ret
   refine ⟨_,rfl,?_,?_,B4.out⟩
   ·show (keyL cl).toArray.toList = keyD d
    rw [List.toList_toArray,HCD.out]
    rfl
   ·rw [Lib.size_eq]
    show (keyL cl).toArray.toList.length ≤ 180000
    rw [List.toList_toArray]
    omega
end Go.Proofs.YtghdiolnonejaaaGreatDoor
end
section
namespace Go.Proofs.YtghdiolnonejaaaGreatDoor
open Go Go.RowKit
attribute [local go_sem ↓] Go.wp_at_zero Go.wp_at_succ
def put5 (xs:List Value) (j:Nat) (z:Mv):List Value := ((((xs.set (j * 5) (.int .i64 z.kind)).set (j * 5 + 1) (.int .i64 z.x)).set (j * 5 + 2) (.int .i64 z.y)).set (j * 5 + 3) (.int .i64 z.sign)).set (j * 5 + 4) (.bool z.over)
theorem mvs_put (z:Mv):∀ (ms:List Mv) (j:Nat),j < ms.length → mvs (ms.set j z) = put5 (mvs ms) j z
 | [],j,h => absurd h (by simp)
 | m :: ms,0,_ => rfl
 | m :: ms, j + 1, h => by
   have ih:=mvs_put z ms j (by simpa using h)
   show m.cells ++ mvs (ms.set j z) = _
   rw [ih]
   unfold put5
   rw [show (j + 1) * 5 = j * 5 + 5 by omega,show j * 5 + 5 + 1 = (j * 5 + 1) + 5 by omega,show j * 5 + 5 + 2 = (j * 5 + 2) + 5 by omega,show j * 5 + 5 + 3 = (j * 5 + 3) + 5 by omega,show j * 5 + 5 + 4 = (j * 5 + 4) + 5 by omega]
   rfl
structure RV (base g n c:Nat) (L:List Mv) (i j:Nat) (ms:List Mv) (w W:World):Prop where
 own:W.ownsRow base 43 5 (.slice (some ⟨g,0,none⟩) n c) n (mvs ms)
 len:ms.length = n
 is:∀ p,p < n → ms[p]? = if p < i ∨ j < p then L[n - 1 - p]? else L[p]?
 bel:Below base w W
theorem RV.swap {base g n c:Nat} {L:List Mv} {i j:Nat} {ms:List Mv} {w W:World} (h:RV base g n c L i j ms w W) (hL:L.length = n) (hij:i < j) (hs:i + j + 1 = n) {x y:Mv} (hx:ms[i]? = some x) (hy:ms[j]? = some y) :
 RV base g n c L (i + 1) (j - 1) ((ms.set i y).set j x) w ((((((((((W.setCell ⟨g,i * 5,none⟩ (.int .i64 y.kind)).setCell ⟨g,i * 5 + 1,none⟩ (.int .i64 y.x)).setCell ⟨g,i * 5 + 2,none⟩ (.int .i64 y.y)).setCell ⟨g,i * 5 + 3,none⟩ (.int .i64 y.sign)).setCell ⟨g,i * 5 + 4,none⟩ (.bool y.over)).setCell ⟨g,j * 5,none⟩ (.int .i64 x.kind)).setCell ⟨g,j * 5 + 1,none⟩ (.int .i64 x.x)).setCell ⟨g,j * 5 + 2,none⟩ (.int .i64 x.y)).setCell ⟨g,j * 5 + 3,none⟩ (.int .i64 x.sign)).setCell ⟨g,j * 5 + 4,none⟩ (.bool x.over)) := by
 have hb:=(own_rowE h.own).1
 have K:∀ {V:World},Below base w V → ∀ o v,Below base w (V.setCell ⟨g,o,none⟩ v):=fun hV o v => hV.setCell (by show _ ≤ g; exact hb) v
 refine ⟨?_,by rw [List.length_set,List.length_set]; exact h.len,fun p hp => ?_,K (K (K (K (K (K (K (K (K (K h.bel _ _) _ _) _ _) _ _) _ _) _ _) _ _) _ _) _ _) _ _⟩
 ·rw [mvs_put x _ j (by rw [List.length_set,h.len]; omega),mvs_put y _ i (by rw [h.len]; omega)]
  exact own_setIn (own_setIn (own_setIn (own_setIn (own_setIn (own_setIn (own_setIn (own_setIn (own_setIn (own_setIn h.own _) _) _) _) _) _) _) _) _) _
 ·have h1:=h.is i (by omega)
  have h2:=h.is j (by omega)
  rw [if_neg (by omega),hx] at h1
  rw [if_neg (by omega),hy] at h2
  rw [List.getElem?_set]
  split
  ·rename_i e
   subst e
   rw [if_pos (by rw [List.length_set,h.len]; omega),if_pos (by omega),show n - 1 - j = i by omega]
   exact h1
  ·rename_i e
   rw [List.getElem?_set]
   split
   ·rename_i e2
    subst e2
    rw [if_pos (by rw [h.len]; omega),if_pos (by omega),show n - 1 - i = j by omega]
    exact h2
   ·rename_i e2
    rw [h.is p hp]
    by_cases hc:p < i ∨ j < p
    ·rw [if_pos hc,if_pos (by omega)]
    ·rw [if_neg hc,if_neg (by omega)]
theorem RV.done {base g n c:Nat} {L:List Mv} {i j:Nat} {ms:List Mv} {w W:World} (h:RV base g n c L i j ms w W) (hL:L.length = n) (hij:¬ i < j) (hs:i + j + 1 = n):ms = L.reverse := by
 refine List.ext_getElem? fun p => ?_
 by_cases hp:p < n
 ·rw [h.is p hp,List.getElem?_reverse (by omega),hL]
  by_cases hc:p < i ∨ j < p
  ·rw [if_pos hc]
  ·rw [if_neg hc,show n - 1 - p = p by omega]
 ·rw [List.getElem?_eq_none (by rw [h.len]; omega),List.getElem?_eq_none (by rw [List.length_reverse]; omega)]
theorem RV.down {base g n c:Nat} {L:List Mv} {i j:Nat} {ms:List Mv} {w W W':World} (h:RV base g n c L i j ms w W) (hbs:base ≤ W.heap.size) (hb:Below W.heap.size W W'):RV base g n c L i j ms w W' := ⟨own_below h.own hb,h.len,h.is,h.bel.trans (hb.mono hbs)⟩
set_option maxRecDepth 100000 in
set_option maxHeartbeats 4000000 in
theorem rev_any (base g n c:Nat) (L:List Mv) (w:World) (h:w.ownsRow base 43 5 (.slice (some ⟨g,0,none⟩) n c) n (mvs L)) (hn:L.length = n) (h0:0 < n) (hb:n ≤ 1000) :
 Calls Tryz.prog 44 #[.slice (some ⟨g,0,none⟩) n c] w fun e w' => (∃ v,e = .returned v) ∧ w'.ownsRow base 43 5 (.slice (some ⟨g,0,none⟩) n c) n (mvs L.reverse) ∧ Below base w w' := by
 have HL:=hide hn
 have R0:=hide (show RV base g n c L 0 (n - 1) L w w from ⟨h,hn,fun p hp => by rw [if_neg (by omega)],Below.refl _ _⟩)
 clear h hn
 have hn1:(1:Int) ≤ (n:Int):=by omega
 go_enter Tryz.func44,Tryz.ntmps44
 go_wp2_with fail
 go_loopg [2,3] n (fun gm s2 s3 wx => ∃ (i j:Nat) (ms:List Mv),j + 1 ≤ gm ∧ i + j + 1 = n ∧ s2 = .int .i64 (i:Int) ∧ s3 = .int .i64 (j:Int) ∧ RV base g n c L i j ms w wx)
 case atStart => exact ⟨0,n - 1,L,by omega,by omega,rfl,by go_num,R0.out⟩
 case round =>
  clear R0
  obtain ⟨i,j,ms,hjg,hs,rfl,rfl,hr⟩:=hrel
  have HJG:=hide hjg
  have HS:=hide hs
  have R0:=hide hr
  have hjn:j < n:=by omega
  have hin:i < n:=by omega
  clear hjg hs hr
  by_cases hij:i < j
  ·have hiji:(i:Int) < (j:Int):=by omega
   have i0:(0:Int) ≤ (i:Int):=by omega
   have j0:(0:Int) ≤ (j:Int):=by omega
   have ini:(i:Int) < (n:Int):=by omega
   have jni:(j:Int) < (n:Int):=by omega
   obtain ⟨x,hx⟩:∃ x,ms[i]? = some x := ⟨_,List.getElem?_eq_getElem (by rw [R0.out.len]; omega)⟩
   obtain ⟨y,hy⟩:∃ y,ms[j]? = some y := ⟨_,List.getElem?_eq_getElem (by rw [R0.out.len]; omega)⟩
   have CA:=fun (t:Nat) (u:Value) (ht:t < 5) (e:x.cells[t]? = some u) => (show wr.cell? ⟨g,i * 5 + t,none⟩ = some u by rw [World.ownsRow.cellAt R0.out.own _ (by omega),mvs_get ms i x hx t u e])
   have CB:=fun (t:Nat) (u:Value) (ht:t < 5) (e:y.cells[t]? = some u) => (show wr.cell? ⟨g,j * 5 + t,none⟩ = some u by rw [World.ownsRow.cellAt R0.out.own _ (by omega),mvs_get ms j y hy t u e])
   have SW:=hide (R0.out.swap HL.out hij HS.out hx hy)
   obtain ⟨xk,xx,xy,xs,xo⟩:=x
   obtain ⟨yk,yx,yy,ys,yo⟩:=y
   have x0:=CA 0 _ (by omega) rfl
   have x1:=CA 1 _ (by omega) rfl
   have x2:=CA 2 _ (by omega) rfl
   have x3:=CA 3 _ (by omega) rfl
   have x4:=CA 4 _ (by omega) rfl
   have y0:=CB 0 _ (by omega) rfl
   have y1:=CB 1 _ (by omega) rfl
   have y2:=CB 2 _ (by omega) rfl
   have y3:=CB 3 _ (by omega) rfl
   have y4:=CB 4 _ (by omega) rfl
   rw [Nat.add_zero] at x0 y0
   have fz:∀ o,wr.frozen? ⟨g,o,none⟩ = false:=own_free R0.out.own
   clear CA CB hx hy
   go_upto_region 3 with fail
   go_region
   all_goals (go_wp2_with fail)
   all_goals (
    go_roundg (gk - 1)
    case measure => have := HJG.out; omega
    case rel =>
     have e:((j - 1:Nat):Int) = (j:Int) - 1:=by omega
     have hbs:base ≤ wr.heap.size:=by
      obtain ⟨h1,us,hr⟩:=own_rowE R0.out.own
      have:=hr.lt
      omega
     exact ⟨i + 1,j - 1,_,by have := HJG.out; omega,by have := HS.out; omega,by go_num,by rw [e],SW.out.down (by simpa using hbs) (Below.refl _ _).drew⟩)
  ·have hiji:¬ ((i:Int) < (j:Int)):=by omega
   have HR:=hide (R0.out.done HL.out hij HS.out)
   go_wp2
   refine bodyPost_end (results_none rfl _ _ _) rfl ⟨⟨_,rfl⟩,by rw [← HR.out]; exact R0.out.own,R0.out.bel⟩
end Go.Proofs.YtghdiolnonejaaaGreatDoor
end
section
namespace Go.Proofs.YtghdiolnonejaaaGreatDoor
open Go Go.RowKit
theorem gt_of {W : World} {t1 t2 : String × DataW Unit} (hL : laidMet Tryz.prog [t1, t2, ("internal/strconv.uint64pow10", Rows.laid_internal_strconv_uint64pow10)] W) : GT W :=
 Lib.tabIs_of_head (g := 0) (t := 175) (e := 167) (n := 20) (by kernel_rfl) (by kernel_rfl) (by kernel_rfl) (by kernel_rfl) (by kernel_rfl) (by kernel_rfl) (rest := _) hL.tail.tail
end Go.Proofs.YtghdiolnonejaaaGreatDoor
end
section
namespace Go.Proofs.YtghdiolnonejaaaGreatDoor
open Go Go.RowKit
attribute [local go_sem ↓] Go.wp_at_zero Go.wp_at_succ
set_option maxRecDepth 100000 in
set_option maxHeartbeats 4000000 in
theorem leading_any (d:Pl.Dg) (hd:Pl.Wf d) (A B:Option Addr) (cp cq m n:Nat) (lp:Int) (x y:Nat) (w:World) (hm:m = 4 * d.n) (hg:DgAt w A B d) (hx:x < d.n) :
 Calls Tryz.prog 27 #[.agg #[.slice A n cp,.slice B m cq,.int .i64 lp],.int .i64 (x:Int),.int .i64 (y:Int)] w fun e w' => (e = .returned (.int .i64 (x:Int)) ∨ e = .returned (.int .i64 (y:Int))) ∧ Below w.heap.size w w' := by
 have HG:=hide hg
 have HM:=hide hm
 have HD:=hide hd
 have hn:=hd.few
 have X0:=hide (row_at (W := w) (g := w.heap.size) (t := 24) (vs := [.slice A n cp,.slice B m cq,.int .i64 lp]) rfl)
 have B0:=hide (show Below w.heap.size w (w.alloc (.cells #[.slice A n cp,.slice B m cq,.int .i64 lp] 24)) from (Below.refl _ _).alloc (Nat.le_refl _) _)
 obtain ⟨V,hV⟩:∃ V,V = w.alloc (.cells #[.slice A n cp,.slice B m cq,.int .i64 lp] 24) := ⟨_,rfl⟩
 have HV:=hide hV
 rw [← hV] at X0 B0
 obtain ⟨d0,d1,d2,d3⟩:=box3 X0.out
 have HGV:=hide (HG.out.keep B0.out)
 clear hg hm hd hV
 go_enter Tryz.func27,Tryz.ntmps27
 go_wp2_with fail
 rw [← HV.out]
 go_loopg [7,8,9] (4 * x + 4) (fun g s7 s8 s9 wx => ∃ h:Nat,h + g = 4 * x + 4 + 4 * x ∧ 4 * x ≤ h ∧ s7 = .int .i64 (h:Int) ∧ wx = V)
 case atStart => exact ⟨4 * x,by omega,by omega,by go_num,rfl⟩
 case round =>
  obtain ⟨h,hhg,hxh,rfl,rfl⟩:=hrel
  have HHG:=hide hhg
  have h0:(0:Int) ≤ (h:Int):=by omega
  by_cases hh:h < 4 * x + 4
  ·have hhi:(h:Int) < 4 * (x:Int) + 4:=by omega
   have hhn:h < 4 * d.n:=by omega
   have hhm:(h:Int) < (m:Int):=by have := HM.out; omega
   obtain ⟨b,o,rfl,c0⟩:=HGV.out.mate hhn
   have hmn:=HD.out.lt h hhn
   obtain ⟨mh,hmh⟩:∃ z,z = d.m h := ⟨_,rfl⟩
   rw [← hmh] at c0 hmn
   have hg3:Pl.tn mh 3 < 4 * d.n:=by unfold Pl.tn; omega
   obtain ⟨b',o',e',c1⟩:=HGV.out.mate hg3
   injection e' with e'
   injection e' with e1 e2
   subst e1 e2
   obtain ⟨g3,hg3'⟩:∃ z,z = Pl.tn mh 3 := ⟨_,rfl⟩
   rw [← hg3'] at c1 hg3
   have hg3m:(g3:Int) < (m:Int):=by have := HM.out; omega
   have hg30:(0:Int) ≤ (g3:Int):=by omega
   have HT:=hide hg3'
   clear hhg hmh hg3'
   go_upto_region 6 with (go_at_call 41; refine (turn_back mh _ (by omega)).mono ?_; rintro e w2 ⟨rfl,rfl⟩; rw [← HT.out])
   have BF:=hide (show Below w.heap.size w wr by rw [HV.out]; exact (Below.refl _ _).alloc (Nat.le_refl _) _)
   have NXT:h + 1 ≤ 4 * x + 4:=by omega
   by_cases q1:((g3:Int) / 4) = (y:Int)
   ·go_wp2_with (go_at_call 41; refine (turn_back _ _ (by have := HD.out.lt g3 hg3; omega)).mono ?_; rintro e w2 ⟨rfl,rfl⟩)
    all_goals first
     | (go_ret; exact ⟨.inl rfl,BF.out⟩)
     | (go_roundg (gk - 1)
        case measure => have := HHG.out; omega
        case rel => exact ⟨h + 1,by have := HHG.out; omega,by omega,by go_num,rfl⟩)
   ·go_wp2_with fail
    all_goals first
     | (go_ret; exact ⟨.inl rfl,BF.out⟩)
     | (go_roundg (gk - 1)
        case measure => have := HHG.out; omega
        case rel => exact ⟨h + 1,by have := HHG.out; omega,by omega,by go_num,rfl⟩)
  ·have hhi:¬ ((h:Int) < 4 * (x:Int) + 4):=by omega
   go_wp2_with fail
   go_ret
   exact ⟨.inr rfl,by rw [HV.out]; exact (Below.refl _ _).alloc (Nat.le_refl _) _⟩
set_option maxRecDepth 100000 in
set_option maxHeartbeats 4000000 in
theorem drop_any {base g n c:Nat} {xs:List Int} (W:World) (h:W.ownsRow base 3 1 (.slice (some ⟨g,0,none⟩) (n + 1) c) (n + 1) (xs.map (.int .i64))) (hn:n ≤ 100000) :
 Calls Tryz.prog 53 #[.slice (some ⟨g,0,none⟩) (n + 1) c] W fun e w' => e = .returned (.slice (some ⟨g,0,none⟩) n c) ∧ (∃ ys:List Int,w'.ownsRow base 3 1 (.slice (some ⟨g,0,none⟩) n c) n (ys.map (.int .i64))) ∧ W.grownBy w' (some g) := by
 have H:=hide h
 obtain ⟨hc1,hc2⟩:=own_capI h (Nat.succ_pos n)
 have hcut:=cut_own g n c (by omega) hc2
 have c0:=World.ownsRow.cellAt h n (by omega)
 have hxl:xs.length = n + 1:=by have := h.1; simpa using this
 rw [List.getElem?_map,List.getElem?_eq_getElem (by omega)] at c0
 simp only [Option.map_some] at c0
 obtain ⟨gone,hgone⟩:∃ z,z = xs[n]'(by omega) := ⟨_,rfl⟩
 rw [← hgone] at c0
 have HS:=hide (show W.ownsRow base 3 1 (.slice (some ⟨g,0,none⟩) n c) n ((xs.dropLast).map (.int .i64)) by rw [List.map_dropLast]; exact own_shrink h)
 have i1:(0:Int) ≤ (n:Int):=by omega
 have i2:(n:Int) < (n:Int) + 1:=by omega
 have i3:(n:Int) + 1 - 1 = (n:Int):=by omega
 clear h hgone hc1 hc2
 go_enter Tryz.func53,Tryz.ntmps53
 go_wp2_with fail
 go_loopg [5,6,19] n (fun m s5 s6 i wx => ∃ k:Nat,k + m = n ∧ i = .int .i64 (k:Int) ∧ (∃ ys:List Int,wx.ownsRow base 3 1 (.slice (some ⟨g,0,none⟩) n c) n (ys.map (.int .i64))) ∧ W.grownBy wx (some g))
 case atStart => exact ⟨0,by omega,rfl,⟨_,HS.out⟩,⟨rfl,rfl,rfl,Nat.le_refl _,fun _ _ _ => rfl⟩⟩
 case round =>
  obtain ⟨k,hkg,rfl,⟨ys,hy⟩,hg⟩:=hrel
  have HKG:=hide hkg
  have HY:=hide hy
  have HGR:=hide hg
  by_cases hk:k < n
  ·have hki:(k:Int) < (n:Int):=by omega
   have k0:(0:Int) ≤ (k:Int):=by omega
   have hyl:ys.length = n:=by have := hy.1; simpa using this
   have c1:=World.ownsRow.cellAt hy k (by omega)
   rw [List.getElem?_map,List.getElem?_eq_getElem (by omega)] at c1
   simp only [Option.map_some] at c1
   obtain ⟨y,hyy⟩:∃ z,z = ys[k]'(by omega) := ⟨_,rfl⟩
   rw [← hyy] at c1
   have f1:=World.ownsRow.frozenAt hy k
   clear hkg hy hg hyl hyy c0
   by_cases hgt:gone < y
   ·go_wp2_with fail
    go_roundg (gk - 1)
    case measure => have := HKG.out; omega
    case rel => exact ⟨k + 1,by have := HKG.out; omega,by go_num,⟨ys.set k _,by rw [List.map_set]; exact (World.ownsRow.stored HY.out k _).1⟩,grownBy_trans HGR.out (World.ownsRow.stored HY.out k _).2⟩
   ·go_wp2_with fail
    go_roundg (gk - 1)
    case measure => have := HKG.out; omega
    case rel => exact ⟨k + 1,by have := HKG.out; omega,by go_num,⟨ys,HY.out⟩,HGR.out⟩
  ·have hki:¬ ((k:Int) < (n:Int)):=by omega
   go_wp2_with fail
   go_ret
   exact ⟨rfl,⟨ys,HY.out⟩,HGR.out⟩
end Go.Proofs.YtghdiolnonejaaaGreatDoor
end
section
namespace Go.Proofs.YtghdiolnonejaaaGreatDoor
open Go Go.RowKit
attribute [local go_sem ↓] Go.wp_at_zero Go.wp_at_succ
noncomputable def apN:Pl.Dg → List Mv → Nat → Pl.Dg
 | d,_,0 => d
 | d,[],_ + 1 => d
 | d,z :: ms,k + 1 => apN (apD d z) ms k
theorem apN_succ:∀ (ms:List Mv) (d:Pl.Dg) (k:Nat) (z:Mv),ms[k]? = some z → apN d ms (k + 1) = apD (apN d ms k) z
 | [],d,k,z,h => by simp at h
 | y :: ms, d, 0, z, h => by
   obtain rfl:y = z := by simpa using h
   cases ms <;> simp [apN]
 | y :: ms, d, k + 1, z, h => by
   have:=apN_succ ms (apD d y) k z (by simpa using h)
   simpa [apN] using this
structure LI (u:World) (ga:Nat) (r:Pl.Dg) (A9 B9:Option Addr) (n c8 m c9 lp:Nat) (W:World):Prop where
 hn:n = r.n
 hm:m = 4 * r.n
 hl:lp = r.lp
 at_:Row W ga 24 [.slice A9 n c8,.slice B9 m c9,.int .i64 (lp:Int)]
 t:DgT W A9 B9 r ∨ DgAt u A9 B9 r
 bel:Below u.heap.size u W
section
variable {u W W':World} {ga:Nat} {r:Pl.Dg} {A9 B9:Option Addr} {n c8 m c9 lp:Nat}
end
end Go.Proofs.YtghdiolnonejaaaGreatDoor
end
