/-
 The texts Hb.
-/
import Derived.Test.YtghdiolnonejaaaGreatDoorS00
import Derived.Test.YtghdiolnonejaaaGreatDoorS02
import Derived.Test.YtghdiolnonejaaaGreatDoorS03
import Derived.Test.YtghdiolnonejaaaGreatDoorU01
import Derived.Test.YtghdiolnonejaaaGreatDoorU05
import Derived.Test.YtghdiolnonejaaaGreatDoorU14
import Derived.Test.YtghdiolnonejaaaGreatDoorU28
import Derived.BigQuiet
import Derived.Deep.AppendLies
import Derived.Deep.CutBlock
import Derived.Deep.CutRange
import Derived.Deep.DeepCutAuto
import Derived.Deep.DrawnRows
import Derived.Deep.Light
import Derived.Deep.LoopGhost
import Derived.Deep.QuietTactic
import Derived.Deep.RegionHeld3
import Derived.Deep.RegionLaw
import Derived.Deep.RegionWith
import Derived.Laws.AppendOwn
import Derived.Laws.MakeOwn
import Derived.Laws.OwnMore
import Derived.Laws.Rows
import Derived.Laws.Slices
import Derived.Lib.ItoaLen
import Derived.Lib.ItoaNum
import Derived.Lib.SmallJoins
import Derived.Maps.AppendAt
import Derived.Outline
import Derived.RegionTactic
import Derived.Shelf.Spec.SlicesGrow
import Derived.StillTailTactics
import Derived.Test.YtghdiolnonejaaaGreatDoorRows
import Derived.Test.YtghdiolnonejaaaGreatDoorShelf
import Derived.WalkKit
import Derived.WalkLawsBesides
import Derived.WalkSpells
set_option linter.unusedVariables false
set_option linter.unusedSimpArgs false
section
namespace Go.Proofs.YtghdiolnonejaaaGreatDoor
open Go Go.RowKit Go.Shelf
attribute [local go_sem ↓] Go.wp_at_zero Go.wp_at_succ
def bdR:Go.Shelf.Ren := ⟨fun | 166 => 68 | 167 => 67 | 169 => 70 | 240 => 102 | 276 => 121 | n => n,fun | 0 => 0 | 3 => 3 | 4 => 4 | 5 => 5 | 9 => 9 | 20 => 20 | 37 => 103 | 70 => 102 | 72 => 105 | 75 => 108 | 76 => 110 | 164 => 162 | 127 => 151 | 80 => 113 | n => n,fun | n => n⟩
set_option maxRecDepth 100000 in
theorem hl167:Go.Proofs.Lays.n167 Tryz.prog bdR := {
 mixed := by kernel_rfl
 f167 := Tryz.func67.trans (congrArg some (by kernel_rfl))
 f240 := Tryz.func102.trans (congrArg some (by kernel_rfl))
 f276 := Tryz.func121.trans (congrArg some (by kernel_rfl))
 t0 := Tryz.underlying0
 a0 := Tryz.isAgg0
 z0 := Tryz.sizeOf0
 v0 := Tryz.zeroValue0
 t4 := Tryz.underlying4
 a4 := Tryz.isAgg4
 z4 := Tryz.sizeOf4
 v4 := Tryz.zeroValue4
 t5 := Tryz.underlying5
 a5 := Tryz.isAgg5
 z5 := Tryz.sizeOf5
 v5 := Tryz.zeroValue5
 t9 := Tryz.underlying9
 a9 := Tryz.isAgg9
 z9 := Tryz.sizeOf9
 v9 := Tryz.zeroValue9
 t20 := Tryz.underlying20
 a20 := Tryz.isAgg20
 z20 := Tryz.sizeOf20
 v20 := Tryz.zeroValue20
 t37 := Tryz.underlying103
 a37 := Tryz.isAgg103
 z37 := Tryz.sizeOf103
 v37 := Tryz.zeroValue103
 t70 := Tryz.underlying102
 a70 := Tryz.isAgg102
 z70 := Tryz.sizeOf102
 v70 := Tryz.zeroValue102
 t72 := Tryz.underlying105
 a72 := Tryz.isAgg105
 z72 := Tryz.sizeOf105
 v72 := Tryz.zeroValue105
 t75 := Tryz.underlying108
 a75 := Tryz.isAgg108
 z75 := Tryz.sizeOf108
 v75 := Tryz.zeroValue108
 t164 := Tryz.underlying162
 a164 := Tryz.isAgg162
 z164 := Tryz.sizeOf162
 v164 := Tryz.zeroValue162 }
set_option maxRecDepth 100000 in
theorem hl166:Go.Proofs.Lays.n166 Tryz.prog bdR := {
 mixed := by kernel_rfl
 f166 := Tryz.func68.trans (congrArg some (by kernel_rfl))
 f240 := Tryz.func102.trans (congrArg some (by kernel_rfl))
 f276 := Tryz.func121.trans (congrArg some (by kernel_rfl))
 t0 := Tryz.underlying0
 a0 := Tryz.isAgg0
 z0 := Tryz.sizeOf0
 v0 := Tryz.zeroValue0
 t3 := Tryz.underlying3
 a3 := Tryz.isAgg3
 z3 := Tryz.sizeOf3
 v3 := Tryz.zeroValue3
 t4 := Tryz.underlying4
 a4 := Tryz.isAgg4
 z4 := Tryz.sizeOf4
 v4 := Tryz.zeroValue4
 t9 := Tryz.underlying9
 a9 := Tryz.isAgg9
 z9 := Tryz.sizeOf9
 v9 := Tryz.zeroValue9
 t20 := Tryz.underlying20
 a20 := Tryz.isAgg20
 z20 := Tryz.sizeOf20
 v20 := Tryz.zeroValue20
 t37 := Tryz.underlying103
 a37 := Tryz.isAgg103
 z37 := Tryz.sizeOf103
 v37 := Tryz.zeroValue103
 t70 := Tryz.underlying102
 a70 := Tryz.isAgg102
 z70 := Tryz.sizeOf102
 v70 := Tryz.zeroValue102
 t72 := Tryz.underlying105
 a72 := Tryz.isAgg105
 z72 := Tryz.sizeOf105
 v72 := Tryz.zeroValue105
 t75 := Tryz.underlying108
 a75 := Tryz.isAgg108
 z75 := Tryz.sizeOf108
 v75 := Tryz.zeroValue108
 t164 := Tryz.underlying162
 a164 := Tryz.isAgg162
 z164 := Tryz.sizeOf162
 v164 := Tryz.zeroValue162 }
set_option maxRecDepth 100000 in
theorem bdX:Builder.Extra Tryz.prog bdR := { Tryz.Builder_Extra_169 with }
def IsBd (B b:Nat) (l:List UInt8) (w:World):Prop := Lib.IsBuilderF 105 5 B b (Lib.byteCells l) w
theorem bByte_any (B b:Nat) (l:List UInt8) (c:UInt8) (w:World) (h:IsBd B b l w) (hlen:l.length + 1 ≤ 140737488355328) (hBw:B ≤ w.heap.size) :
 Calls Tryz.prog 67 #[.pointer (some ⟨b,0,none⟩),.int .u8 c.toNat] w fun e w' => e = .returned .nilIface ∧ IsBd B b (l ++ [c]) w' ∧ Below B w w' ∧ Lib.OthersKept 5 (some b) w w' :=
 (Any.Builder_WriteByte_k hl167 bdX B b (Lib.byteCells l) c.toNat w h (by simpa [Lib.byteCells_length] using hlen) hBw).mono fun e w' ⟨he, h1, h2, h3⟩ =>
   ⟨he,.inr (by rw [show Lib.byteCells (l ++ [c]) = Lib.byteCells l ++ [.int .u8 c.toNat] from by simp [Lib.byteCells]]; exact h1),h2,h3⟩
theorem bText_any (B b:Nat) (l:List UInt8) (s:ByteArray) (w:World) (h:IsBd B b l w) (hlen:l.length + s.size ≤ 140737488355328) (hBw:B ≤ w.heap.size) :
 Calls Tryz.prog 68 #[.pointer (some ⟨b,0,none⟩),.string s] w fun e w' => e = .returned (.tuple #[.int .i64 s.size,.nilIface]) ∧ IsBd B b (l ++ s.data.toList) w' ∧ Below B w w' ∧ Lib.OthersKept 5 (some b) w w' :=
 (Any.Builder_WriteString_k hl166 bdX B b (Lib.byteCells l) s w h (by simpa [Lib.byteCells_length] using hlen) hBw).mono fun e w' ⟨he, h1, h2, h3⟩ =>
   ⟨he,.inr (by rw [show Lib.byteCells (l ++ s.data.toList) = Lib.byteCells l ++ Lib.strCells s from by simp [Lib.byteCells,Lib.strCells]]; exact h1),h2,h3⟩
theorem bString_any (B b:Nat) (l:List UInt8) (w:World) (h:IsBd B b l w) (hBw:B ≤ w.heap.size) :
 Calls Tryz.prog 70 #[.pointer (some ⟨b,0,none⟩)] w fun e w' => e = .returned (.string ⟨l.toArray⟩) ∧ IsBd B b l w' ∧ Below B w w' :=
 Tryz.Builder_String_any_f B b l w h hBw
theorem isBd_new (w:World):IsBd w.heap.size w.heap.size [] (w.alloc (.cells #[.pointer none,.slice none 0 0] 105)) := by
 rcases Lib.fresh_isBuilder 105 5 w with ⟨h1,v,h2,h3,h4⟩ | ⟨h1,v,h2,h3,h4⟩
 ·exact .inl ⟨h1,v,h2,World.ownsRowF_of h3,h4⟩
 ·exact .inr ⟨h1,v,h2,World.ownsRowF_of h3,h4⟩
theorem isBd_lt {B b:Nat} {l:List UInt8} {w:World} (h:IsBd B b l w):b < w.heap.size := by
 have key:∀ p,Lib.BuilderAtF 105 5 B b p (Lib.byteCells l) w → b < w.heap.size:=by
  rintro p ⟨h1,v,h2,h3,h4⟩
  exact lt_of_heap h2
 rcases h with h | h
 ·exact key _ h
 ·exact key _ h
theorem isBd_more {B b:Nat} {l:List UInt8} {w w':World} (h:IsBd B b l w) (hb:Below w.heap.size w w'):IsBd B b l w' := by
 have key:∀ p,Lib.BuilderAtF 105 5 B b p (Lib.byteCells l) w → Lib.BuilderAtF 105 5 B b p (Lib.byteCells l) w':=by
  rintro p ⟨h1,v,h2,h3,h4⟩
  refine ⟨h1,v,(hb.block b (lt_of_heap h2)).trans h2,⟨h3.1,?_⟩,h4⟩
  rcases h3.2 with hz | ⟨g,cap,cur,fz,r1,r2,r3,r4⟩
  ·exact .inl hz
  ·exact .inr ⟨g,cap,cur,fz,r1,r2,(hb.block g (lt_of_heap r3)).trans r3,r4⟩
 rcases h with h | h
 ·exact .inl (key _ h)
 ·exact .inr (key _ h)
theorem isBd_block {B b:Nat} {l:List UInt8} {w:World} (h:IsBd B b l w):∃ cs fr,w.heap[b]? = some (.cells cs 105 fr) := by
 rcases h with ⟨h1,v,h2,_⟩ | ⟨h1,v,h2,_⟩
 ·exact ⟨_,_,h2⟩
 ·exact ⟨_,_,h2⟩
theorem RowT.oth {w w':World} {A:Option Addr} {n b:Nat} {xs:List Value} (h:RowT w 3 A n xs) (ho:Lib.OthersKept 5 (some b) w w') (hb:∃ cs fr,w.heap[b]? = some (.cells cs 105 fr)):RowT w' 3 A n xs :=
 ⟨h.1, fun hn => let ⟨g, o, cs, fr, e, hg, hc⟩ := h.2 hn; ⟨g, o, cs, fr, e, ho g _ hg (fun e => by
   injection e with e
   obtain ⟨cs',fr',hb⟩:=hb
   rw [← e,hg] at hb
   injection hb with hb
   injection hb with _ hb
   exact absurd hb (by decide)) (fun c fz e => by
   injection e with _ e
   exact absurd e (by decide)),hc⟩⟩
theorem below_ita (w:World) (k:Nat) (os:Array Obj):Below w.heap.size w («Sort».grow (w.drewN k) os) := by
 refine ⟨rfl,rfl,rfl,?_,fun j hj => ?_⟩
 ·show w.heap.size ≤ (w.heap ++ os).size
  rw [Array.size_append]; omega
 ·show (w.heap ++ os)[j]? = w.heap[j]?
  rw [Array.getElem?_append_left hj]
def GT (W : World) : Prop := Lib.TabIs Tryz.prog W "internal/strconv.uint64pow10" .u64 Lib.pow10Tab
theorem GT.below {W W':World} (h:GT W) (hb:Below W.heap.size W W'):GT W' := Joins.tab_stays (g := 0) (by kernel_rfl) h hb (Nat.le_refl _)
theorem pcode_in {d:Pl.Dg} (hd:Pl.Wf d) {ps:List Pl.Pc} (hp:Pl.Pcs d ps) (hl:(Pl.pcode d.lp ps).length ≤ 8100) {x:Int} (hx:x ∈ Pl.pcode d.lp ps):-1 ≤ x ∧ x ≤ 100000 := by
 have hlp:=hd.lp
 have hle:(ps.flatMap (fun p => (p.order.length:Int) :: p.code)).length + 2 ≤ 8100:=by
  have:=hl
  unfold Pl.pcode at this
  simpa using this
 have hps:∀ (qs:List Pl.Pc),qs.length ≤ (qs.flatMap (fun p => (p.order.length:Int) :: p.code)).length:=by
  intro qs
  induction qs with
  | nil => simp
  | cons q qs ih => rw [List.flatMap_cons,List.length_append,List.length_cons,List.length_cons]; omega
 have h1:=hps ps
 unfold Pl.pcode at hx
 rcases List.mem_cons.1 hx with rfl | hx
 ·omega
 rcases List.mem_cons.1 hx with rfl | hx
 ·omega
 obtain ⟨p,hpm,hx⟩:=List.mem_flatMap.1 hx
 obtain ⟨r,hr,e1,e2,_⟩:=hp.ok p hpm
 have ho:p.order.length ≤ 64:=by
  rw [e2]
  have:=(Pl.ord_ok hd hr).len
  have:=hd.few
  omega
 rcases List.mem_cons.1 hx with rfl | hx
 ·omega
 rw [e1] at hx
 unfold Pl.code at hx
 obtain ⟨c,hc,hx⟩:=List.mem_flatMap.1 hx
 have hcn:=((Pl.ord_ok hd hr).mem c hc).1
 have hs:=hd.sign c hcn
 have hi:∀ b,(Pl.ord d r).idxOf b ≤ 64:=fun b => by
  have:=List.idxOf_le_length (l := Pl.ord d r) (a := b)
  rw [← e2] at this ⊢
  omega
 have h2:=hi (Pl.nb d c 0)
 have h3:=hi (Pl.nb d c 1)
 have h4:=hi (Pl.nb d c 2)
 have h5:=hi (Pl.nb d c 3)
 unfold Pl.chk at hx
 simp only [List.mem_cons,List.not_mem_nil,or_false] at hx
 rcases hx with rfl | rfl | rfl | rfl | rfl <;> omega
theorem keyL_len:∀ (l:List Int),(∀ x,x ∈ l → -1 ≤ x ∧ x ≤ 100000) → (keyL l).length ≤ 22 * l.length := by
 have key:∀ (l:List Int),(∀ x,x ∈ l → -1 ≤ x ∧ x ≤ 100000) → (keyF l).length ≤ 22 * l.length:=by
  intro l
  induction l with
  | nil => intro _; simp [keyF]
  | cons x l ih =>
    intro h
    have h1:=ih (fun y hy => h y (by simp [hy]))
    have h2:=h x (by simp)
    have h3:=Lib.itoa_length_le x (by omega) (by omega)
    have e:keyF (x :: l) = 44 :: (Lib.itoa x ++ keyF l):=by unfold keyF; rw [List.flatMap_cons]; rfl
    rw [e,List.length_cons,List.length_append,List.length_cons]
    omega
 intro l h
 have:=key l h
 unfold keyL
 rw [List.length_drop]
 omega
theorem keyL_step {l:List Int} {k:Nat} {x:Int} (h:l[k]? = some x):keyL (l.take (k + 1)) = if k = 0 then Lib.itoa x else keyL (l.take k) ++ 44 :: Lib.itoa x := by
 have hk:=(List.getElem?_eq_some_iff.1 h).1
 rw [Pl.take_one h]
 split
 ·rename_i h0
  subst h0
  rw [List.take_zero,List.nil_append,keyL_one]
 ·rename_i h0
  refine keyL_snoc (fun e => ?_) x
  have:=congrArg List.length e
  rw [List.length_take,List.length_nil] at this
  omega
def KeyPost (d:Pl.Dg) (w:World) (e:Ending) (w':World):Prop := ∃ s:ByteArray,e = .returned (.string s) ∧ s.data.toList = keyD d ∧ s.size ≤ 180000 ∧ Below w.heap.size w w'
set_option maxRecDepth 100000 in
set_option maxHeartbeats 4000000 in
theorem key_any (d:Pl.Dg) (hd:Pl.Valid d) (h20:d.n ≤ 20) (A B:Option Addr) (cp cq m:Nat) (w:World) (hm:m = 4 * d.n) (hg:DgAt w A B d) (ht:GT w) :
 Calls Tryz.prog 36 #[.agg #[.slice A d.n cp,.slice B m cq,.int .i64 d.lp]] w (KeyPost d w) := by
 have HM:=hide hm
 have HG:=hide hg
 have HT:=hide ht
 have HD:=hide hd
 clear hm hg ht
 have X0:=hide (row_at (W := w) (g := w.heap.size) (t := 24) (vs := [.slice A d.n cp,.slice B m cq,.int .i64 d.lp]) rfl)
 have B0:=hide (show Below w.heap.size w (w.alloc (.cells #[.slice A d.n cp,.slice B m cq,.int .i64 d.lp] 24)) from (Below.refl _ _).alloc (Nat.le_refl _) _)
 obtain ⟨W1,hW1⟩:∃ W,W = w.alloc (.cells #[.slice A d.n cp,.slice B m cq,.int .i64 d.lp] 24) := ⟨_,rfl⟩
 rw [← hW1] at X0 B0
 have hs1:W1.heap.size = w.heap.size + 1:=by rw [hW1]; simp
 have I0:=hide (isBd_new W1)
 rw [hs1] at I0
 have X1:=hide (X0.out.alloc (.cells #[.pointer none,.slice none 0 0] 105))
 have B1:=hide (B0.out.alloc (o := .cells #[.pointer none,.slice none 0 0] 105) B0.out.size)
 have HS1:=hide hs1
 clear X0 B0 hs1
 rw [hW1] at X1 B1 I0
 clear hW1 HS1 W1
 obtain ⟨d0,d1,d2,d3⟩:=box3 X1.out
 go_enter Tryz.func36,Tryz.ntmps36
 go_wp2_with fail
 refine (code_t d HD.out h20 A B cp cq m _ HM.out (HG.out.keep B1.out)).mono ?_
 rintro e w2 ⟨A2,n,c2,ps,rfl,hps,hsr,hn,hints,hb2⟩
 have HCD:=hide (codeD_is HD.out.wf hps hsr)
 have HPI:=hide (fun (x:Int) (hx:x ∈ Pl.pcode d.lp ps) => pcode_in HD.out.wf hps (by have := hints.1; rw [List.length_map] at this; omega) hx)
 have HI:=hide hints
 have HN:=hide (show (Pl.pcode d.lp ps).length = n from by have := hints.1; rw [List.length_map] at this; exact this)
 obtain ⟨cl,hcl⟩:∃ l,l = Pl.pcode d.lp ps := ⟨_,rfl⟩
 have hs2:w.heap.size + 1 ≤ w2.heap.size:=by have := hb2.size; simp at this; omega
 have I2:=hide (isBd_more I0.out hb2)
 have B2:=hide (B1.out.trans (hb2.mono B1.out.size))
 rw [← hcl] at HCD HPI HI HN
 clear hps hsr hints hb2 hcl X1 B1 I0 d0 d1 d2 d3
 go_wp2_with fail
 go_loopg [4,5,9,16,18,19] n (fun g s4 s5 i s16 s18 s19 wx => ∃ k:Nat,k + g = n ∧ i = .int .i64 (k:Int) ∧ IsBd (w.heap.size + 1) (w.heap.size + 1) (keyL (cl.take k)) wx ∧ Below w.heap.size w wx ∧ RowT wx 3 A2 n (cl.map (.int .i64)))
 case atStart => exact ⟨0,by omega,rfl,by rw [List.take_zero]; exact I2.out,B2.out,HI.out⟩
 case round =>
  clear I2 B2 HI
  obtain ⟨k,hkg,rfl,hi,hb,hr⟩:=hrel
  have HKG:=hide hkg
  have I0:=hide hi
  have B0:=hide hb
  have R0:=hide hr
  have hkn:k ≤ n:=by omega
  have hsz:w.heap.size + 1 ≤ wr.heap.size:=Nat.le_of_lt (isBd_lt hi)
  have hkl:(keyL (cl.take k)).length ≤ 22 * k:=by
   have h:=keyL_len (cl.take k) (fun x hx => HPI.out x (List.mem_of_mem_take hx))
   rw [List.length_take] at h
   have:22 * min k cl.length ≤ 22 * k:=Nat.mul_le_mul_left _ (Nat.min_le_left _ _)
   omega
  clear hkg hi hb hr
  by_cases hk:k < n
  ·have hki:(k:Int) < (n:Int):=by omega
   have k0:(0:Int) ≤ (k:Int):=by omega
   obtain ⟨x,hx⟩:∃ x,cl[k]? = some x := ⟨_,List.getElem?_eq_getElem (by rw [HN.out]; exact hk)⟩
   obtain ⟨b,o,rfl,x1⟩:=(R0.out.row).at_ hk
   rw [show (cl.map (Value.int .i64))[k]'(by rw [R0.out.1]; exact hk) = .int .i64 x from by rw [List.getElem_map]; congr 1; exact (List.getElem?_eq_some_iff.1 hx).2] at x1
   have HXB:=hide (HPI.out x (List.mem_of_getElem? hx))
   have hxb:=HXB.out
   have HST:=hide (keyL_step hx)
   clear hx
   by_cases h0:k = 0
   ·have hk0:¬ ((0:Int) < (k:Int)):=by omega
    have HST2:=hide (show keyL (cl.take (k + 1)) = keyL (cl.take k) ++ Lib.itoa x by rw [HST.out,if_pos h0,h0]; rfl)
    clear h0
    clear HST
    go_wp2_with fail
    refine (Tryz.strconv_Itoa x (by omega) (by omega) _ (HT.out.below B0.out)).mono ?_
    rintro e w3 ⟨rfl,k3,os3,hw3⟩
    have hb3:Below wr.heap.size wr w3:=by rw [hw3]; exact below_ita wr k3 os3
    have B3:=hide (B0.out.trans (hb3.mono B0.out.size))
    have I3:=hide (isBd_more I0.out hb3)
    have R3:=hide (R0.out.keep hb3)
    have hs3:w.heap.size + 1 ≤ w3.heap.size:=by have := hb3.size; omega
    clear hw3 hb3 B0 I0 R0 x1
    obtain ⟨sx,hsx⟩:∃ x1:ByteArray,x1 = ⟨(Lib.itoa x).toArray⟩:=⟨_,rfl⟩
    have HSX:=hide (show sx.data.toList = Lib.itoa x by rw [hsx])
    have hsz2:sx.size ≤ 21:=by rw [Lib.size_eq,HSX.out]; exact Lib.itoa_length_le x (by omega) (by omega)
    rw [← hsx]
    clear hsx
    go_wp2_with fail
    refine (bText_any (w.heap.size + 1) (w.heap.size + 1) _ sx _ I3.out (by omega) hs3).mono ?_
    rintro e w4 ⟨rfl,hi4,hb4,ho4⟩
    have I4:=hide hi4
    have B4:=hide (B3.out.trans (hb4.mono (by omega)))
    have R4:=hide (R3.out.oth ho4 (isBd_block I3.out))
    clear hi4 hb4 ho4
    go_wp2_with fail
    go_roundg (gk - 1)
    case measure => have := HKG.out; omega
    case rel => exact ⟨k + 1,by have := HKG.out; omega,by go_num,by rw [HST2.out,← HSX.out]; exact I4.out,B4.out,R4.out⟩
   ·have hk0:(0:Int) < (k:Int):=by omega
    have HST2:=hide (show keyL (cl.take (k + 1)) = (keyL (cl.take k) ++ [44]) ++ Lib.itoa x by rw [HST.out,if_neg h0,List.append_assoc]; rfl)
    clear HST
    go_wp2_with fail
    refine (bByte_any (w.heap.size + 1) (w.heap.size + 1) _ 44 _ I0.out (by omega) hsz).mono ?_
    rintro e w2' ⟨rfl,hi2,hb2,ho2⟩
    have I2:=hide hi2
    have B2:=hide (B0.out.trans (hb2.mono (by omega)))
    have R2:=hide (R0.out.oth ho2 (isBd_block I0.out))
    clear hi2 hb2 ho2 B0 I0 R0 x1
    go_wp2_with fail
    refine (Tryz.strconv_Itoa x (by omega) (by omega) _ (HT.out.below B2.out)).mono ?_
    rintro e w3 ⟨rfl,k3,os3,hw3⟩
    have hb3:Below w2'.heap.size w2' w3:=by rw [hw3]; exact below_ita w2' k3 os3
    have B3:=hide (B2.out.trans (hb3.mono B2.out.size))
    have I3:=hide (isBd_more I2.out hb3)
    have R3:=hide (R2.out.keep hb3)
    have hs3:w.heap.size + 1 ≤ w3.heap.size:=Nat.le_of_lt (isBd_lt I3.out)
    clear hw3 hb3 B2 I2 R2
    obtain ⟨sx,hsx⟩:∃ x1:ByteArray,x1 = ⟨(Lib.itoa x).toArray⟩:=⟨_,rfl⟩
    have HSX:=hide (show sx.data.toList = Lib.itoa x by rw [hsx])
    have hsz2:sx.size ≤ 21:=by rw [Lib.size_eq,HSX.out]; exact Lib.itoa_length_le x (by omega) (by omega)
    have hkl2:(keyL (cl.take k) ++ [44]).length ≤ 22 * k + 1:=by rw [List.length_append,List.length_singleton]; omega
    rw [← hsx]
    clear hsx
    go_wp2_with fail
    refine (bText_any (w.heap.size + 1) (w.heap.size + 1) _ sx _ I3.out (by omega) hs3).mono ?_
    rintro e w4 ⟨rfl,hi4,hb4,ho4⟩
    have I4:=hide hi4
    have B4:=hide (B3.out.trans (hb4.mono (by omega)))
    have R4:=hide (R3.out.oth ho4 (isBd_block I3.out))
    clear hi4 hb4 ho4
    go_wp2_with fail
    go_roundg (gk - 1)
    case measure => have := HKG.out; omega
    case rel => exact ⟨k + 1,by have := HKG.out; omega,by go_num,by rw [HST2.out,← HSX.out]; exact I4.out,B4.out,R4.out⟩
  ·have hki:¬ ((k:Int) < (n:Int)):=by omega
   have hkk:k = n:=by omega
   rw [hkk,List.take_of_length_le (by have := HN.out; omega)] at I0
   have hlen:(keyL cl).length ≤ 22 * n:=by
    have h:=keyL_len cl HPI.out
    have:=HN.out
    rw [← this]
    exact h
   go_wp2_with fail
   refine (bString_any (w.heap.size + 1) (w.heap.size + 1) _ _ I0.out hsz).mono ?_
   rintro e w4 ⟨rfl,hi4,hb4⟩
   have B4:=hide (B0.out.trans (hb4.mono (by omega)))
   go_wp2
   go_ret
   refine ⟨_,rfl,?_,?_,B4.out⟩
   ·show (keyL cl).toArray.toList = keyD d
    rw [List.toList_toArray,HCD.out]
    rfl
   ·rw [Lib.size_eq]
    show (keyL cl).toArray.toList.length ≤ 180000
    rw [List.toList_toArray]
    omega
end Go.Proofs.YtghdiolnonejaaaGreatDoor
end
