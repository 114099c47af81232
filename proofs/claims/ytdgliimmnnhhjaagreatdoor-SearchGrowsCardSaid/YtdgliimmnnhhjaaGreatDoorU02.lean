/-
  The texts Grow, Wd, Wf, Reg, Wk, Wo, Sgn, Drp, Pcs, Va, Num, Prt, Rb.
-/
import Derived.Test.YtdgliimmnnhhjaaGreatDoorU01
import Derived.Deep.AppendLies
import Derived.Deep.DrawnRows
import Derived.Deep.RegionHeld3
import Derived.Shelf.Spec.SlicesGrow
import Derived.StillTailTactics
import Derived.Test.YtdgliimmnnhhjaaGreatDoorShelf
set_option linter.unusedVariables false
set_option linter.unusedSimpArgs false
section
namespace Go.Proofs.YtdgliimmnnhhjaaGreatDoor
open Go Go.RowKit
section
variable {P:Program} (w:World)
theorem run_append_ints (base:Nat)(t ty e:TypeId)(i:TypeInfo)(z:Value)(bytes:Nat)(ht:P.underlying t=some (.slice e))(hi:P.info? e=some i)(hz:i.zero=some z)
 (hsize:i.size=1) (hby:i.bytes=bytes) (hzs:z.cells.size=1)
 (v:Value) (n:Nat) (xs:List Value) (hown:w.ownsRow base e 1 v n xs)
 (A:Option Addr) (m c:Nat) (zs:List Int) (hin:IntsAt w A m zs)
 (h63:n+m≤maxLen) (hbytes:(n+m) * bytes≤140737488355328) (hbase:base≤w.heap.size) :
 ∃v' w',(Builtin.append_ #[t,t] ty #[v,.slice A m c]).run P w = .ok v' w'∧w'.ownsRow base e 1 v' (n+m) (xs++zs.map (.int .i64))∧w.grownBy w' v.ownBlock:=by
 have hl:=hin.len
 rcases Nat.eq_zero_or_pos m with h0 | h0
 ·subst h0
  obtain rfl:zs=[]:=List.eq_nil_of_length_eq_zero hl
  have hr:(Builtin.append_ #[t,t] ty #[v,.slice A 0 c]).run P w = .ok v w:=by
   rcases hown.2 with ⟨rfl,rfl⟩ | ⟨g,cap,cur,rfl,_,_,hnc,_⟩
   ·cases A <;> simp [Builtin.append_,run_underlying ht,sizeOf,typeInfo,hi,Builtin.lenOf,Builtin.firstCells,loadCells,loadCellsFrom]
   ·cases A <;> simp [Builtin.append_,run_underlying ht,sizeOf,typeInfo,hi,Builtin.lenOf,Builtin.firstCells,hnc,storeCells,loadCells,loadCellsFrom]
  refine ⟨v,w,hr,by simpa using hown,⟨rfl,rfl,rfl,Nat.le_refl _,fun _ _ _=>rfl⟩⟩
 ·obtain ⟨b,o,rfl,hc⟩:=hin.2 h0
  obtain ⟨v',w',hr,h2,h3,_⟩:=run_append_own (P:=P) w base t ty e i z 1 bytes ht hi hz hsize hby hzs (by omega) v n xs hown ⟨b,o,none⟩ m c (zs.map (.int .i64)) (by rw [List.length_map,hl,Nat.mul_one]) (fun j u hu=>by
   have:(⟨b,o,none⟩:Addr).add j=⟨b,o+j,none⟩:=by unfold Addr.add;split <;> simp_all
   rw [this];exact hc j u hu) (fun u hu=>by
   obtain ⟨x,_,rfl⟩:=List.mem_map.1 hu;rfl) h63 hbytes hbase
  exact ⟨v',w',hr,h2,h3⟩
theorem wp_append_ints {o:Oper}{a:Act}{K:Act→World→Prop}{Q:Exit→Act→World→Prop}(s x:Operand)(t:TypeId)
 (ho:o.op = .call { callee := .builtin .append,args:=#[s,x],argTypes:=#[t,t] })
 (base:Nat) (e:TypeId) (i:TypeInfo) (z:Value) (bytes:Nat) (ht:P.underlying t=some (.slice e)) (hi:P.info? e=some i) (hz:i.zero=some z)
 (hsize:i.size=1) (hby:i.bytes=bytes) (hzs:z.cells.size=1)
 (v:Value) (n:Nat) (xs:List Value) (hs:a.eval s=v) (hown:w.ownsRow base e 1 v n xs)
 (A:Option Addr) (m c:Nat) (zs:List Int) (hx:a.eval x = .slice A m c) (hin:IntsAt w A m zs)
 (h63:n+m≤maxLen) (hbytes:(n+m) * bytes≤140737488355328) (hbase:base≤w.heap.size)
 (h:∀v' w',w'.ownsRow base e 1 v' (n+m) (xs++zs.map (.int .i64))→w.grownBy w' v.ownBlock→K (a.put o.dst v') w'):o.wp P a w K Q:=by
 obtain ⟨v',w',hr,h2,h3⟩:=run_append_ints (P:=P) w base t o.type e i z bytes ht hi hz hsize hby hzs v n xs hown A m c zs hin h63 hbytes hbase
 unfold Oper.wp execOp
 simp only [ho,resolve,invoke,builtin,Sem.run_bind,Sem.run_pure,Result.andThen_ok,List.map_toArray,List.map_cons,List.map_nil,hs,hx,hr]
 exact h v' w' h2 h3
theorem wpList_append_ints {ops:Array Oper}{rest:List Oper}{o:Oper}{a:Act}{Q:Exit→Act→World→Prop}(hgd:o.guard=none)(s x:Operand)(t:TypeId)
 (ho:o.op = .call { callee := .builtin .append,args:=#[s,x],argTypes:=#[t,t] })
 (base:Nat) (e:TypeId) (i:TypeInfo) (z:Value) (bytes:Nat) (ht:P.underlying t=some (.slice e)) (hi:P.info? e=some i) (hz:i.zero=some z)
 (hsize:i.size=1) (hby:i.bytes=bytes) (hzs:z.cells.size=1)
 (v:Value) (n:Nat) (xs:List Value) (hs:a.eval s=v) (hown:w.ownsRow base e 1 v n xs)
 (A:Option Addr) (m c:Nat) (zs:List Int) (hx:a.eval x = .slice A m c) (hin:IntsAt w A m zs)
 (h63:n+m≤maxLen) (hbytes:(n+m) * bytes≤140737488355328) (hbase:base≤w.heap.size)
 (h:∀v' w',w'.ownsRow base e 1 v' (n+m) (xs++zs.map (.int .i64))→w.grownBy w' v.ownBlock→wpList P ops Q rest (a.put o.dst v') w'):wpList P ops Q (o :: rest) a w :=
 wpList_plain hgd fun _ hK=>wp_append_ints w s x t ho base e i z bytes ht hi hz hsize hby hzs v n xs hs hown A m c zs hx hin h63 hbytes hbase fun v' w' h2 h3=>hK _ _ (h v' w' h2 h3)
end
def growRen:Go.Shelf.Ren:=⟨fun | 4=>116 | n=>n,fun | 22=>22 | 25=>3 | 3=>3 | 4=>4 | 9=>9 | 20=>20 | 0=>0 | n=>n,fun | n=>n⟩
theorem growLays:Go.Proofs.Lays8.n4 Tryz.prog growRen:={
 mixed:=by kernel_rfl
 f4:=⟨Tryz.f116.name,by decide,Tryz.func116.trans (congrArg some (by kernel_rfl))⟩
 t0:=Tryz.underlying0
 a0:=Tryz.isAgg0
 z0:=Tryz.sizeOf0
 v0:=Tryz.zeroValue0
 t3:=Tryz.underlying3
 a3:=Tryz.isAgg3
 z3:=Tryz.sizeOf3
 v3:=Tryz.zeroValue3
 t4:=Tryz.underlying4
 a4:=Tryz.isAgg4
 z4:=Tryz.sizeOf4
 v4:=Tryz.zeroValue4
 t9:=Tryz.underlying9
 a9:=Tryz.isAgg9
 z9:=Tryz.sizeOf9
 v9:=Tryz.zeroValue9
 t20:=Tryz.underlying20
 a20:=Tryz.isAgg20
 z20:=Tryz.sizeOf20
 v20:=Tryz.zeroValue20
 t22:=Tryz.underlying22
 a22:=Tryz.isAgg22
 z22:=Tryz.sizeOf22
 v22:=Tryz.zeroValue22 }
theorem grow_nil (n:Nat)(w:World)(hn:n≤100000) :
 Calls Tryz.prog 116 #[.slice none 0 0,.int .i64 (n:Int)] w fun e w'=>∃v,e = .returned v∧w'.ownsRow w.heap.size 3 1 v 0 []∧Below w.heap.size w w':=by
 rcases Nat.eq_zero_or_pos n with h0 | h0
 ·subst h0
  refine (Any8.slices_Grow_room growLays none 0 0 0 w (by omega) (by omega) (by omega) (by omega)).mono ?_
  rintro e w' ⟨rfl,rfl⟩
  exact ⟨_,rfl,World.ownsRow_nil _ _ _ _,Below.refl _ _⟩
 ·obtain ⟨i0,hi0,hz0,hz1,hz2⟩:=info_parts intInfo
  refine (Any8.slices_Grow_grow growLays i0 (.int .i64 0) hi0 hz0 (by omega) none 0 0 n [] w (by omega) (by omega) (by rw [hz2];omega) (by omega) (by simp) (fun _=>rfl) (fun a h=>by cases h)).mono ?_
  rintro e w' ⟨rfl,rfl⟩
  have hge:=grownCap_ge w (0+n) 0 3
  have hle:=grownCap_le_maxLen w (0+n) 0 3 (by unfold maxLen;omega)
  refine ⟨_,rfl,?_,((Below.refl _ _).drew).alloc (by simp) _⟩
  refine ⟨rfl,.inr ⟨w.heap.size,_,_,rfl,Nat.le_refl _,heap_alloc_new w.drew _,Nat.zero_le _,hle,?_,by simp⟩⟩
  show _=grownCap w (0+n) 0 3 * 1
  simp only [Array.size_append,List.size_toArray,size_zeroCells,List.length_nil]
  show 0+(0+n - 0) * 1+(grownCap w (0+n) 0 3 - (0+n)) * 1=_
  omega
end Go.Proofs.YtdgliimmnnhhjaaGreatDoor
end
section
namespace Go.Proofs.YtdgliimmnnhhjaaGreatDoor
open Go.RowKit
def pre (xs ys:List Int)(k:Nat):List Int:=if k=0 then [] else if k=1 then xs else xs++ys
set_option maxRecDepth 100000 in
set_option maxHeartbeats 2000000 in
theorem concat_two (A B:Option Addr)(n m c d h:Nat)(xs ys:List Int)(w:World)(hx:IntsAt w A n xs)(hy:IntsAt w B m ys)(hn:n+m≤100000)
 (c0:w.cell? ⟨h,0,none⟩=some (.slice A n c)) (c1:w.cell? ⟨h,1,none⟩=some (.slice B m d)) :
 Calls Tryz.prog 100 #[.slice (some ⟨h,0,none⟩) 2 2] w fun e w'=>∃v,e = .returned v∧w'.ownsRow w.heap.size 3 1 v (n+m) ((xs++ys).map (.int .i64))∧Below w.heap.size w w':=by
 have HX:=hide hx
 have HY:=hide hy
 clear hx hy
 go_enter Tryz.func100,Tryz.ntmps100
 go_wp2
 go_loop [3,11] (fun s i=>∃k:Nat,k≤2∧i = .int .i64 k∧s = .int .i64 ((if k=0 then 0 else if k=1 then n else n+m:Nat):Int)) (fun _ i=>2 - (intOf i).toNat)
 case atStart=>exact ⟨0,by omega,rfl,rfl⟩
 case round =>
  obtain ⟨k,hk,rfl,rfl⟩:=hrel
  have h3:k=0∨k=1∨k=2:=by omega
  rcases h3 with rfl | rfl | rfl
  ·simp only [if_true]
   go_wp2
   go_round
   case rel=>exact ⟨1,by omega,by go_num,by simp⟩
   case measure=>simp [intOf]
  ·simp only [Nat.one_ne_zero,if_true,if_false]
   go_wp2
   go_round
   case rel=>exact ⟨2,by omega,by go_num,by simp⟩
   case measure=>simp [intOf]
  ·simp only [show (2:Nat)≠0 by omega,show (2:Nat)≠1 by omega,if_false]
   obtain ⟨s,hs⟩:∃s,s=n+m:=⟨_,rfl⟩
   rw [←hs]
   have HS:=hide hs
   have hs2:s≤100000:=by omega
   clear hs
   go_wp2_with fail
   refine (grow_nil s _ hs2).mono ?_
   rintro e w1 ⟨v0,rfl,hown,hb1⟩
   have HO:=hide hown
   have HB1:=hide hb1
   clear hown hb1
   go_wp2
   have hxl:=HX.out.len
   have hyl:=HY.out.len
   go_loopg [6,27] 2 (fun g v i wx=>∃k:Nat,k+g=2∧i = .int .i64 k∧wx.ownsRow w.heap.size 3 1 v (pre xs ys k).length ((pre xs ys k).map (.int .i64))∧Below w.heap.size w wx)
   case atStart=>exact ⟨0,rfl,rfl,HO.out,HB1.out⟩
   case round =>
    obtain ⟨k,hkg,rfl,hown,hb⟩:=hrel
    have hcell:=hide hb
    have d0':=cell_below c0 hb
    have d1':=cell_below c1 hb
    have HX':=hide (HX.out.keep hb)
    have HY':=hide (HY.out.keep hb)
    obtain ⟨i0,hi0,hz0,hz1,hz2⟩:=info_parts intInfo
    have hwz:=hb.size
    obtain ⟨g1,rfl⟩:∃g1,g1=gk:=⟨_,rfl⟩
    have HK:=hide hkg
    have HO':=hide hown
    clear hb hown
    have h3:k=0∨k=1∨k=2:=by omega
    clear hkg
    rcases h3 with rfl | rfl | rfl
    ·go_wp2_with (at_builtin;refine wpList_append_ints _ rfl _ _ 22 rfl w.heap.size 3 i0 (.int .i64 0) 8 Tryz.underlying22 hi0 hz0 hz1 hz2 rfl _ 0 [] (by rfl) HO'.out A n c xs (by rfl) HX'.out (by unfold maxLen;omega) (by omega) hwz ?_;intro v2 w2 own2 grow2)
     go_roundg 1
     case measure=>have:=HK.out;omega
     case rel =>
      refine ⟨1,rfl,rfl,?_,hcell.out.grown grow2 hwz (fun k hk=>(HO'.out.lt k hk).1)⟩
      have e:pre xs ys 1=xs:=rfl
      rw [e,hxl]
      simpa using own2
    ·have e1:(pre xs ys 1).length=n:=hxl
     have HO2:=hide (show wr.ownsRow w.heap.size 3 1 u6 n (xs.map (.int .i64)) by have:=HO'.out;rw [e1] at this;exact this)
     go_wp2_with (at_builtin;refine wpList_append_ints _ rfl _ _ 22 rfl w.heap.size 3 i0 (.int .i64 0) 8 Tryz.underlying22 hi0 hz0 hz1 hz2 rfl _ n (xs.map (.int .i64)) (by rfl) HO2.out B m d ys (by rfl) HY'.out (by unfold maxLen;omega) (by omega) hwz ?_;intro v2 w2 own2 grow2)
     go_roundg 0
     case measure=>have:=HK.out;omega
     case rel =>
      refine ⟨2,rfl,rfl,?_,hcell.out.grown grow2 hwz (fun k hk=>(HO'.out.lt k hk).1)⟩
      have e:pre xs ys 2=xs++ys:=rfl
      rw [e,List.length_append,hxl,hyl,List.map_append]
      exact own2
    ·go_wp2
     go_ret
     refine ⟨_,rfl,?_,hcell.out⟩
     have h7:=HO'.out
     have e:pre xs ys 2=xs++ys:=rfl
     rw [e,List.length_append,hxl,hyl] at h7
     exact h7
theorem owns_slice {w:World}{base:Nat}{e:TypeId}{size:Nat}{v:Value}{n:Nat}{xs:List Value}(h:w.ownsRow base e size v n xs):∃A c,v = .slice A n c:=by
 rcases h.2 with ⟨rfl,rfl⟩ | ⟨g,cap,cur,rfl,_⟩
 ·exact ⟨_,_,rfl⟩
 ·exact ⟨_,_,rfl⟩
theorem concat_ex (n m h:Nat)(xs ys:List Int)(w:World)(hn:n+m≤100000)(h0:∃A c,w.cell? ⟨h,0,none⟩=some (.slice A n c)∧IntsAt w A n xs)(h1:∃B d,w.cell? ⟨h,1,none⟩=some (.slice B m d)∧IntsAt w B m ys) :
 Calls Tryz.prog 100 #[.slice (some ⟨h,0,none⟩) 2 2] w fun e w'=>∃(A:Option Addr) (c:Nat),e = .returned (.slice A (n+m) c)∧w'.ownsRow w.heap.size 3 1 (.slice A (n+m) c) (n+m) ((xs++ys).map (.int .i64))∧Below w.heap.size w w':=by
 obtain ⟨A,c,c0,hx⟩:=h0
 obtain ⟨B,d,c1,hy⟩:=h1
 refine (concat_two A B n m c d h xs ys w hx hy hn c0 c1).mono ?_
 rintro e w' ⟨v,rfl,hown,hb⟩
 obtain ⟨A',c',rfl⟩:=owns_slice hown
 exact ⟨A',c',rfl,hown,hb⟩
def OwnN (w:World)(base g n cap:Nat)(l:List Nat):Prop:=w.ownsRow base 3 1 (.slice (some ⟨g,0,none⟩) n cap) n (l.map (fun k:Nat=>Value.int .i64 k))
theorem OwnN.len {w:World}{base g n cap:Nat}{l:List Nat}(h:OwnN w base g n cap l):l.length=n:=by have:=h.1;simpa using this
theorem OwnN.cell {w:World}{base g n cap:Nat}{l:List Nat}(h:OwnN w base g n cap l){k:Nat}(hk:k<n):w.cell? ⟨g,k,none⟩=some (.int .i64 (l.getD k 0:Nat)):=by
 have hl:=h.len
 rw [World.ownsRow.cellAt h k (by omega),List.getElem?_map,List.getElem?_eq_getElem (by omega),List.getD_eq_getElem?_getD,List.getElem?_eq_getElem (by omega)];rfl
theorem OwnN.free {w:World}{base g n cap:Nat}{l:List Nat}(h:OwnN w base g n cap l)(k:Nat):w.frozen? ⟨g,k,none⟩=false:=World.ownsRow.frozenAt h k
theorem OwnN.set {w:World}{base g n cap:Nat}{l:List Nat}(h:OwnN w base g n cap l)(k v:Nat):OwnN (w.setCell ⟨g,k,none⟩ (.int .i64 (v:Nat))) base g n cap (l.set k v)∧w.grownBy (w.setCell ⟨g,k,none⟩ (.int .i64 (v:Nat))) (some g):=by
 have:=World.ownsRow.stored h k (.int .i64 (v:Nat))
 refine ⟨?_,this.2⟩
 unfold OwnN
 rw [List.map_set]
 exact this.1
theorem grownBy_trans {w w1 w2:World}{r:Option Nat}(h:w.grownBy w1 r)(h2:w1.grownBy w2 r):w.grownBy w2 r :=
 ⟨h2.os.trans h.os,h2.tape.trans h.tape,h2.output.trans h.output,Nat.le_trans h.size h2.size,fun k hk hr=>(h2.block k (Nat.lt_of_lt_of_le hk h.size) hr).trans (h.block k hk hr)⟩
def jn (l:List Nat)(a b:Nat):List Nat:=(l.set a b).set b a
theorem join_any (base g n cap a b:Nat)(l:List Nat)(w:World)(h:OwnN w base g n cap l)(ha:a<n)(hb:b<n)(hn:n≤100000) :
 Calls Tryz.prog 71 #[.slice (some ⟨g,0,none⟩) n cap,.int .i64 (a:Int),.int .i64 (b:Int)] w fun e w'=>e = .returned (.tuple #[])∧OwnN w' base g n cap (jn l a b)∧w.grownBy w' (some g):=by
 have c1:=h.cell ha
 have f1:=h.free a
 obtain ⟨h2,g2⟩:=h.set a b
 have c2:=h2.cell hb
 have f2:=h2.free b
 obtain ⟨h3,g3⟩:=h2.set b a
 have H3:=hide h3
 have G3:=hide (grownBy_trans g2 g3)
 clear h h2 h3 g2 g3
 go_enter Tryz.func71,Tryz.ntmps71
 go_wp2
 go_end0
 exact ⟨rfl,H3.out,G3.out⟩
theorem join_int (base g n cap:Nat)(a b:Int)(l:List Nat)(w:World)(h:OwnN w base g n cap l)(ha:0≤a∧a<n)(hb:0≤b∧b<n)(hn:n≤100000) :
 Calls Tryz.prog 71 #[.slice (some ⟨g,0,none⟩) n cap,.int .i64 a,.int .i64 b] w fun e w'=>e = .returned (.tuple #[])∧OwnN w' base g n cap (jn l a.toNat b.toNat)∧w.grownBy w' (some g):=by
 obtain ⟨x,rfl⟩:=Int.eq_ofNat_of_zero_le ha.1
 obtain ⟨y,rfl⟩:=Int.eq_ofNat_of_zero_le hb.1
 rw [Int.toNat_natCast,Int.toNat_natCast]
 exact join_any base g n cap x y l w h (by omega) (by omega) hn
end Go.Proofs.YtdgliimmnnhhjaaGreatDoor
end
section
namespace Go.Proofs.YtdgliimmnnhhjaaGreatDoor
open Go.RowKit
theorem bcell {W w1:World}(hb:Below W.heap.size W w1):(∀b o,b<W.heap.size→w1.cell? ⟨b,o,none⟩=W.cell? ⟨b,o,none⟩)∧(∀b o,b<W.heap.size→w1.frozen? ⟨b,o,none⟩=W.frozen? ⟨b,o,none⟩) :=
 ⟨fun b o h=>hb.cell (p:=⟨b,o,none⟩) h,fun b o h=>hb.frozen (p:=⟨b,o,none⟩) h⟩
structure Mv where
 kind:Int
 x:Int
 y:Int
 sign:Int
 over:Bool
def Mv.v (m:Mv):Value := .agg #[.int .i64 m.kind,.int .i64 m.x,.int .i64 m.y,.int .i64 m.sign,.bool m.over]
def fullC (n k:Nat):Int:=if 64<n+k then 5 else 0
def curlableC (d:Pl.Dg)(x:Int):Int:=if x<0 then (if d.lp=0 then 6 else fullC d.n 1) else if Pl.out d x.toNat=true then fullC d.n 1 else 6
set_option maxRecDepth 100000 in
set_option maxHeartbeats 2000000 in
theorem curlable_any (d:Pl.Dg)(A B:Option Addr)(cp cq:Nat)(k x y sg:Int)(ov:Bool)(w:World)(hg:DgAt w A B d)(hn:d.n≤64)(hlp:d.lp≤64)(hx:-1≤x∧x<4 * d.n) :
 Calls Tryz.prog 69 #[.agg #[.slice A d.n cp,.slice B (4 * d.n) cq,.int .i64 d.lp],.agg #[.int .i64 k,.int .i64 x,.int .i64 y,.int .i64 sg,.bool ov]] w fun e w'=>e = .returned (.int .i64 (curlableC d x))∧Below w.heap.size w w':=by
 obtain ⟨m,hm⟩:∃m,m=4 * d.n:=⟨_,rfl⟩
 rw [←hm]
 have HM:=hide hm
 clear hm
 have b0:Below w.heap.size w ((w.alloc (.cells #[.slice A d.n cp,.slice B m cq,.int .i64 d.lp] 24)).alloc (.cells #[.int .i64 k,.int .i64 x,.int .i64 y,.int .i64 sg,.bool ov] 43)):=((Below.refl _ _).alloc (Nat.le_refl _) _).alloc (by simp) _
 have HS:=hide (hg.s.keep b0)
 clear hg
 by_cases hx0:0≤x
 ·obtain ⟨q,rfl⟩:=Int.eq_ofNat_of_zero_le hx0
  have hq:q<4 * d.n:=by omega
  have t1:decide (0≤(q:Int))=true:=by simp
  go_enter Tryz.func69,Tryz.ntmps69
  go_wp2_with fail
  refine (out2_n d A B d.n cp m cq (.int .i64 d.lp) q _ rfl hq (by omega) HS.out).mono ?_
  rintro e w1 ⟨rfl,hb1⟩
  have b1:=b0.trans (hb1.mono b0.size)
  obtain ⟨hc,hf⟩:=bcell hb1
  have hsz:w.heap.size+1<w1.heap.size:=by have:=hb1.size;simp at this;omega
  have e0:curlableC d (q:Int)=if Pl.out d q=true then fullC d.n 1 else 6:=by unfold curlableC;rw [if_neg (by omega),Int.toNat_natCast]
  have E0:=hide e0
  clear e0
  clear t1
  go_wp2
  all_goals
   go_ret
   refine ⟨ret_int ?_,b1⟩
   rw [E0.out]
   unfold fullC
   repeat' split
   all_goals first | omega | (exfalso;first | omega | (simp_all;done))
 ·go_enter Tryz.func69,Tryz.ntmps69
  go_wp2
  all_goals
   go_ret
   refine ⟨ret_int ?_,b0⟩
   unfold curlableC fullC
   rw [if_pos (by omega)]
   simp only [beq_iff_eq,beq_eq_false_iff_ne,ne_eq] at *
   repeat' split
   all_goals omega
theorem curlable_m (d:Pl.Dg)(A B:Option Addr)(cp cq m:Nat)(k x y sg:Int)(ov:Bool)(w:World)(hm:m=4 * d.n)(hg:DgAt w A B d)(hn:d.n≤64)(hlp:d.lp≤64)(hx:-1≤x∧x<4 * d.n) :
 Calls Tryz.prog 69 #[.agg #[.slice A d.n cp,.slice B m cq,.int .i64 d.lp],.agg #[.int .i64 k,.int .i64 x,.int .i64 y,.int .i64 sg,.bool ov]] w fun e w'=>e = .returned (.int .i64 (curlableC d x))∧Below w.heap.size w w':=by
 subst hm;exact curlable_any d A B cp cq k x y sg ov w hg hn hlp hx
end Go.Proofs.YtdgliimmnnhhjaaGreatDoor
end
section
namespace Go.Proofs.YtdgliimmnnhhjaaGreatDoor
open Go.RowKit
structure Cls (C:World→Prop) where
 w:World
 ok:C w
theorem wp_region_cls {P:Program}(C:World→Prop){id:Nat}{Q:Exit→Act→World→Prop}{a:Act}{w:World}{l:List Oper}(hm:P.follows .mixedOrders=true)(hB:Region.lexB .any l.toArray=true)
 (hC:C { w with drawn:=w.drawn+1 })
 (h:Nonempty (Cls C)→wpQuiet P l.toArray (fun w'=>∃p:Cls C,w'=p.w) (fun a'=>∀w',(∃p:Cls C,w'=p.w)→Q .normal a' w') l a):(Code.region id l.toArray true).wp P Q a w :=
 wp_region_quiet (C:=fun w'=>∃p:Cls C,w'=p.w) hm hB ⟨⟨_,hC⟩,rfl⟩ (by simpa using h ⟨⟨_,hC⟩⟩)
theorem calls_cls {P:Program}{C:World→Prop}{f:FuncId}{args:Array Value}{w:World}{v:Value}{R:Ending→World→Prop}(h:Calls P f args w R)(hR:∀e w',R e w'→e = .returned v∧C w') :
 Calls P f args w fun e w''=>e = .returned v∧∃p:Cls C,w''=p.w :=
 h.mono fun e w' hr=>let ⟨h1,h2⟩:=hR e w' hr;⟨h1,⟨w',h2⟩,rfl⟩
end Go.Proofs.YtdgliimmnnhhjaaGreatDoor
end
section
namespace Go.Proofs.YtdgliimmnnhhjaaGreatDoor
open Go.RowKit
def ahd (gs:List Nat)(h k:Nat):Nat:=((gs.take k).filter (fun c=>decide (c<h / 4))).length
theorem ahd_le (gs:List Nat)(h k:Nat):ahd gs h k≤k:=by
 unfold ahd
 have:=List.length_filter_le (fun c=>decide (c<h / 4)) (gs.take k)
 have:=List.length_take_le k gs
 omega
theorem ahd_succ {gs:List Nat}{k:Nat}(hk:k<gs.length)(h:Nat):ahd gs h (k+1)=ahd gs h k+if gs.getD k 0<h / 4 then 1 else 0:=by
 unfold ahd
 rw [List.take_succ_eq_append_getElem hk,List.filter_append,List.length_append,List.getD_eq_getElem?_getD,List.getElem?_eq_getElem hk]
 by_cases e:gs[k]<h / 4 <;> simp [List.filter_cons,e]
theorem ahd_all {gs:List Nat}{k:Nat}(hk:gs.length≤k)(h:Nat):ahd gs h k=(gs.filter (fun c=>decide (c<h / 4))).length:=by
 unfold ahd
 rw [List.take_of_length_le hk]
theorem nats_at {w:World}{A:Option Addr}{n k:Nat}{gs:List Nat}(h:IntsAt w A n (nats gs))(hk:k<n) :
 ∃b o,A=some ⟨b,o,none⟩∧w.cell? ⟨b,o+k,none⟩=some (.int .i64 (gs.getD k 0:Nat)):=by
 obtain ⟨b,o,e,hc⟩:=h.at_ hk
 refine ⟨b,o,e,hc.trans ?_⟩
 have hl:=h.len
 unfold nats at hl ⊢
 rw [List.length_map] at hl
 rw [List.getD_eq_getElem?_getD,List.getD_eq_getElem?_getD,List.getElem?_map,List.getElem?_eq_getElem (by omega)];rfl
set_option maxRecDepth 100000 in
set_option maxHeartbeats 1000000 in
theorem shifted_any (gs:List Nat)(A:Option Addr)(n c h:Nat)(w:World)(hg:IntsAt w A n (nats gs))(hn:n≤100)(hh:h≤100000)(hf:Pl.Few gs) :
 Calls Tryz.prog 74 #[.int .i64 (h:Int),.slice A n c] w fun e w'=>e = .returned (.int .i64 (Pl.shf gs h:Nat))∧w'=w:=by
 have hl:=hg.len
 unfold nats at hl
 rw [List.length_map] at hl
 have HL:=hide hl
 have HG:=hide hg
 clear hl hg
 go_enter Tryz.func74,Tryz.ntmps74
 go_wp2
 go_loop [5,10] (fun b i=>∃k:Nat,k≤n∧i = .int .i64 k∧b = .int .i64 (4 * (ahd gs h k:Nat))) (fun _ i=>n - (intOf i).toNat)
 case atStart=>exact ⟨0,by omega,rfl,rfl⟩
 case round =>
  obtain ⟨k,hk,rfl,rfl⟩:=hrel
  have hle:=ahd_le gs h k
  by_cases hlt:k<n
  ·obtain ⟨b,o,rfl,hc⟩:=nats_at HG.out hlt
   have HS:=hide (ahd_succ (gs:=gs) (k:=k) (by have:=HL.out;omega) h)
   obtain ⟨x,hx⟩:∃x,x=gs.getD k 0:=⟨_,rfl⟩
   rw [←hx] at hc HS
   clear hx
   by_cases ht:x<h / 4
   ·have HT:=hide ht
    have t1:decide ((x:Int)<(h:Int) / 4)=true:=by simp;omega
    clear ht
    go_wp2
    go_round
    case rel=>exact ⟨k+1,by omega,by go_num,by rw [HS.out,if_pos HT.out];go_num⟩
    case measure=>simp [intOf];omega
   ·have HT:=hide ht
    have t1:decide ((x:Int)<(h:Int) / 4)=false:=by simp;omega
    clear ht
    go_wp2
    go_round
    case rel=>exact ⟨k+1,by omega,by go_num,by rw [HS.out,if_neg HT.out];go_num⟩
    case measure=>simp [intOf];omega
  ·go_wp2
   go_ret
   refine ⟨ret_int ?_,rfl⟩
   have h1:=ahd_all (gs:=gs) (k:=k) (by have:=HL.out;omega) h
   have h2:=Pl.shf_le hf h
   unfold Pl.shf
   rw [h1]
   omega
end Go.Proofs.YtdgliimmnnhhjaaGreatDoor
end
section
namespace Go.Proofs.YtdgliimmnnhhjaaGreatDoor
open Go Go.RowKit
def plc (c f s:Nat):Nat:=4 * c+(s+4 - f) % 4
theorem place_any (c f s:Nat)(w:World)(hc:c≤1000)(hf:f<4)(hs:s<4) :
 Calls Tryz.prog 79 #[.int .i64 (c:Int),.int .i64 (f:Int),.int .i64 (s:Int)] w fun e w'=>e = .returned (.int .i64 (plc c f s:Nat))∧w'=w:=by
 go_enter Tryz.func79,Tryz.ntmps79
 go_wp2
 go_ret
 exact ⟨ret_int (by unfold plc;omega),rfl⟩
theorem place_i (c f s:Int)(w:World)(hc:0≤c∧c≤1000)(hf:0≤f∧f<4)(hs:0≤s∧s<4) :
 Calls Tryz.prog 79 #[.int .i64 c,.int .i64 f,.int .i64 s] w fun e w'=>e = .returned (.int .i64 (plc c.toNat f.toNat s.toNat:Nat))∧w'=w:=by
 obtain ⟨a,rfl⟩:=Int.eq_ofNat_of_zero_le hc.1
 obtain ⟨b,rfl⟩:=Int.eq_ofNat_of_zero_le hf.1
 obtain ⟨k,rfl⟩:=Int.eq_ofNat_of_zero_le hs.1
 exact place_any a b k w (by omega) (by omega) (by omega)
def fwd (d:Pl.Dg)(x:Int):Bool:=if x = -1 then true else if 0≤x then Pl.out d x.toNat else false
theorem forward_any (d:Pl.Dg)(A B:Option Addr)(cp q cq:Nat)(l:Value)(x:Int)(w:World)(hx:x<4 * (d.n:Int))(hn:d.n≤1000)(hs:IntsAt w A d.n d.sg) :
 Calls Tryz.prog 103 #[.agg #[.slice A d.n cp,.slice B q cq,l],.int .i64 x] w fun e w'=>e = .returned (.bool (fwd d x))∧Below w.heap.size w w':=by
 have b0:Below w.heap.size w (w.alloc (.cells #[.slice A d.n cp,.slice B q cq,l] 24)):=(Below.refl _ _).alloc (Nat.le_refl _) _
 have B0:=hide b0
 have HS:=hide hs
 clear b0 hs
 by_cases h1:x = -1
 ·subst h1
  go_enter Tryz.func103,Tryz.ntmps103
  go_wp2
  go_ret
  exact ⟨rfl,B0.out⟩
 ·have t1:(x == -1)=false:=by rw [beq_eq_false_iff_ne];exact h1
  have H1:=hide h1
  clear h1
  by_cases h2:0≤x
  ·obtain ⟨k,rfl⟩:=Int.eq_ofNat_of_zero_le h2
   have hk:k<4 * d.n:=by omega
   have t2:decide (0≤(k:Int))=true:=by simp
   go_enter Tryz.func103,Tryz.ntmps103
   go_wp2_with fail
   refine (out2_n d A B d.n cp q cq l k _ rfl hk hn (HS.out.keep B0.out)).mono ?_
   rintro e w1 ⟨rfl,hb1⟩
   have B1:=hide (B0.out.trans (hb1.mono B0.out.size))
   clear hb1
   have e1:fwd d (k:Int)=Pl.out d k:=by unfold fwd;rw [if_neg H1.out,if_pos h2,Int.toNat_natCast]
   have E1:=hide e1
   clear e1 t1 t2
   go_wp2
   go_ret
   exact ⟨by rw [E1.out];rfl,B1.out⟩
  ·have t2:decide (0≤x)=false:=by simpa using h2
   have e1:fwd d x=false:=by unfold fwd;rw [if_neg H1.out,if_neg h2]
   have E1:=hide e1
   clear e1 h2
   go_enter Tryz.func103,Tryz.ntmps103
   go_wp2
   go_ret
   exact ⟨by rw [E1.out];rfl,B0.out⟩
end Go.Proofs.YtdgliimmnnhhjaaGreatDoor
end
section
namespace Go.Proofs.YtdgliimmnnhhjaaGreatDoor.Pl
def sm (f:Nat→Int):Nat→Int
 | 0=>0
 | k+1=>sm f k+f k
theorem sum_append' (l r:List Int):(l++r).sum=l.sum+r.sum:=by simp
theorem sum_one (x:Int):[x].sum=x:=by simp
theorem left_sum_one (f:Nat→Int)(c:Nat):∀k,((left k [c]).map f).sum=sm f k - if c<k then f c else 0
 | 0=>by simp [left_zero,sm]
 | k + 1 => by
   rw [left_succ,List.map_append,sum_append',left_sum_one f c k]
   show _=sm f k+f k - _
   by_cases h:k=c
   ·subst h;simp;try omega
   ·have:([c].contains k)=false:=by simp [h]
    rw [this]
    simp only [Bool.false_eq_true,if_false,List.map_cons,List.map_nil,sum_one]
    by_cases h2:c<k
    ·rw [if_pos h2,if_pos (by omega)];omega
    ·rw [if_neg h2,if_neg (by omega)];omega
theorem left_sum_two (f:Nat→Int){x y:Nat}(hxy:x<y):∀k,((left k [x,y]).map f).sum=sm f k - (if x<k then f x else 0) - if y<k then f y else 0
 | 0=>by simp [left_zero,sm]
 | k + 1 => by
   rw [left_succ,List.map_append,sum_append',left_sum_two f hxy k]
   show _=sm f k+f k - _ - _
   by_cases h:k=x
   ·subst h
    have:([k,y].contains k)=true:=by simp
    rw [this]
    simp only [if_true,List.map_nil,List.sum_nil]
    rw [if_neg (Nat.lt_irrefl _),if_pos (Nat.lt_succ_self _),if_neg (by omega),if_neg (by omega)]
    omega
   ·by_cases h3:k=y
    ·subst h3
     have:([x,k].contains k)=true:=by simp
     rw [this]
     simp only [if_true,List.map_nil,List.sum_nil]
     rw [if_pos hxy,if_neg (Nat.lt_irrefl k),if_pos (show x<k+1 by omega),if_pos (Nat.lt_succ_self k)]
     omega
    ·have:([x,y].contains k)=false:=by simp [h,h3]
     rw [this]
     simp only [Bool.false_eq_true,if_false,List.map_cons,List.map_nil,sum_one]
     by_cases h2:x<k <;> by_cases h4:y<k
     ·rw [if_pos h2,if_pos (show x<k+1 by omega),if_pos h4,if_pos (show y<k+1 by omega)];omega
     ·rw [if_pos h2,if_pos (show x<k+1 by omega),if_neg h4,if_neg (show ¬y<k+1 by omega)];omega
     ·omega
     ·rw [if_neg h2,if_neg (show ¬x<k+1 by omega),if_neg h4,if_neg (show ¬y<k+1 by omega)];omega
theorem sm_list (l:List Int):sm (fun c=>l.getD c 0) l.length=l.sum:=by
 have key:∀(l:List Int) (k:Nat),k≤l.length→sm (fun c=>l.getD c 0) k=(l.take k).sum:=by
  intro l k
  induction k with
  | zero=>intro _;rfl
  | succ k ih =>
    intro h
    show sm _ k+l.getD k 0=_
    rw [ih (by omega),List.take_add_one,List.getElem?_eq_getElem (by omega),sum_append',List.getD_eq_getElem?_getD,List.getElem?_eq_getElem (by omega)]
    simp
 rw [key l l.length (Nat.le_refl _),List.take_length]
theorem shrS_one (sg:List Int){c:Nat}(h:c<sg.length):(shrS [c] sg).sum=sg.sum - sg.getD c 0:=by
 unfold shrS
 rw [left_sum_one,if_pos h,sm_list]
theorem shrS_two (sg:List Int){x y:Nat}(hxy:x<y)(h:y<sg.length):(shrS [x,y] sg).sum=sg.sum - sg.getD x 0 - sg.getD y 0:=by
 unfold shrS
 rw [left_sum_two _ hxy,if_pos (by omega),if_pos h,sm_list]
theorem lens_signs {d:Dg}(hd:Wf d){h:Nat}(hh:h<4 * d.n)(hg:nx d (nx d h)=h)(hp:h % 2=d.m h % 2):d.s (h / 4)+d.s (nx d h / 4)=0:=by
 have hm:=hd.lt h hh
 have w1:=hd.way h hh
 have hgl:nx d h<4 * d.n:=tn_lt hm
 have w2:=hd.way (nx d h) hgl
 have s1:=hd.sign (h / 4) (by omega)
 have s2:=hd.sign (d.m h / 4) (by omega)
 have e1:d.m (nx d h) / 4=h / 4:=by
  have:=congrArg (· / 4) hg
  simp only [nx,tn_div] at this
  exact this
 have e2:d.m (nx d h) % 4=(h % 4+1) % 4:=by
  have:=congrArg (· % 4) hg
  unfold nx at this
  simp only [tn_mod] at this
  rw [←this]
  unfold nx
  omega
 have e3:nx d h / 4=d.m h / 4:=by unfold nx;rw [tn_div]
 have e4:nx d h % 4=(d.m h % 4+3) % 4:=by unfold nx;rw [tn_mod]
 rw [e3]
 unfold out at w1 w2
 rw [e1,e2,e3,e4] at w2
 generalize d.s (h / 4)=s at *
 generalize d.s (d.m h / 4)=t at *
 have ha:h % 4=0∨h % 4=1∨h % 4=2∨h % 4=3:=by omega
 have hb:d.m h % 4=0∨d.m h % 4=1∨d.m h % 4=2∨d.m h % 4=3:=by omega
 rcases ha with a | a | a | a <;> rcases hb with b | b | b | b <;> (first | (exfalso;omega) | skip) <;> rw [a,b] at w1 w2 <;> rcases s1 with rfl | rfl <;> rcases s2 with rfl | rfl <;> simp at w1 w2 ⊢
end Go.Proofs.YtdgliimmnnhhjaaGreatDoor.Pl
end
section
namespace Go.Proofs.YtdgliimmnnhhjaaGreatDoor.Pl
def up (y c:Nat):Nat:=if c<y then c else c+1
end Go.Proofs.YtdgliimmnnhhjaaGreatDoor.Pl
end
section
namespace Go.Proofs.YtdgliimmnnhhjaaGreatDoor.Pl
def lx:List Int→List Int→Int
 | [],[]=>0
 | [],_ :: _ => -1
 | _ :: _,[]=>1
 | x :: l,y :: m=>if x<y then -1 else if y<x then 1 else lx l m
theorem lx_self:∀l,lx l l=0
 | []=>rfl
 | x :: l=>by unfold lx;rw [if_neg (by omega),if_neg (by omega),lx_self l]
theorem lx_eq:∀{l m:List Int},lx l m=0→l=m
 | [],[],_=>rfl
 | [],_ :: _,h=>by simp [lx] at h
 | _ :: _,[],h=>by simp [lx] at h
 | x :: l, y :: m, h => by
   unfold lx at h
   by_cases h1:x<y
   ·rw [if_pos h1] at h;omega
   ·by_cases h2:y<x
    ·rw [if_neg h1,if_pos h2] at h;omega
    ·rw [if_neg h1,if_neg h2] at h
     rw [lx_eq h,show x=y by omega]
theorem lx_neg:∀(l m:List Int),lx m l = - lx l m
 | [],[]=>rfl
 | [],_ :: _=>rfl
 | _ :: _,[]=>rfl
 | x :: l, y :: m => by
   unfold lx
   by_cases h1:x<y
   ·rw [if_pos h1,if_neg (by omega),if_pos h1];rfl
   ·by_cases h2:y<x
    ·rw [if_pos h2,if_neg h1,if_pos h2]
    ·rw [if_neg h1,if_neg h2,if_neg h1,if_neg h2,lx_neg l m]
theorem lx_trans:∀{l m k:List Int},lx l m≤0→lx m k≤0→lx l k≤0
 | [],[],k,_,h=>h
 | [],_ :: _,[],_,_=>by simp [lx]
 | [],_ :: _,_ :: _,_,_=>by simp [lx]
 | _ :: _,[],_,h,_=>by simp [lx] at h
 | _ :: _,_ :: _,[],_,h=>by simp [lx] at h
 | x :: l, y :: m, z :: k, h1, h2 => by
   unfold lx at h1 h2 ⊢
   by_cases a1:x<y
   ·by_cases b1:y<z
    ·rw [if_pos (by omega)];omega
    ·by_cases b2:z<y
     ·rw [if_neg b1,if_pos b2] at h2;omega
     ·rw [if_pos (by omega)];omega
   ·by_cases a2:y<x
    ·rw [if_neg a1,if_pos a2] at h1;omega
    ·rw [if_neg a1,if_neg a2] at h1
     by_cases b1:y<z
     ·rw [if_pos (by omega)];omega
     ·by_cases b2:z<y
      ·rw [if_neg b1,if_pos b2] at h2;omega
      ·rw [if_neg b1,if_neg b2] at h2
       rw [if_neg (by omega),if_neg (by omega)];exact lx_trans h1 h2
theorem lx_anti {l m:List Int}(h1:lx l m≤0)(h2:lx m l≤0):l=m:=lx_eq (by rw [lx_neg l m] at h2;omega)
theorem lx_app:∀{l m:List Int},l.length=m.length→∀l' m',lx (l++l') (m++m')=if lx l m=0 then lx l' m' else lx l m
 | [],[],_,l',m'=>by simp [lx]
 | [],_ :: _,h,_,_=>by simp at h
 | _ :: _,[],h,_,_=>by simp at h
 | x :: l, y :: m, h, l', m' => by
   have ih:=lx_app (l:=l) (m:=m) (by simpa using h) l' m'
   have e:∀(x y:Int) (l m:List Int),lx (x :: l) (y :: m)=if x<y then -1 else if y<x then 1 else lx l m:=fun _ _ _ _=>rfl
   rw [List.cons_append,List.cons_append,e,e]
   by_cases h1:x<y
   ·rw [if_pos h1,if_pos h1,if_neg (by omega)]
   ·by_cases h2:y<x
    ·rw [if_neg h1,if_pos h2,if_neg h1,if_pos h2,if_neg (by omega)]
    ·rw [if_neg h1,if_neg h2,if_neg h1,if_neg h2,ih]
def kle (c c':List Int):Prop:=c.length<c'.length∨(c.length=c'.length∧lx c c'≤0)
theorem kle_anti {c c':List Int}(h1:kle c c')(h2:kle c' c):c=c':=by
 rcases h1 with h1 | ⟨h1,h1'⟩ <;> rcases h2 with h2 | ⟨h2,h2'⟩
 ·omega
 ·omega
 ·omega
 ·exact lx_anti h1' h2'
theorem kle_trans {c c' c'':List Int}(h1:kle c c')(h2:kle c' c''):kle c c'':=by
 rcases h1 with h1 | ⟨h1,h1'⟩ <;> rcases h2 with h2 | ⟨h2,h2'⟩
 ·exact .inl (by omega)
 ·exact .inl (by omega)
 ·exact .inl (by omega)
 ·exact .inr ⟨by omega,lx_trans h1' h2'⟩
theorem kle_total (c c':List Int):kle c c'∨kle c' c:=by
 rcases Nat.lt_trichotomy c.length c'.length with h | h | h
 ·exact .inl (.inl h)
 ·rcases Int.le_total (lx c c') 0 with h1 | h1
  ·exact .inl (.inr ⟨h,h1⟩)
  ·exact .inr (.inr ⟨h.symm,by rw [lx_neg c c'];omega⟩)
 ·exact .inr (.inl h)
structure Pc where
 code:List Int
 order:List Nat
 roots:Int
def PcOk (d:Dg)(p:Pc):Prop:=∃r,r<d.n∧p.code=code d r∧p.order=ord d r∧∀q,Comp d r q→lx (code d r) (code d q)≤0
structure Pcs (d:Dg) (ps:List Pc):Prop where
 ok:∀p,p ∈ ps→PcOk d p
 nd:(ps.flatMap Pc.order).Nodup
 all:∀c,c<d.n→∃p,p ∈ ps∧c ∈ p.order
def Srt (ps:List Pc):Prop:=ps.Pairwise (fun p q=>kle p.code q.code)
def pcode (lp:Nat)(ps:List Pc):List Int:=(lp:Int) :: (ps.length:Int) :: ps.flatMap (fun p=>(p.order.length:Int) :: p.code)
theorem Pcs.uniq {d:Dg}{ps:List Pc}(h:Pcs d ps){i j c:Nat}{p q:Pc}(hi:ps[i]? = some p)(hj:ps[j]? = some q)(hp:c ∈ p.order)(hq:c ∈ q.order):i=j:=by
 have h1:=(List.pairwise_flatMap.1 h.nd).2
 rw [List.pairwise_iff_getElem] at h1
 obtain ⟨li,ei⟩:=List.getElem?_eq_some_iff.1 hi
 obtain ⟨lj,ej⟩:=List.getElem?_eq_some_iff.1 hj
 rcases Nat.lt_trichotomy i j with e | e | e
 ·exact absurd rfl (h1 i j li lj e c (by rw [ei];exact hp) c (by rw [ej];exact hq))
 ·exact e
 ·exact absurd rfl (h1 j i lj li e c (by rw [ej];exact hq) c (by rw [ei];exact hp))
theorem Pcs.at_ {d:Dg}{ps:List Pc}(h:Pcs d ps){c:Nat}(hc:c<d.n):∃(i:Nat) (p:Pc),ps[i]? = some p∧c ∈ p.order:=by
 obtain ⟨p,hp,hm⟩:=h.all c hc
 obtain ⟨i,hi,rfl⟩:=List.getElem_of_mem hp
 exact ⟨i,_,List.getElem?_eq_getElem hi,hm⟩
theorem PcOk.len {d:Dg}{p:Pc}(h:PcOk d p):p.code.length=5 * p.order.length:=by
 obtain ⟨r,_,e1,e2,_⟩:=h
 rw [e1,e2,code_len]
theorem perm_of_corr {α:Type}:∀(K L:List α) (π:Nat→Nat),(∀i,i<K.length→π i<L.length∧L[π i]? = K[i]?)→(∀i j,i<K.length→j<K.length→π i=π j→i=j)→∃r,L.Perm (K++r)
 | [],L,_,_,_=>⟨L,by simp⟩
 | k :: K, L, π, h, hinj => by
   obtain ⟨hl,he⟩:=h 0 (by simp)
   have he':L[π 0]=k:=by
    rw [List.getElem?_eq_getElem hl] at he
    simpa using he
   have hL:L.Perm (k :: L.eraseIdx (π 0)):=by
    have h1:L=L.take (π 0)++k :: L.drop (π 0+1):=by
     conv=>lhs;rw [←List.take_append_drop (π 0) L]
     rw [List.drop_eq_getElem_cons hl,he']
    have h2:L.eraseIdx (π 0)=L.take (π 0)++L.drop (π 0+1):=List.eraseIdx_eq_take_drop_succ _ _
    rw [h2]
    conv=>lhs;rw [h1]
    exact List.perm_middle
   have hlen:(L.eraseIdx (π 0)).length+1=L.length:=by rw [List.length_eraseIdx,if_pos hl];omega
   have key:∀i,i<K.length→π (i+1)≠π 0:=fun i hi e=>by
    have:=hinj (i+1) 0 (by simp;omega) (by simp) e
    omega
   obtain ⟨r,hr⟩:=perm_of_corr K (L.eraseIdx (π 0)) (fun i=>if π (i+1)<π 0 then π (i+1) else π (i+1) - 1) (fun i hi=>by
    obtain ⟨h1,h2⟩:=h (i+1) (by simp;omega)
    have hne:=key i hi
    rw [List.getElem?_cons_succ] at h2
    by_cases e:π (i+1)<π 0
    ·simp only [if_pos e]
     exact ⟨by omega,by rw [List.getElem?_eraseIdx_of_lt e,h2]⟩
    ·simp only [if_neg e]
     refine ⟨by omega,?_⟩
     rw [List.getElem?_eraseIdx_of_ge (by omega),show π (i+1) - 1+1=π (i+1) by omega,h2]) (fun i j hi hj e=>by
    have hne1:=key i hi
    have hne2:=key j hj
    have:π (i+1)=π (j+1):=by
     split at e <;> split at e <;> omega
    have:=hinj (i+1) (j+1) (by simp;omega) (by simp;omega) this
    omega)
   exact ⟨r,hL.trans (hr.cons k)⟩
section
variable {a b:Dg} {ps qs:List Pc} {σ:Nat→Nat}
theorem Pcs.corr (I:Iso a b σ)(ha:Wf a)(hb:Wf b)(hp:Pcs a ps)(hq:Pcs b qs):ps.length≤qs.length∧∃r,(qs.map Pc.code).Perm (ps.map Pc.code++r):=by
 obtain ⟨τ,J,t1,t2⟩:=I.symm ha
 have hw:∀i,∃j,i<ps.length→∃(p q:Pc),ps[i]? = some p∧qs[j]? = some q∧p.code=q.code∧∃r,r ∈ p.order∧σ r ∈ q.order∧r<a.n:=fun i=>by
  by_cases hi:i<ps.length
  ·obtain ⟨r,hr,e1,e2,hl⟩:=hp.ok _ (List.getElem_mem hi)
   have hsr:σ r<b.n:=by rw [←I.n];exact I.lt r hr
   obtain ⟨j,q,hj,hm⟩:=hq.at_ hsr
   refine ⟨j,fun _=>⟨_,q,List.getElem?_eq_getElem hi,hj,?_,r,by rw [e2];exact (ord_ok ha hr).root,hm,hr⟩⟩
   obtain ⟨r',hr',f1,f2,fl⟩:=hq.ok q (List.mem_of_getElem? hj)
   rw [f2,ord_mem hb hr'] at hm
   have k1:lx (code b r') (code b (σ r))≤0:=fl _ hm
   have ht:τ r'<a.n:=by rw [I.n];exact J.lt r' hr'
   have k2:Comp a r (τ r'):=by
    have:Comp b (σ r) (σ (τ r')):=by rw [t2 r' (by rw [I.n];exact hr')];exact comp_symm hb hr' hm
    exact (I.comp ha hb hr ht).1 this
   have k3:=hl _ k2
   rw [I.code ha hr] at k1
   rw [J.code hb hr'] at k3
   rw [e1,f1]
   exact lx_anti k3 k1
  ·exact ⟨0,fun h=>absurd h hi⟩
 let π:=fun i=>Classical.choose (hw i)
 have h1:∀i,i<ps.length→∃(p q:Pc),ps[i]? = some p∧qs[π i]? = some q∧p.code=q.code∧∃r,r ∈ p.order∧σ r ∈ q.order∧r<a.n:=fun i hi=>Classical.choose_spec (hw i) hi
 have hlt:∀i,i<ps.length→π i<qs.length:=fun i hi=>by
  obtain ⟨p,q,_,h,_⟩:=h1 i hi
  exact (List.getElem?_eq_some_iff.1 h).1
 have hinj:∀i j,i<ps.length→j<ps.length→π i=π j→i=j:=fun i j hi hj e=>by
  obtain ⟨p,q,e1,e2,_,r,m1,m2,hr⟩:=h1 i hi
  obtain ⟨p',q',f1,f2,_,r',n1,n2,hr'⟩:=h1 j hj
  rw [e] at e2
  rw [e2] at f2
  injection f2 with f2
  subst f2
  obtain ⟨x,hx,x1,x2,_⟩:=hq.ok q (List.mem_of_getElem? e2)
  rw [x2,ord_mem hb hx] at m2 n2
  have k1:Comp a r r':=(I.comp ha hb hr hr').1 ((comp_symm hb hx m2).trans n2)
  obtain ⟨y,hy,y1,y2,_⟩:=hp.ok p (List.mem_of_getElem? e1)
  refine hp.uniq (c:=r') e1 f1 ?_ n1
  rw [y2,ord_mem ha hy] at m1 ⊢
  exact m1.trans k1
 refine ⟨pigeon _ _ π hlt hinj,perm_of_corr _ _ π (fun i hi=>?_) (fun i j hi hj e=>hinj i j (by simpa using hi) (by simpa using hj) e)⟩
 rw [List.length_map] at hi
 obtain ⟨p,q,e1,e2,e3,_⟩:=h1 i hi
 refine ⟨by rw [List.length_map];exact hlt i hi,?_⟩
 rw [List.getElem?_map,List.getElem?_map,e1,e2]
 simp [e3]
theorem codes_eq (I:Iso a b σ)(ha:Wf a)(hb:Wf b)(hp:Pcs a ps)(hq:Pcs b qs)(sp:Srt ps)(sq:Srt qs):ps.map Pc.code=qs.map Pc.code:=by
 obtain ⟨τ,J,_,_⟩:=I.symm ha
 obtain ⟨l1,r,hr⟩:=hp.corr I ha hb hq
 obtain ⟨l2,_⟩:=hq.corr J hb ha hp
 have:r=[]:=by
  have:=hr.length_eq
  rw [List.length_append,List.length_map,List.length_map] at this
  exact List.length_eq_zero_iff.1 (by omega)
 subst this
 rw [List.append_nil] at hr
 exact (List.Perm.eq_of_pairwise (le:=kle) (fun x y _ _ h1 h2=>kle_anti h1 h2) (by rw [List.pairwise_map];exact sq) (by rw [List.pairwise_map];exact sp) hr).symm
theorem pcode_of {d:Dg}{ps:List Pc}(h:Pcs d ps)(lp:Nat):pcode lp ps=(lp:Int) :: ((ps.map Pc.code).length:Int) :: (ps.map Pc.code).flatMap (fun c=>((c.length / 5:Nat):Int) :: c):=by
 unfold pcode
 rw [List.length_map]
 congr 2
 have:∀(l:List Pc),(∀p,p ∈ l→PcOk d p)→l.flatMap (fun p=>(p.order.length:Int) :: p.code)=(l.map Pc.code).flatMap (fun c=>((c.length / 5:Nat):Int) :: c):=by
  intro l
  induction l with
  | nil=>intro _;rfl
  | cons p l ih =>
    intro hl
    rw [List.map_cons,List.flatMap_cons,List.flatMap_cons,ih (fun q hq=>hl q (by simp [hq])),(hl p (by simp)).len,show 5 * p.order.length / 5=p.order.length by omega]
 exact this ps h.ok
theorem Iso.pcode (I:Iso a b σ)(ha:Wf a)(hb:Wf b)(hp:Pcs a ps)(hq:Pcs b qs)(sp:Srt ps)(sq:Srt qs):Pl.pcode a.lp ps=Pl.pcode b.lp qs:=by
 rw [pcode_of hp,pcode_of hq,codes_eq I ha hb hp hq sp sq,I.lp]
theorem codes_of {ps qs:List Pc}(h:∀p,p ∈ ps→p.code.length=5 * p.order.length)(h':∀p,p ∈ qs→p.code.length=5 * p.order.length):ps.flatMap (fun p=>(p.order.length:Int) :: p.code)=qs.flatMap (fun p=>(p.order.length:Int) :: p.code)→ps.length=qs.length→ps.map Pc.code=qs.map Pc.code:=by
 induction ps generalizing qs with
 | nil =>
   intro _ hl
   rw [List.length_nil] at hl
   rw [List.length_eq_zero_iff.1 hl.symm]
 | cons p ps ih =>
   cases qs with
   | nil=>intro _ hl;simp at hl
   | cons q qs =>
     intro he hl
     rw [List.flatMap_cons,List.flatMap_cons,List.cons_append,List.cons_append] at he
     injection he with h1 h2
     have hlen:p.code.length=q.code.length:=by rw [h p (by simp),h' q (by simp)];omega
     obtain ⟨h3,h4⟩:=List.append_inj h2 hlen
     rw [List.map_cons,List.map_cons,h3,ih (fun x hx=>h x (by simp [hx])) (fun x hx=>h' x (by simp [hx])) h4 (by simpa using hl)]
theorem iso_of_codeP (ha:Wf a)(hb:Wf b)(hp:Pcs a ps)(hq:Pcs b qs)(h:Pl.pcode a.lp ps=Pl.pcode b.lp qs):∃σ,Iso a b σ∧ps.length=qs.length∧(∀(i:Nat) (p q:Pc),ps[i]? = some p→qs[i]? = some q→p.order.length=q.order.length)∧∀(c i k:Nat) (p q:Pc) (c':Nat),c<a.n→ps[i]? = some p→qs[i]? = some q→p.order[k]? = some c→q.order[k]? = some c'→σ c=c':=by
 unfold Pl.pcode at h
 injection h with hlp h
 injection h with hlen h
 have hlen':ps.length=qs.length:=by omega
 have hc:=codes_of (fun p hp'=>(hp.ok p hp').len) (fun p hq'=>(hq.ok p hq').len) h hlen'
 have hci:∀(i:Nat) (p q:Pc),ps[i]? = some p→qs[i]? = some q→p.code=q.code:=fun i p q h1 h2=>by
  have:=congrArg (fun l=>l[i]?) hc
  simpa [List.getElem?_map,h1,h2] using this
 -- crossings that have the same place
 have ex:∀c,∃c',c<a.n→∃(i k:Nat) (p q:Pc),ps[i]? = some p∧qs[i]? = some q∧p.order[k]? = some c∧q.order[k]? = some c':=fun c=>by
  by_cases hcn:c<a.n
  ·obtain ⟨i,p,hi,hm⟩:=hp.at_ hcn
   obtain ⟨k,hk,rfl⟩:=List.getElem_of_mem hm
   have hil:=(List.getElem?_eq_some_iff.1 hi).1
   have hq':qs[i]? = some (qs[i]'(by omega)):=List.getElem?_eq_getElem (by omega)
   have e:=hci i p _ hi hq'
   have l1:=(hp.ok p (List.mem_of_getElem? hi)).len
   have l2:=(hq.ok _ (List.mem_of_getElem? hq')).len
   rw [e] at l1
   exact ⟨(qs[i]'(by omega)).order[k]'(by omega),fun _=>⟨i,k,p,_,hi,hq',List.getElem?_eq_getElem hk,List.getElem?_eq_getElem (by omega)⟩⟩
  ·exact ⟨0,fun h=>absurd h hcn⟩
 let σ:=fun c=>Classical.choose (ex c)
 have hσ:∀c,c<a.n→∃(i k:Nat) (p q:Pc),ps[i]? = some p∧qs[i]? = some q∧p.order[k]? = some c∧q.order[k]? = some (σ c):=fun c hc=>Classical.choose_spec (ex c) hc
 have pnd:∀(d:Dg) (_:Wf d) (p:Pc),PcOk d p→p.order.Nodup:=fun d hd p h=>by
  obtain ⟨r,hr,_,e,_⟩:=h
  rw [e];exact (ord_ok hd hr).nd
 have one:∀(o:List Nat) (k k' c:Nat),o.Nodup→o[k]? = some c→o[k']? = some c→k=k':=fun o k k' c hn h1 h2=>by
  obtain ⟨l1,e1⟩:=List.getElem?_eq_some_iff.1 h1
  obtain ⟨l2,e2⟩:=List.getElem?_eq_some_iff.1 h2
  exact (List.getElem_inj hn).1 (e1.trans e2.symm)
 -- the place decides
 have fit:∀c (i k:Nat) (p q:Pc) (c':Nat),c<a.n→ps[i]? = some p→qs[i]? = some q→p.order[k]? = some c→q.order[k]? = some c'→σ c=c':=fun c i k p q c' hc h1 h2 h3 h4=>by
  obtain ⟨i2,k2,p2,q2,g1,g2,g3,g4⟩:=hσ c hc
  obtain rfl:=hp.uniq h1 g1 (List.mem_of_getElem? h3) (List.mem_of_getElem? g3)
  rw [h1] at g1;injection g1 with g1;subst g1
  rw [h2] at g2;injection g2 with g2;subst g2
  obtain rfl:=one _ k k2 c (pnd a ha p (hp.ok p (List.mem_of_getElem? h1))) h3 g3
  rw [h4] at g4;injection g4 with g4;exact g4.symm
 have blt:∀(q:Pc) (c:Nat),q ∈ qs→c ∈ q.order→c<b.n:=fun q c h1 h2=>by
  obtain ⟨r,hr,_,e,_⟩:=hq.ok q h1
  rw [e] at h2
  exact ((ord_ok hb hr).mem c h2).1
 have inj:∀c c',c<a.n→c'<a.n→σ c=σ c'→c=c':=fun c c' hc hc' e=>by
  obtain ⟨i,k,p,q,h1,h2,h3,h4⟩:=hσ c hc
  obtain ⟨i2,k2,p2,q2,g1,g2,g3,g4⟩:=hσ c' hc'
  rw [←e] at g4
  obtain rfl:=hq.uniq h2 g2 (List.mem_of_getElem? h4) (List.mem_of_getElem? g4)
  rw [h1] at g1;injection g1 with g1;subst g1
  rw [h2] at g2;injection g2 with g2;subst g2
  obtain rfl:=one _ k k2 _ (pnd b hb q (hq.ok q (List.mem_of_getElem? h2))) h4 g4
  rw [h3] at g3;injection g3
 have lt:∀c,c<a.n→σ c<b.n:=fun c hc=>by
  obtain ⟨i,k,p,q,h1,h2,h3,h4⟩:=hσ c hc
  exact blt q _ (List.mem_of_getElem? h2) (List.mem_of_getElem? h4)
 have hn:a.n=b.n:=by
  have l1:=pigeon a.n b.n σ lt inj
  have back:∀c',∃c,c'<b.n→c<a.n∧σ c=c':=fun c'=>by
   by_cases hc':c'<b.n
   ·obtain ⟨i,q,hi,hm⟩:=hq.at_ hc'
    obtain ⟨k,hk,rfl⟩:=List.getElem_of_mem hm
    have hil:=(List.getElem?_eq_some_iff.1 hi).1
    have hp':ps[i]? = some (ps[i]'(by omega)):=List.getElem?_eq_getElem (by omega)
    have e:=hci i _ q hp' hi
    have l1:=(hp.ok _ (List.mem_of_getElem? hp')).len
    have l2:=(hq.ok q (List.mem_of_getElem? hi)).len
    rw [e] at l1
    have hk':k<(ps[i]'(by omega)).order.length:=by omega
    obtain ⟨r,hr,_,eo,_⟩:=hp.ok _ (List.mem_of_getElem? hp')
    have hlt:(ps[i]'(by omega)).order[k]<a.n:=by
     have:(ps[i]'(by omega)).order[k] ∈ ord a r:=by rw [←eo];exact List.getElem_mem hk'
     exact ((ord_ok ha hr).mem _ this).1
    exact ⟨_,fun _=>⟨hlt,fit _ i k _ q _ hlt hp' hi (List.getElem?_eq_getElem hk') (List.getElem?_eq_getElem hk)⟩⟩
   ·exact ⟨0,fun h=>absurd h hc'⟩
  have l2:=pigeon b.n a.n (fun c'=>Classical.choose (back c')) (fun c' hc'=>(Classical.choose_spec (back c') hc').1) (fun x y hx hy e=>by
   have e1:=(Classical.choose_spec (back x) hx).2
   have e2:=(Classical.choose_spec (back y) hy).2
   have e':Classical.choose (back x)=Classical.choose (back y):=e
   rw [←e1,←e2,e'])
  omega
 -- what is read at a crossing
 have rd:∀c,c<a.n→∃(o o':List Nat),chk a o c=chk b o' (σ c)∧o.Nodup∧o'.Nodup∧(∀t,t<4→nb a c t ∈ o∧nb b (σ c) t ∈ o')∧(∀(j x x':Nat),o[j]? = some x→o'[j]? = some x'→σ x=x'):=fun c hc=>by
  obtain ⟨i,k,p,q,h1,h2,h3,h4⟩:=hσ c hc
  obtain ⟨r,hr,c1,o1,_⟩:=hp.ok p (List.mem_of_getElem? h1)
  obtain ⟨r',hr',c2,o2,_⟩:=hq.ok q (List.mem_of_getElem? h2)
  have e:=hci i p q h1 h2
  rw [c1,c2] at e
  unfold code at e
  rw [o1] at h3
  rw [o2] at h4
  refine ⟨ord a r,ord b r',(flat5_eq e).2 k c _ h3 h4,(ord_ok ha hr).nd,(ord_ok hb hr').nd,fun t ht=>⟨?_,?_⟩,fun j x x' hx hx'=>?_⟩
  ·exact (ord_ok ha hr).done k c (List.getElem?_eq_some_iff.1 h3).1 h3 t ht
  ·exact (ord_ok hb hr').done k _ (List.getElem?_eq_some_iff.1 h4).1 h4 t ht
  ·exact fit x i j p q x' ((ord_ok ha hr).mem x (List.mem_of_getElem? hx)).1 h1 h2 (by rw [o1];exact hx) (by rw [o2];exact hx')
 have olen:∀(i:Nat) (p q:Pc),ps[i]? = some p→qs[i]? = some q→p.order.length=q.order.length:=fun i p q h1 h2=>by
  have e:=hci i p q h1 h2
  have l1:=(hp.ok p (List.mem_of_getElem? h1)).len
  have l2:=(hq.ok q (List.mem_of_getElem? h2)).len
  rw [e] at l1
  omega
 refine ⟨σ,⟨hn,by omega,fun c hc=>by rw [hn];exact lt c hc,inj,fun c hc=>?_,fun h hh=>?_⟩,hlen',olen,fit⟩
 ·obtain ⟨o,o',e,_⟩:=rd c hc
  unfold chk at e
  injection e with e
  exact e.symm
 ·have hc:h / 4<a.n:=by omega
  obtain ⟨o,o',e,nd,nd',mem,pl⟩:=rd (h / 4) hc
  have key:∀t,t<4→4 * o.idxOf (nb a (h / 4) t)+a.m (4 * (h / 4)+t) % 4=4 * o'.idxOf (nb b (σ (h / 4)) t)+b.m (4 * σ (h / 4)+t) % 4:=by
   unfold chk at e
   injection e with _ e
   injection e with e0 e
   injection e with e1 e
   injection e with e2 e
   injection e with e3 _
   intro t ht
   have:t=0∨t=1∨t=2∨t=3:=by omega
   rcases this with rfl | rfl | rfl | rfl
   ·rw [Nat.add_zero,Nat.add_zero];omega
   ·omega
   ·omega
   ·omega
  have k:=key (h % 4) (by omega)
  rw [show 4 * (h / 4)+h % 4=h by omega] at k
  have hm:=mem (h % 4) (by omega)
  have hnb:nb a (h / 4) (h % 4)=a.m h / 4:=by unfold nb;rw [show 4 * (h / 4)+h % 4=h by omega]
  have hnb':nb b (σ (h / 4)) (h % 4)=b.m (hf σ h) / 4:=rfl
  have k1:o.idxOf (nb a (h / 4) (h % 4))=o'.idxOf (nb b (σ (h / 4)) (h % 4)):=by omega
  have k2:a.m h % 4=b.m (hf σ h) % 4:=by show _=b.m (4 * σ (h / 4)+h % 4) % 4;omega
  have g1:=List.idxOf_lt_length_of_mem hm.1
  have g2:=List.idxOf_lt_length_of_mem hm.2
  have k3:=pl (o.idxOf (nb a (h / 4) (h % 4))) _ _ (by rw [List.getElem?_eq_getElem g1,List.getElem_idxOf]) (by rw [k1,List.getElem?_eq_getElem g2,List.getElem_idxOf])
  rw [hnb,hnb'] at k3
  unfold hf at k2 k3 ⊢
  rw [k3]
  omega
theorem iso_of_code (ha:Wf a)(hb:Wf b)(hp:Pcs a ps)(hq:Pcs b qs)(h:Pl.pcode a.lp ps=Pl.pcode b.lp qs):∃σ,Iso a b σ :=
 let ⟨σ,h,_⟩:=iso_of_codeP ha hb hp hq h
 ⟨σ,h⟩
end
theorem flat_place:∀(ps qs:List Pc),ps.length=qs.length→(∀(i:Nat) (p q:Pc),ps[i]? = some p→qs[i]? = some q→p.order.length=q.order.length)→∀(j c c':Nat),(ps.flatMap Pc.order)[j]? = some c→(qs.flatMap Pc.order)[j]? = some c'→∃(i k:Nat) (p q:Pc),ps[i]? = some p∧qs[i]? = some q∧p.order[k]? = some c∧q.order[k]? = some c'
 | [],_,_,_,j,c,c',h,_=>by simp at h
 | p :: ps,[],hl,_,j,c,c',_,_=>by simp at hl
 | p :: ps, q :: qs, hl, ho, j, c, c', h, h' => by
   have e0:=ho 0 p q rfl rfl
   rw [List.flatMap_cons] at h h'
   by_cases hj:j<p.order.length
   ·rw [List.getElem?_append_left hj] at h
    rw [List.getElem?_append_left (by omega)] at h'
    exact ⟨0,j,p,q,rfl,rfl,h,h'⟩
   ·rw [List.getElem?_append_right (by omega)] at h
    rw [List.getElem?_append_right (by omega),←e0] at h'
    obtain ⟨i,k,p',q',h1,h2,h3,h4⟩:=flat_place ps qs (by simpa using hl) (fun i p' q' g1 g2=>ho (i+1) p' q' (by simpa using g1) (by simpa using g2)) (j - p.order.length) c c' h h'
    exact ⟨i+1,k,p',q',by simpa using h1,by simpa using h2,h3,h4⟩
end Go.Proofs.YtdgliimmnnhhjaaGreatDoor.Pl
end
section
namespace Go.Proofs.YtdgliimmnnhhjaaGreatDoor
open Go Go.RowKit
theorem drop_at {xs:List Int}{k:Nat}(h:k<xs.length):xs.drop k=xs.getD k 0 :: xs.drop (k+1):=by
 rw [List.drop_eq_getElem_cons h,List.getD_eq_getElem?_getD,List.getElem?_eq_getElem h];rfl
set_option maxRecDepth 100000 in
set_option maxHeartbeats 4000000 in
theorem compare_any (xs ys:List Int)(A B:Option Addr)(n m c c2:Nat)(w:World)(hA:IntsAt w A n xs)(hB:IntsAt w B m ys)(hn:n≤1000000)(hm:m≤1000000) :
 Calls Tryz.prog 53 #[.slice A n c,.slice B m c2] w fun e w'=>e = .returned (.int .i64 (Pl.lx xs ys))∧w'=w:=by
 have HA:=hide hA
 have HB:=hide hB
 have LA:=hide hA.len
 have LB:=hide hB.len
 clear hA hB
 go_enter Tryz.func53,Tryz.ntmps53
 go_wp2
 go_loopg [5,6,7,8,11] n (fun g s5 s6 s7 s8 i wx=>∃k:Nat,k+g=n∧i = .int .i64 k∧k≤m∧Pl.lx xs ys=Pl.lx (xs.drop k) (ys.drop k)∧wx=w)
 case atStart=>exact ⟨0,by omega,rfl,by omega,rfl,rfl⟩
 case round =>
  obtain ⟨k,hkg,rfl,hkm,hlx,rfl⟩:=hrel
  have HKG:=hide hkg
  have HLX:=hide hlx
  clear hlx
  by_cases hk:k<n
  ·have hki:(k:Int)<(n:Int):=by omega
   have k0:(0:Int)≤(k:Int):=by omega
   obtain ⟨b,o,rfl,x1⟩:=HA.out.at_ hk
   have e1:=drop_at (xs:=xs) (k:=k) (by rw [LA.out];exact hk)
   obtain ⟨u,hu⟩:∃u,u=xs.getD k 0:=⟨_,rfl⟩
   rw [←hu] at x1 e1
   have E1:=hide e1
   clear hu hkg e1
   by_cases hk2:k<m
   ·have hk2i:(k:Int)<(m:Int):=by omega
    have hk2j:¬((m:Int)≤(k:Int)):=by omega
    obtain ⟨b2,o2,rfl,y1⟩:=HB.out.at_ hk2
    have e2:=drop_at (xs:=ys) (k:=k) (by rw [LB.out];exact hk2)
    obtain ⟨v,hv⟩:∃v,v=ys.getD k 0:=⟨_,rfl⟩
    rw [←hv] at y1 e2
    have E2:=hide e2
    clear hv e2
    go_wp2_with fail
    refine (Tryz.cmp_Compare_int u v _).mono ?_
    rintro e w1 ⟨rfl,rfl⟩
    unfold Lib.compareInt
    have HL:=hide HLX.out
    rcases Int.lt_trichotomy u v with h | h | h
    ·have hne:¬v<u:=by omega
     have HR:=hide (show Pl.lx xs ys = -1 by rw [HLX.out,E1.out,E2.out,Pl.lx,if_pos h])
     rw [if_pos h]
     clear h hne
     go_wp2
     go_ret
     exact ⟨by rw [HR.out];rfl,rfl⟩
    ·have HR:=hide (show Pl.lx xs ys=Pl.lx (xs.drop (k+1)) (ys.drop (k+1)) by rw [HLX.out,E1.out,E2.out,Pl.lx,if_neg (by omega),if_neg (by omega)])
     rw [if_neg (show ¬u<v by omega),if_neg (show ¬v<u by omega)]
     clear h
     go_wp2
     go_roundg (gk - 1)
     case measure=>have:=HKG.out;omega
     case rel=>exact ⟨k+1,by have:=HKG.out;omega,by go_num,by omega,HR.out,rfl⟩
    ·have hne:¬u<v:=by omega
     have HR:=hide (show Pl.lx xs ys=1 by rw [HLX.out,E1.out,E2.out,Pl.lx,if_neg hne,if_pos h])
     rw [if_neg hne,if_pos h]
     clear h hne
     go_wp2
     go_ret
     exact ⟨by rw [HR.out];rfl,rfl⟩
   ·have hk2i:(m:Int)≤(k:Int):=by omega
    have HR:=hide (show Pl.lx xs ys=1 by rw [HLX.out,E1.out,List.drop_eq_nil_of_le (show ys.length≤k by rw [LB.out];omega)];rfl)
    go_wp2
    go_ret
    exact ⟨by rw [HR.out];rfl,rfl⟩
  ·have hki:¬((k:Int)<(n:Int)):=by omega
   have hkn:k=n:=by omega
   subst hkn
   clear hkg
   by_cases hnm:(k:Int)<(m:Int)
   ·have HR := hide (show Pl.lx xs ys = -1 by
     rw [HLX.out,List.drop_eq_nil_of_le (show xs.length≤k by rw [LA.out];exact Nat.le_refl _),drop_at (xs:=ys) (k:=k) (by rw [LB.out];omega)];rfl)
    go_wp2
    go_ret
    exact ⟨by rw [HR.out];rfl,rfl⟩
   ·have HR := hide (show Pl.lx xs ys = 0 by
     rw [HLX.out,List.drop_eq_nil_of_le (show xs.length≤k by rw [LA.out];exact Nat.le_refl _),List.drop_eq_nil_of_le (show ys.length≤k by rw [LB.out];omega)];rfl)
    go_wp2
    go_ret
    exact ⟨by rw [HR.out];rfl,rfl⟩
end Go.Proofs.YtdgliimmnnhhjaaGreatDoor
end
section
namespace Go.Proofs.YtdgliimmnnhhjaaGreatDoor.Pl
variable {d:Dg}
def nums (n:Nat)(o:List Nat):List Int:=(List.range n).map (fun c=>if c ∈ o then ((o.idxOf c:Nat):Int) else -1)
theorem nums_len (n:Nat)(o:List Nat):(nums n o).length=n:=by unfold nums;simp
theorem nums_get {n c:Nat}(o:List Nat)(hc:c<n):(nums n o)[c]? = some (if c ∈ o then ((o.idxOf c:Nat):Int) else -1):=by
 unfold nums
 rw [List.getElem?_map,List.getElem?_range hc]
 rfl
theorem nums_nil (n:Nat):nums n []=List.replicate n (-1):=by
 unfold nums
 refine List.ext_getElem? fun i=>?_
 rw [List.getElem?_map,List.getElem?_replicate]
 by_cases h:i<n
 ·rw [List.getElem?_range h,if_pos h];simp
 ·rw [List.getElem?_eq_none (by simp;omega),if_neg h];rfl
theorem nums_add {n b:Nat}{o:List Nat}(hb:b<n)(hn:b ∉ o):nums n (o++[b])=(nums n o).set b (o.length:Int):=by
 refine List.ext_getElem? fun i=>?_
 rw [List.getElem?_set]
 by_cases hi:i<n
 ·rw [nums_get _ hi]
  by_cases e:b=i
  ·subst e
   have h1:b ∈ o++[b]:=by simp
   have h2:b<(nums n o).length:=by rw [nums_len];exact hi
   rw [if_pos h1,if_pos rfl,if_pos h2,List.idxOf_append,if_neg hn]
   simp
  ·rw [if_neg e,nums_get _ hi]
   by_cases hm:i ∈ o
   ·rw [if_pos (by simp [hm]),if_pos hm,List.idxOf_append,if_pos hm]
   ·rw [if_neg (by simp [hm];exact fun h=>e h.symm),if_neg hm]
 ·have h1:(nums n (o++[b])).length≤i:=by rw [nums_len];omega
  rw [List.getElem?_eq_none h1,if_neg (by omega),List.getElem?_eq_none (by rw [nums_len];omega)]
theorem nums_one {n r:Nat}(hr:r<n):nums n [r]=(List.replicate n (-1)).set r 0:=by
 have:=nums_add (o:=[]) hr (by simp)
 rw [nums_nil] at this
 exact this
theorem flat5_at {o:List Nat}:∀{l:List Nat} {i c:Nat},l[i]? = some c→∀j,j<5→(l.flatMap (chk d o))[5 * i+j]? = (chk d o c)[j]?
 | [],i,c,h,_,_=>by simp at h
 | x :: l, 0, c, h, j, hj => by
   obtain rfl:x=c:=by simpa using h
   rw [List.flatMap_cons,Nat.mul_zero,Nat.zero_add,List.getElem?_append_left (by rw [chk_len];exact hj)]
 | x :: l, i + 1, c, h, j, hj => by
   have ih:=flat5_at (o:=o) (l:=l) (i:=i) (c:=c) (by simpa using h) j hj
   rw [List.flatMap_cons,List.getElem?_append_right (by rw [chk_len];omega),chk_len,←ih]
   congr 1
   omega
theorem code_sgn {r i c:Nat}(h:(ord d r)[i]? = some c):(code d r)[5 * i]? = some (d.s c):=by
 have:=flat5_at (d:=d) (o:=ord d r) h 0 (by omega)
 exact this
theorem code_nb {r i c s:Nat}(h:(ord d r)[i]? = some c)(hs:s<4):(code d r)[5 * i+1+s]? = some (((4 * (ord d r).idxOf (nb d c s)+d.m (4 * c+s) % 4:Nat)):Int):=by
 have:=flat5_at (d:=d) (o:=ord d r) h (1+s) (by omega)
 rw [Nat.add_assoc]
 refine this.trans ?_
 have h4:s=0∨s=1∨s=2∨s=3:=by omega
 rcases h4 with rfl | rfl | rfl | rfl <;> rfl
theorem take_one {α:Type}{l:List α}{k:Nat}{x:α}(h:l[k]? = some x):l.take (k+1)=l.take k++[x]:=by
 rw [List.take_add_one,h];rfl
def vdt (best:Option (List Int))(c:List Int)(k:Nat):Int:=match best with
 | none => -1
 | some b=>lx (c.take k) (b.take k)
theorem vdt_step {b c:List Int}{k:Nat}(hc:k+5≤c.length)(hb:k+5≤b.length):vdt (some b) c (k+5)=if vdt (some b) c k=0 then lx ((c.drop k).take 5) ((b.drop k).take 5) else vdt (some b) c k:=by
 unfold vdt
 simp only
 rw [List.take_add,List.take_add]
 exact lx_app (by rw [List.length_take,List.length_take];omega) _ _
theorem vdt_keep {b c:List Int}{k:Nat}(hl:c.length=b.length)(h:vdt (some b) c k≠0):lx c b=vdt (some b) c k:=by
 unfold vdt at h ⊢
 simp only at h ⊢
 have:=lx_app (l:=c.take k) (m:=b.take k) (by rw [List.length_take,List.length_take,hl]) (c.drop k) (b.drop k)
 rw [List.take_append_drop,List.take_append_drop,if_neg h] at this
 exact this
def vall (best:Option (List Int))(c:List Int):Int:=match best with | none => -1 | some b=>lx c b
theorem vall_some (b c:List Int):vall (some b) c=lx c b:=rfl
theorem vall_none (c:List Int):vall none c = -1:=rfl
theorem vdt_all {best:Option (List Int)}{c:List Int}{k:Nat}(hk:c.length≤k)(hb:∀b,best=some b→b.length≤k):vdt best c k=vall best c:=by
 unfold vdt vall
 cases best with
 | none=>rfl
 | some b=>simp only;rw [List.take_of_length_le hk,List.take_of_length_le (hb b rfl)]
theorem pre_get {o o':List Nat}(h:o <+: o'){i c:Nat}(hc:o[i]? = some c):o'[i]? = some c:=by
 obtain ⟨l,rfl⟩:=h
 rw [List.getElem?_append_left (List.getElem?_eq_some_iff.1 hc).1,hc]
theorem add_ord {r i c s:Nat}(hi:i+1≤d.n)(hc:(ordK d r i)[i]? = some c)(hs:s≤4):addS d (ordK d r i) c s <+: ord d r:=by
 have h1:=addS_mono (d:=d) (ordK d r i) c s (4 - s)
 rw [show s+(4 - s)=4 by omega,←ordK_some hc] at h1
 exact h1.trans (ordK_ord r hi)
theorem code_step {r i c s:Nat}(hi:i+1≤d.n)(hc:(ordK d r i)[i]? = some c)(hs:s<4):(code d r)[5 * i+1+s]? = some (((4 * (addS d (ordK d r i) c (s+1)).idxOf (nb d c s)+d.m (4 * c+s) % 4:Nat)):Int):=by
 rw [code_nb (pre_get (ordK_ord r (by omega)) hc) hs,idx_pre (add_ord (s:=s+1) hi hc (by omega)) (addN_mem (addS d (ordK d r i) c s) (nb d c s))]
theorem order_lt {r i:Nat}(hi:i≤d.n)(h:i<(ord d r).length):i<(ordK d r i).length:=by
 rcases Nat.lt_or_ge i (ordK d r i).length with h1 | h1
 ·exact h1
 ·rw [ord_eq hi h1] at h1;omega
end Go.Proofs.YtdgliimmnnhhjaaGreatDoor.Pl
end
section
namespace Go.Proofs.YtdgliimmnnhhjaaGreatDoor.Pl
variable {d:Dg}
def ids (n k:Nat):List Int:=(List.range n).map (fun c=>if c<k then (c:Int) else 0)
theorem ids_len (n k:Nat):(ids n k).length=n:=by unfold ids;simp
theorem ids_zero (n:Nat):ids n 0=List.replicate n 0:=by
 unfold ids
 refine List.ext_getElem (by simp) (fun i h1 h2=>?_)
 simp
theorem ids_pv {n k c:Nat}(hc:c<n):pv (ids n k) c=if c<k then (c:Int) else 0:=by
 unfold pv ids
 rw [List.getD_eq_getElem?_getD,List.getElem?_map,List.getElem?_range hc];rfl
theorem ids_get {n k i:Nat}(h:i<(ids n k).length):(ids n k)[i]=if i<k then (i:Int) else 0:=by simp [ids]
theorem ids_set {n k:Nat}(hk:k<n):(ids n k).set k (k:Int)=ids n (k+1):=by
 refine List.ext_getElem (by rw [List.length_set,ids_len,ids_len]) (fun i h1 h2=>?_)
 rw [List.getElem_set,ids_get,ids_get]
 by_cases e:k=i
 ·subst e;rw [if_pos rfl,if_pos (by omega)]
 ·rw [if_neg e]
  by_cases e2:i<k
  ·rw [if_pos e2,if_pos (by omega)]
  ·rw [if_neg e2,if_neg (by omega)]
structure PI (d:Dg) (ps:List Int):Prop where
 len:ps.length=d.n
 is:∀c,c<d.n→∃b:Nat,pv ps c=b∧b≤c∧Comp d c b
theorem PI.start (d:Dg):PI d (ids d.n d.n) :=
 ⟨ids_len _ _,fun c hc=>⟨c,by rw [ids_pv hc,if_pos hc],Nat.le_refl _,.refl⟩⟩
theorem PI.nat {ps:List Int}(h:PI d ps){c:Nat}(hc:c<d.n):0≤pv ps c∧pv ps c≤c:=by
 obtain ⟨b,h1,h2,_⟩:=h.is c hc
 omega
theorem comp_m (hd:Wf d){h:Nat}(hh:h<4 * d.n):Comp d (h / 4) (d.m h / 4) :=
 (con_comp hd hh (hd.lt h hh)).1 (Con.refl.right)
structure PB (d:Dg) (ps:List Int):Prop where
 len:ps.length=d.n
 is:∀c,c<d.n→∃b:Nat,pv ps c=b∧b≤c∧Comp d c b
 same:∀a b,a<d.n→Comp d a b→pv ps a=pv ps b
theorem PI.done (hd:Wf d){ps:List Int}(h:PI d ps)(hs:∀x,x<4 * d.n→pv ps (x / 4)≤pv ps (d.m x / 4)):PB d ps:=by
 refine ⟨h.len,h.is,fun a b ha e=>?_⟩
 have:=con_sub hd.hm (R:=fun x y=>pv ps (x / 4)=pv ps (y / 4)) ⟨fun _ _=>rfl,fun _ _ _ _ e=>e.symm,fun _ _ _ _ _ _ e e'=>e.trans e'⟩
  (fun x _=>by show pv ps (x / 4)=pv ps (rot x / 4);unfold rot;rw [tn_div]) (fun x hx=>?_) (x:=4 * a) (y:=4 * b) (by unfold dart;omega) e
 ·simpa [Nat.mul_div_cancel_left] using this
 ·have h1:=hs x hx
  have h2:=hs (d.m x) (hd.lt x hx)
  rw [hd.inv x hx] at h2
  exact Int.le_antisymm h1 h2
theorem PB.iff (hd:Wf d){ps:List Int}(h:PB d ps){a b:Nat}(ha:a<d.n)(hb:b<d.n):pv ps a=pv ps b↔Comp d a b:=by
 refine ⟨fun e=>?_,h.same a b ha⟩
 obtain ⟨x,e1,e2,e3⟩:=h.is a ha
 obtain ⟨y,g1,g2,g3⟩:=h.is b hb
 have:x=y:=by omega
 subst this
 exact e3.trans (comp_symm hd hb g3)
theorem PB.root {ps:List Int}(h:PB d ps){c:Nat}(hc:c<d.n):∃b:Nat,pv ps c=b∧b<d.n∧pv ps b=b∧Comp d c b:=by
 obtain ⟨b,h1,h2,h3⟩:=h.is c hc
 exact ⟨b,h1,by omega,by rw [←h.same c b hc h3,h1],h3⟩
theorem PB.rule (hd:Wf d){ps:List Int}(h:PB d ps):(∀c,c<d.n→pv ps c=c→nf d ps c (4 * d.n)=nv ps c d.n+2)↔Rule d:=by
 have key:∀c p:Nat,c<d.n→pv ps c=p→nf d ps p (4 * d.n)=cnt (fun h=>Least (nx d) h∧Comp d c (h / 4)) (4 * d.n)∧nv ps p d.n=cnt (fun b=>Comp d c b) d.n:=by
  intro c p hc e
  have one:∀b,b<d.n→(pv ps b=p↔Comp d c b):=fun b hb'=>by
   rw [←h.iff hd hc hb',e]
   exact ⟨fun e=>e.symm,fun e=>e.symm⟩
  refine ⟨cnt_congr _ (fun x hx=>?_),cnt_congr _ (fun x hx=>one x hx)⟩
  rw [one (x / 4) (by omega)]
 constructor
 ·intro h2 c hc
  obtain ⟨b,e1,e2,e3,e4⟩:=h.root hc
  obtain ⟨k1,k2⟩:=key c b hc e1
  have:=h2 b e2 e3
  omega
 ·intro h2 c hc e
  obtain ⟨k1,k2⟩:=key c c hc e
  rw [k1,k2]
  exact h2 c hc
theorem nv_le (ps:List Int)(p:Nat):∀m,nv ps p m≤m:=fun m=>cnt_top _ m
end Go.Proofs.YtdgliimmnnhhjaaGreatDoor.Pl
end
section
namespace Go.Proofs.YtdgliimmnnhhjaaGreatDoor
open Go Go.RowKit
theorem Row.drewN {w:World}{g:Nat}{t:TypeId}{vs:List Value}(h:Row w g t vs)(n:Nat):Row (w.drewN n) g t vs:=h
theorem Below.drewN' {k:Nat}{w w':World}(h:Below k w w')(n:Nat):Below k w (w'.drewN n):=⟨h.os,h.tape,h.output,h.size,h.block⟩
end Go.Proofs.YtdgliimmnnhhjaaGreatDoor
end
