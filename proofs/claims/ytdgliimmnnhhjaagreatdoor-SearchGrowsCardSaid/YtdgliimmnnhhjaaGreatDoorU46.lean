/-
  The texts Jk.
-/
import Derived.Test.YtdgliimmnnhhjaaGreatDoorU38
import Derived.Test.YtdgliimmnnhhjaaGreatDoorU44
set_option linter.unusedVariables false
set_option linter.unusedSimpArgs false
section
namespace Go.Proofs.YtdgliimmnnhhjaaGreatDoor
open Go Go.RowKit
attribute [local go_sem ↓] Go.wp_at_zero Go.wp_at_succ
def MapQ (W:World)(b:Nat)(ks:List (List UInt8)):Prop :=
 ∃(n:Nat) (D:DataW Unit),W.ownsMap Tryz.prog 9 (plainElem Tryz.prog 3) b n D∧n≤ks.length∧Maps.IsMap D∧∀s:List UInt8,Maps.has D (.string s)=Pl.vb (s ∈ ks)
theorem MapQ.lt {W:World}{b:Nat}{ks:List (List UInt8)}(h:MapQ W b ks):b<W.heap.size:=let ⟨_,_,h,_⟩:=h;h.lt
theorem MapQ.obj {W:World}{b:Nat}{ks:List (List UInt8)}(h:MapQ W b ks):∃es cl,W.heap[b]? = some (.map es cl):=let ⟨_,_,⟨es,cl,h,_⟩,_⟩:=h;⟨es,cl,h⟩
theorem MapQ.same {W W':World}{b:Nat}{ks:List (List UInt8)}(h:MapQ W b ks)(e:W'.heap[b]? = W.heap[b]?):MapQ W' b ks:=by
 obtain ⟨n,D,⟨es,cl,hb,r⟩,h2,h3⟩:=h
 exact ⟨n,D,⟨es,cl,e.trans hb,r⟩,h2,h3⟩
theorem MapQ.below {W W':World}{b:Nat}{ks:List (List UInt8)}(h:MapQ W b ks)(hb:Below W.heap.size W W'):MapQ W' b ks:=h.same (hb.block b h.lt)
theorem MapQ.alloc {W:World}{b:Nat}{ks:List (List UInt8)}(h:MapQ W b ks)(o:Obj):MapQ (W.alloc o) b ks:=h.below ((Below.refl _ _).alloc (Nat.le_refl _) o)
theorem MapQ.drew {W:World}{b:Nat}{ks:List (List UInt8)}(h:MapQ W b ks):MapQ W.drew b ks:=h.same rfl
theorem MapQ.new (W:World)(b:Nat)(hb:b=W.heap.size):MapQ (W.alloc (.map #[] 0)) b []:=by
 subst hb
 refine ⟨0,.map [],World.ownsMap_made W _ _ _,Nat.le_refl _,⟨[],rfl⟩,fun s=>?_⟩
 rw [Pl.vb_false (by simp)];rfl
theorem MapQ.put {W:World}{b:Nat}{ks:List (List UInt8)}(h:MapQ W b ks)(s:List UInt8)(hk:ks.length<maxLen) :
 ∃(n:Nat) (D:DataW Unit),W.ownsMap Tryz.prog 9 (plainElem Tryz.prog 3) b n D∧n<maxLen∧∀(W':World) (d:DataW Unit),W'.ownsMap Tryz.prog 9 (plainElem Tryz.prog 3) b (n+1) (D.put (.string s) d)→MapQ W' b (ks++[s]):=by
 obtain ⟨n,D,h1,h2,h3,h4⟩:=h
 refine ⟨n,D,h1,by omega,fun W' d h'=>⟨n+1,_,h',by rw [List.length_append,List.length_singleton];omega,h'.isMap,fun t=>?_⟩⟩
 by_cases e:t=s
 ·subst e
  rw [Maps.has_put_same h3 (by trivial),Pl.vb_true (by simp)]
 ·rw [Maps.has_put_other (fun e2=>e (by injection e2)),h4]
  congr 1
  exact propext ⟨fun h=>by simp [h],fun h=>by simpa [e] using h⟩
theorem MapQ.upd {W:World}{b:Nat}{ks:List (List UInt8)}(hq:MapQ W b ks){sk:ByteArray}{z:Int}(hk:ks.length<maxLen)(hs:sk.size≤maxLen)(hz:(Lit.int .i64 z).wf=true) :
 ∃W',(Instr.mapUpdate 52 (.map (some b)) (.string sk) (.int .i64 z)).run Tryz.prog W = .ok () W'∧MapQ W' b (ks++[sk.data.toList])∧(∀t,KpT t W W')∧W.grownBy W' (some b):=by
 obtain ⟨n,D,h1,h2,h3⟩:=hq.put sk.data.toList hk
 obtain ⟨w',hrun,r1,r2⟩:=h1.update skKey Tryz.underlying52 h2 (WideMaps.keyOf_string_mk Tryz.underlying9 hs) (plainElem_int Tryz.underlying3 hz)
 exact ⟨w',hrun,h3 w' _ r1,fun t => .of_map r2 hq.obj,r2⟩
structure TbL (b0 gt gm:Nat) (v:Value) (zs:List Nm) (ks:List (List UInt8)) (W:World):Prop where
 box:Row W gt 54 [v,.map (some gm)]
 own:W.ownsRow b0 56 10 v zs.length (nms zs)
 nt:∀z,z ∈ zs→DgT W z.A z.B z.a.d
 mp:MapQ W gm ks
 lt:b0≤gt
 lm:b0≤gm
section
variable {b0 gt gm:Nat} {v:Value} {zs:List Nm} {ks:List (List UInt8)} {W W':World}
theorem TbL.below (h:TbL b0 gt gm v zs ks W)(hb:Below W.heap.size W W'):TbL b0 gt gm v zs ks W' :=
 ⟨h.box.below hb,own_below h.own hb,fun z hz=>(h.nt z hz).keep hb,h.mp.below hb,h.lt,h.lm⟩
end
theorem nodeInfoS:(Tryz.prog.info? 56).map (fun i=>(i.zero,i.size,i.bytes))=some (some (.agg #[.slice none 0 0,.slice none 0 0,.int .i64 0,.int .i64 0,.int .i64 0,.int .i64 0,.int .i64 0,.bool false,.int .i64 0,.int .i64 0]),10,112):=by kernel_rfl
theorem own_one10 {W:World}{b0 g:Nat}{z:Nm}(h:Row W g 56 z.v)(hb:b0≤g):W.ownsRow b0 56 10 (.slice (some ⟨g,0,none⟩) 1 1) 1 (nms [z]) :=
 ⟨by rw [nms_len];rfl,.inr ⟨g,1,z.v.toArray,rfl,hb,h,Nat.le_refl _,by unfold maxLen;omega,rfl,by simp [nms];rfl⟩⟩
theorem BB.grow {w W W':World}{k:Nat}(h:BB w W)(hg:W.grownBy W' (some k))(hk:w.heap.size≤k):BB w W' :=
 ⟨h.b.grown hg h.b.size fun j hj=>by injection hj with hj;omega⟩
theorem newT_end {w W':World}{gt gS gm:Nat}{z0:Nm}{ks:List (List UInt8)}(hbox:Row W' gt 54 [.slice (some ⟨gS,0,none⟩) 1 1,.map (some gm)])(hrow:Row W' gS 56 z0.v)(hmp:MapQ W' gm ks)(h1:w.heap.size≤gt)(h2:w.heap.size≤gS)(h3:w.heap.size≤gm)(hB:BB w W')(hD:DgT w z0.A z0.B z0.a.d) :
 ∃(gt' gm':Nat) (v:Value),(Ending.returned (.pointer (some ⟨gt,0,none⟩)):Ending) = .returned (.pointer (some ⟨gt',0,none⟩))∧TbL w.heap.size gt' gm' v [z0] ks W'∧Below w.heap.size w W' :=
 ⟨_,_,_,rfl,⟨hbox,own_one10 hrow h2,fun z hz=>by rw [List.mem_singleton.1 hz];exact hD.keep hB.b,hmp,h1,h3⟩,hB.b⟩
set_option maxRecDepth 100000 in
set_option maxHeartbeats 8000000 in
theorem newTable_any (d:Pl.Dg)(hd:Pl.Valid d)(h20:d.n≤20)(A B:Option Addr)(n0 cp cq m lp:Nat)(w:World)(hn0:n0=d.n)(hm:m=4 * d.n)(hl:lp=d.lp)(hg:DgT w A B d)(ht:GT w) :
 Calls Tryz.prog 18 #[.agg #[.slice A n0 cp,.slice B m cq,.int .i64 (lp:Int)]] w fun e w'=>∃(gt gm:Nat) (v:Value),e = .returned (.pointer (some ⟨gt,0,none⟩))∧TbL w.heap.size gt gm v [⟨nd0 d,A,B,cp,cq⟩] [keyD d] w'∧Below w.heap.size w w':=by
 have HM:=hide hm
 have HN:=hide hn0
 have HL:=hide hl
 have HG:=hide hg
 have HT:=hide ht
 clear hm hg ht hn0 hl
 have X0:=hide (row_at (W:=w) (g:=w.heap.size) (t:=24) (vs:=[.slice A n0 cp,.slice B m cq,.int .i64 (lp:Int)]) rfl)
 have B0:=hide (show BB w (w.alloc (.cells #[.slice A n0 cp,.slice B m cq,.int .i64 (lp:Int)] 24)) from (BB.refl _).alloc _)
 have CK:=hide (fun (W:World) (hb:BB w W)=>key_n d hd h20 A B n0 cp cq m lp W HN.out HM.out HL.out (HG.out.at.keep hb.b) (HT.out.below hb.b))
 have MM:∀W:World,(Instr.makeMap 52 none).run Tryz.prog W = .ok (.map (some W.heap.size)) (W.alloc (.map #[] 0)):=fun _=>rfl
 obtain ⟨z0,hz0⟩:∃z:Nm,z=⟨nd0 d,A,B,cp,cq⟩:=⟨_,rfl⟩
 have HZV:=hide (show z0.v=[.slice A n0 cp,.slice B m cq,.int .i64 (lp:Int),.int .i64 0,.int .i64 0,.int .i64 0,.int .i64 0,.bool false,.int .i64 (-1),.int .i64 0] by rw [hz0,HM.out,HN.out,HL.out];rfl)
 have HZ:=hide hz0
 have HDT:=hide (show DgT w z0.A z0.B z0.a.d by rw [hz0];exact HG.out)
 rw [←hz0]
 clear hz0
 go_enter Tryz.func18,Tryz.ntmps18
 go_upto_region 1 with fail
 obtain ⟨d0,d1,d2,d3⟩:=box3 X0.out
 obtain ⟨w1,hw1⟩:∃W:World,W=w.alloc (.cells #[.slice A n0 cp,.slice B m cq,.int .i64 (lp:Int)] 24):=⟨_,rfl⟩
 rw [←hw1] at X0 B0 d0 d1 d2 d3 ⊢
 have hs1:w.heap.size<w1.heap.size:=X0.out.lt
 clear hw1
 have N0:=hide (fun W:World=>MapQ.new W W.heap.size rfl)
 have UPD:=hide (fun (W:World) (b:Nat) (sk:ByteArray) (hq:MapQ W b []) (hs:sk.size≤180000)=>hq.upd (sk:=sk) (z := -1) (by simp [maxLen]) (by unfold maxLen;omega) (by decide))
 go_region_law
  (go_simp
   go_wp2_with (first
    | ((go_at_call 10)
       refine (CK.out ((w1.alloc (.cells #[.slice A n0 cp,.slice B m cq,.int .i64 (lp:Int),.int .i64 0,.int .i64 0,.int .i64 0,.int .i64 0,.bool false,.int .i64 (-1),.int .i64 0] 56)).alloc (.map #[] 0)).drew ((B0.out.alloc _).alloc _).drew).mono ?_
       rintro e w3 ⟨sk,rfl,hsk,hsz,hb3⟩
       have rx:=((X0.out.alloc _).alloc _).drew.below hb3
       have hs3:=Row.lt rx
       obtain ⟨e0,e1,e2,e3⟩:=box3 rx
       have mp3:=(MapQ.new (w1.alloc (.cells #[.slice A n0 cp,.slice B m cq,.int .i64 (lp:Int),.int .i64 0,.int .i64 0,.int .i64 0,.int .i64 0,.bool false,.int .i64 (-1),.int .i64 0] 56)) (w1.heap.size+1) (by simp)).drew.below hb3
       obtain ⟨wd,rd,qd,kd,gd⟩:=UPD.out w3 (w1.heap.size+1) sk mp3 hsz)
    | ((go_at_call 10)
       refine (CK.out ((w1.alloc (.map #[] 0)).alloc (.cells #[.slice A n0 cp,.slice B m cq,.int .i64 (lp:Int),.int .i64 0,.int .i64 0,.int .i64 0,.int .i64 0,.bool false,.int .i64 (-1),.int .i64 0] 56)).drew ((B0.out.alloc _).alloc _).drew).mono ?_
       rintro e w3 ⟨sk,rfl,hsk,hsz,hb3⟩
       have rx:=((X0.out.alloc _).alloc _).drew.below hb3
       have hs3:=Row.lt rx
       obtain ⟨e0,e1,e2,e3⟩:=box3 rx
       have mp3:=((MapQ.new w1 w1.heap.size rfl).alloc (.cells #[.slice A n0 cp,.slice B m cq,.int .i64 (lp:Int),.int .i64 0,.int .i64 0,.int .i64 0,.int .i64 0,.bool false,.int .i64 (-1),.int .i64 0] 56)).drew.below hb3
       obtain ⟨wd,rd,qd,kd,gd⟩:=UPD.out w3 w1.heap.size sk mp3 hsz)
    | ((go_at_call 10)
       refine (CK.out (w1.alloc (.map #[] 0)).drew (B0.out.alloc _).drew).mono ?_
       rintro e w3 ⟨sk,rfl,hsk,hsz,hb3⟩
       have rx:=(X0.out.alloc _).drew.below hb3
       have hs3:=Row.lt rx
       obtain ⟨e0,e1,e2,e3⟩:=box3 rx
       have mp3:=(MapQ.new w1 w1.heap.size rfl).drew.below hb3
       obtain ⟨wd,rd,qd,kd,gd⟩:=UPD.out w3 w1.heap.size sk mp3 hsz
       have ry:=((X0.out.alloc _).drew.below hb3).kp (kd _)
       have hs4:=Row.lt ry
       obtain ⟨e4,e5,e6,e7⟩:=box3 ry
       obtain ⟨wf,rf,qf,kf,gf⟩:=UPD.out (w3.alloc (.cells #[.slice A n0 cp,.slice B m cq,.int .i64 (lp:Int),.int .i64 0,.int .i64 0,.int .i64 0,.int .i64 0,.bool false,.int .i64 (-1),.int .i64 0] 56)) w1.heap.size sk (mp3.alloc _) hsz)
    | ((go_at_call 10)
       refine (CK.out (w1.alloc (.cells #[.slice A n0 cp,.slice B m cq,.int .i64 (lp:Int),.int .i64 0,.int .i64 0,.int .i64 0,.int .i64 0,.bool false,.int .i64 (-1),.int .i64 0] 56)).drew (B0.out.alloc _).drew).mono ?_
       rintro e w3 ⟨sk,rfl,hsk,hsz,hb3⟩
       have rx:=(X0.out.alloc _).drew.below hb3
       have hs3:=Row.lt rx
       obtain ⟨e0,e1,e2,e3⟩:=box3 rx
       have n3:=N0.out w3
       obtain ⟨wd,rd,qd,kd,gd⟩:=UPD.out (w3.alloc (.map #[] 0)) w3.heap.size sk n3 hsz)
    | ((go_at_call 10)
       refine (CK.out w1.drew B0.out.drew).mono ?_
       rintro e w3 ⟨sk,rfl,hsk,hsz,hb3⟩
       have rx:=X0.out.drew.below hb3
       have hs3:=Row.lt rx
       obtain ⟨e0,e1,e2,e3⟩:=box3 rx
       have n3:=N0.out w3
       obtain ⟨wd,rd,qd,kd,gd⟩:=UPD.out (w3.alloc (.map #[] 0)) w3.heap.size sk n3 hsz
       have ry:=((X0.out.drew.below hb3).alloc _).kp (kd _)
       have hs4:=Row.lt ry
       obtain ⟨e4,e5,e6,e7⟩:=box3 ry
       obtain ⟨wf,rf,qf,kf,gf⟩:=UPD.out ((w3.alloc (.map #[] 0)).alloc (.cells #[.slice A n0 cp,.slice B m cq,.int .i64 (lp:Int),.int .i64 0,.int .i64 0,.int .i64 0,.int .i64 0,.bool false,.int .i64 (-1),.int .i64 0] 56)) w3.heap.size sk (n3.alloc _) hsz
       obtain ⟨wh,rh,qh,kh,gh⟩:=UPD.out ((w3.alloc (.cells #[.slice A n0 cp,.slice B m cq,.int .i64 (lp:Int),.int .i64 0,.int .i64 0,.int .i64 0,.int .i64 0,.bool false,.int .i64 (-1),.int .i64 0] 56)).alloc (.map #[] 0)) (w3.heap.size+1) sk (MapQ.new _ _ (by simp)) hsz)))
 all_goals go_wp2
 all_goals go_ret
 all_goals (
  (try have hgd:=gd.size)
  (try have hgf:=gf.size)
  (try have hgh:=gh.size)
  (try simp only [World.size_alloc] at hgd)
  (try simp only [World.size_alloc] at hgf)
  (try simp only [World.size_alloc] at hgh)
  refine newT_end (z0:=z0) (row_at (vs:=[_,_]) ?_) ?_ ?_ ?_ ?_ ?_ ?_ HDT.out
  ·first | rfl | (simp;done)
  ·rw [HZV.out]
   repeat (first
    | exact row_at (vs:=[.slice A n0 cp,.slice B m cq,.int .i64 (lp:Int),.int .i64 0,.int .i64 0,.int .i64 0,.int .i64 0,.bool false,.int .i64 (-1),.int .i64 0]) (by with_reducible rfl)
    | exact row_at (vs:=[.slice A n0 cp,.slice B m cq,.int .i64 (lp:Int),.int .i64 0,.int .i64 0,.int .i64 0,.int .i64 0,.bool false,.int .i64 (-1),.int .i64 0]) (by simp;done)
    | with_reducible refine Row.below ?_ hb3
    | with_reducible refine Row.kp ?_ (kd _)
    | with_reducible refine Row.kp ?_ (kf _)
    | with_reducible refine Row.kp ?_ (kh _)
    | with_reducible refine Row.alloc ?_ _
    | with_reducible refine Row.drew ?_)
  ·rw [←hsk]
   repeat (first
    | exact qd
    | exact qf
    | exact qh
    | with_reducible refine MapQ.alloc ?_ _
    | with_reducible refine MapQ.drew ?_)
  ·omega
  ·omega
  ·omega
  ·repeat (first
    | with_reducible exact B0.out
    | with_reducible refine BB.below ?_ hb3
    | with_reducible refine BB.grow ?_ gd (by omega)
    | with_reducible refine BB.grow ?_ gf (by omega)
    | with_reducible refine BB.grow ?_ gh (by omega)
    | with_reducible refine BB.alloc ?_ _
    | with_reducible refine BB.drew ?_))
end Go.Proofs.YtdgliimmnnhhjaaGreatDoor
end
