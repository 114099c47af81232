/-
  The texts Ww.
-/
import Derived.Test.YtdgliimmnnhhjaaGreatDoorU13
set_option linter.unusedVariables false
set_option linter.unusedSimpArgs false
section
namespace Go.Proofs.YtdgliimmnnhhjaaGreatDoor
open Go Go.RowKit
def LabJ (fs:List (List Nat))(i j:Nat)(F:List Nat):Prop:=(∀(i':Nat) l x,i'<i→fs[i']? = some l→x ∈ l→F.getD x 0=i')∧∀l x,fs[i]? = some l→x ∈ l.take j→F.getD x 0=i
def Dis (fs:List (List Nat))(N:Nat):Prop:=(∀(i j:Nat) (l m:List Nat) (h:Nat),fs[i]? = some l→fs[j]? = some m→h ∈ l→h ∈ m→i=j)∧∀l x,l ∈ fs→x ∈ l→x<N
theorem LabJ.start (fs:List (List Nat))(F:List Nat):LabJ fs 0 0 F:=⟨fun i' l x h=>absurd h (by omega),fun l x _ h=>by simp at h⟩
theorem getD_set {F:List Nat}{y:Nat}(hy:y<F.length)(v x:Nat):(F.set y v).getD x 0=if x=y then v else F.getD x 0:=by
 rw [List.getD_eq_getElem?_getD,List.getD_eq_getElem?_getD,List.getElem?_set]
 by_cases h:y=x
 ·subst h;simp [hy]
 ·rw [if_neg h,if_neg (fun e=>h e.symm)]
theorem LabJ.step {fs:List (List Nat)}{i j y N:Nat}{F l:List Nat}(h:LabJ fs i j F)(hd:Dis fs N)(hl:fs[i]? = some l)(hj:j<l.length)(hy:l.getD j 0=y)(hF:F.length=N):LabJ fs i (j+1) (F.set y i):=by
 have hyl:y ∈ l:=by rw [←hy,List.getD_eq_getElem?_getD,List.getElem?_eq_getElem hj];exact List.getElem_mem hj
 have hyN:y<F.length:=by rw [hF];exact hd.2 l y (List.mem_of_getElem? hl) hyl
 refine ⟨fun i' m x hi' hm hx=>?_,fun m x hm hx=>?_⟩
 ·rw [getD_set hyN]
  by_cases e:x=y
  ·subst e
   have:=hd.1 i' i m l x hm hl hx hyl
   omega
  ·rw [if_neg e];exact h.1 i' m x hi' hm hx
 ·rw [hl] at hm
  injection hm with hm
  subst hm
  rw [getD_set hyN]
  by_cases e:x=y
  ·rw [if_pos e]
  ·rw [if_neg e]
   refine h.2 l x hl ?_
   rw [List.take_succ_eq_append_getElem hj,List.mem_append,List.mem_singleton] at hx
   rcases hx with hx | hx
   ·exact hx
   ·exfalso
    apply e
    rw [hx,←hy,List.getD_eq_getElem?_getD,List.getElem?_eq_getElem hj];rfl
theorem LabJ.next {fs:List (List Nat)}{i j:Nat}{F l:List Nat}(h:LabJ fs i j F)(hl:fs[i]? = some l)(hj:l.length≤j):LabJ fs (i+1) 0 F:=by
 refine ⟨fun i' m x hi' hm hx=>?_,fun m x _ hx=>by simp at hx⟩
 by_cases e:i'=i
 ·subst e
  rw [hl] at hm
  injection hm with hm
  subst hm
  exact h.2 l x hl (by rw [List.take_of_length_le hj];exact hx)
 ·exact h.1 i' m x (by omega) hm hx
theorem Fcs_dis {f:Nat→Nat}{W:Nat→Prop}{N:Nat}{S:Nat→Prop}{fs:List (List Nat)}{bs:List Bool}(h:Pl.Fcs f W N N fs bs)(hb:Pl.Bij N S f)(hS:∀x,x<N→S x):Dis fs N :=
 ⟨h.one, fun l x hl hx => by
   obtain ⟨g,p,h1,_,h3,rfl⟩:=h.is l hl
   exact hb.lt _ (hb.orb_mem (hS g h1) ((Pl.mem_cyc h3).1 hx))⟩
theorem Gl_dis (ps:List Int)(P n:Nat):Dis ((List.range P).map (Gl ps n)) n:=by
 refine ⟨fun i j l m h e1 e2 h1 h2=>?_,fun l x hl hx=>?_⟩
 ·obtain ⟨_,rfl⟩:=range_get e1
  obtain ⟨_,rfl⟩:=range_get e2
  have a:=(mem_Gl.1 h1).2
  have b:=(mem_Gl.1 h2).2
  omega
 ·obtain ⟨i,_,rfl⟩:=List.mem_map.1 hl
  exact (mem_Gl.1 hx).1
structure Srv (w:World) (x0 x1 x2:Value) (gb gl gp m n:Nat) (F R:List Nat) (W:World):Prop where
 d:Row W w.heap.size 24 [x0,x1,x2]
 r:Row W (w.heap.size+1) 91 [.slice none 0 0,.slice none 0 0,.int .i64 0,.slice none 0 0,.slice none 0 0]
 s:Row W gb 91 [x0,x1,x2,.slice (some ⟨gl,0,none⟩) m m,.slice (some ⟨gp,0,none⟩) n n]
 l:IRow W gl (nats F)
 p:IRow W gp (nats R)
 lF:F.length=m
 lR:R.length=n
 bel:Below w.heap.size w W
 a1:w.heap.size+1<gb
 a2:w.heap.size+1<gl
 a3:w.heap.size+1<gp
 a4:gl≠gp
 a5:gl≠gb
 a6:gp≠gb
theorem Srv.below {w:World}{x0 x1 x2:Value}{gb gl gp m n:Nat}{F R:List Nat}{W W':World}(h:Srv w x0 x1 x2 gb gl gp m n F R W)(hb:Below W.heap.size W W'):Srv w x0 x1 x2 gb gl gp m n F R W' :=
 ⟨h.d.below hb,h.r.below hb,h.s.below hb,Row.below h.l hb,Row.below h.p hb,h.lF,h.lR,h.bel.trans (hb.mono h.bel.size),h.a1,h.a2,h.a3,h.a4,h.a5,h.a6⟩
theorem nats_set (F:List Nat)(y v:Nat):nats (F.set y v)=(nats F).set y (v:Int):=by unfold nats;rw [List.map_set]
theorem Srv.setL {w:World}{x0 x1 x2:Value}{gb gl gp m n:Nat}{F R:List Nat}{W:World}(h:Srv w x0 x1 x2 gb gl gp m n F R W)(y v:Nat):Srv w x0 x1 x2 gb gl gp m n (F.set y v) R (W.setCell ⟨gl,y,none⟩ (.int .i64 (v:Int))) :=
 have h2:=h.a2
 ⟨h.d.other (by show _≠gl;omega) _,h.r.other (by show _≠gl;omega) _,h.s.other (by show _≠gl;exact Ne.symm h.a5) _,by rw [nats_set];exact h.l.set y v,Row.other h.p (by show _≠gl;exact Ne.symm h.a4) _,by rw [List.length_set,h.lF],h.lR,h.bel.setCell (by show _≤gl;omega) _,h.a1,h.a2,h.a3,h.a4,h.a5,h.a6⟩
theorem Srv.setP {w:World}{x0 x1 x2:Value}{gb gl gp m n:Nat}{F R:List Nat}{W:World}(h:Srv w x0 x1 x2 gb gl gp m n F R W)(y v:Nat):Srv w x0 x1 x2 gb gl gp m n F (R.set y v) (W.setCell ⟨gp,y,none⟩ (.int .i64 (v:Int))) :=
 have h2:=h.a3
 ⟨h.d.other (by show _≠gp;omega) _,h.r.other (by show _≠gp;omega) _,h.s.other (by show _≠gp;exact Ne.symm h.a6) _,Row.other h.l (by show _≠gp;exact h.a4) _,by rw [nats_set];exact h.p.set y v,h.lF,by rw [List.length_set,h.lR],h.bel.setCell (by show _≤gp;omega) _,h.a1,h.a2,h.a3,h.a4,h.a5,h.a6⟩
theorem heap5 (w:World)(o0 o1 o2 o3 o4:Obj) :
 ((((((w.alloc o0).alloc o1).alloc o2).alloc o3).alloc o4).drew).heap[w.heap.size]? = some o0∧((((((w.alloc o0).alloc o1).alloc o2).alloc o3).alloc o4).drew).heap[w.heap.size+1]? = some o1∧((((((w.alloc o0).alloc o1).alloc o2).alloc o3).alloc o4).drew).heap[w.heap.size+1+1]? = some o2 ∧
 ((((((w.alloc o0).alloc o1).alloc o2).alloc o3).alloc o4).drew).heap[w.heap.size+1+1+1]? = some o3∧((((((w.alloc o0).alloc o1).alloc o2).alloc o3).alloc o4).drew).heap[w.heap.size+1+1+1+1]? = some o4∧Below w.heap.size w ((((((w.alloc o0).alloc o1).alloc o2).alloc o3).alloc o4).drew):=by
 have e:∀W:World,W.drew.heap=W.heap:=fun _=>rfl
 have f:∀(W:World) (o:Obj),(W.alloc o).heap=W.heap.push o:=fun _ _=>rfl
 refine ⟨?_,?_,?_,?_,?_,((((((Below.refl _ _).alloc (Nat.le_refl _) _).alloc (by simp) _).alloc (by simp;omega) _).alloc (by simp;omega) _).alloc (by simp;omega) _).drew⟩
 all_goals
  rw [e]
  simp only [f,Array.getElem?_push,Array.size_push]
  repeat (first | rw [if_pos trivial] | rw [if_pos (by omega)] | rw [if_neg (by omega)])
theorem srv_mk {w:World}{x0 x1 x2:Value}{gb gl gp m n:Nat}{W:World}
 (h0:W.heap[w.heap.size]? = some (.cells #[x0,x1,x2] 24 (0,0))) (h1:W.heap[w.heap.size+1]? = some (.cells #[.slice none 0 0,.slice none 0 0,.int .i64 0,.slice none 0 0,.slice none 0 0] 91 (0,0)))
 (h2:W.heap[gb]? = some (.cells #[x0,x1,x2,.slice (some ⟨gl,0,none⟩) m m,.slice (some ⟨gp,0,none⟩) n n] 91 (0,0)))
 (h3:W.heap[gl]? = some (.cells (Array.replicate m (Value.int .i64 0)) 3 (0,0))) (h4:W.heap[gp]? = some (.cells (Array.replicate n (Value.int .i64 0)) 3 (0,0))) (hb:Below w.heap.size w W)
 (a1:w.heap.size+1<gb) (a2:w.heap.size+1<gl) (a3:w.heap.size+1<gp) (a4:gl≠gp) (a5:gl≠gb) (a6:gp≠gb):Srv w x0 x1 x2 gb gl gp m n (List.replicate m 0) (List.replicate n 0) W:=by
 refine ⟨h0,h1,h2,?_,?_,by simp,by simp,hb,a1,a2,a3,a4,a5,a6⟩
 ·unfold IRow Row nats;rw [List.map_replicate,List.map_replicate,h3];simp
 ·unfold IRow Row nats;rw [List.map_replicate,List.map_replicate,h4];simp
def SurveyPost (d:Pl.Dg)(A B:Option Addr)(cp cq:Nat)(w:World)(e:Ending)(w':World):Prop :=
 ∃(L R:Option Addr) (cl cr:Nat) (F P:List Nat),e = .returned (sheetV A B L R d.n (4 * d.n) d.lp cp cq cl cr)∧ShAt w' A B L R d F P∧(∀x y,x<4 * d.n→y<4 * d.n→(F.getD x 0=F.getD y 0↔Pl.Orb (Pl.nx d) x y))∧(∀x y,x<d.n→y<d.n→(P.getD x 0=P.getD y 0↔Pl.Comp d x y))∧Below w.heap.size w w'
set_option maxRecDepth 100000 in
set_option maxHeartbeats 3000000 in
theorem survey_any (d:Pl.Dg)(hd:Pl.Valid d)(A B:Option Addr)(cp cq m:Nat)(w:World)(hm:m=4 * d.n)(hg:DgAt w A B d) :
 Calls Tryz.prog 46 #[.agg #[.slice A d.n cp,.slice B m cq,.int .i64 d.lp]] w (SurveyPost d A B cp cq w):=by
 have hn:=hd.wf.few
 have HM:=hide hm
 have HG:=hide hg
 have hm2:m≤256:=by omega
 clear hm hg
 have hmk1:=fun W:World=>run_ints m (by omega) W
 have hmk2:=fun W:World=>run_ints d.n (by omega) W
 go_enter Tryz.func46,Tryz.ntmps46
 go_upto_region 1 with fail
 go_cut [3] (fun s3 wx=>∃gb gl gp:Nat,s3 = .pointer (some ⟨gb,0,none⟩)∧Srv w (.slice A d.n cp) (.slice B m cq) (.int .i64 (d.lp:Int)) gb gl gp m d.n (List.replicate m 0) (List.replicate d.n 0) wx)
 case first =>
  go_region
  all_goals (go_wp2_with fail;go_meet)
  all_goals
   first
    | (refine ⟨w.heap.size + 1 + 1, w.heap.size + 1 + 1 + 1, w.heap.size + 1 + 1 + 1 + 1, rfl, ?_⟩
       exact srv_mk (heap5 w _ _ _ _ _).1 (heap5 w _ _ _ _ _).2.1 (heap5 w _ _ _ _ _).2.2.1 (heap5 w _ _ _ _ _).2.2.2.1 (heap5 w _ _ _ _ _).2.2.2.2.1 (heap5 w _ _ _ _ _).2.2.2.2.2 (by omega) (by omega) (by omega) (by omega) (by omega) (by omega))
    | (refine ⟨w.heap.size + 1 + 1, w.heap.size + 1 + 1 + 1 + 1, w.heap.size + 1 + 1 + 1, rfl, ?_⟩
       exact srv_mk (heap5 w _ _ _ _ _).1 (heap5 w _ _ _ _ _).2.1 (heap5 w _ _ _ _ _).2.2.1 (heap5 w _ _ _ _ _).2.2.2.2.1 (heap5 w _ _ _ _ _).2.2.2.1 (heap5 w _ _ _ _ _).2.2.2.2.2 (by omega) (by omega) (by omega) (by omega) (by omega) (by omega))
    | (refine ⟨w.heap.size + 1 + 1 + 1, w.heap.size + 1 + 1, w.heap.size + 1 + 1 + 1 + 1, rfl, ?_⟩
       exact srv_mk (heap5 w _ _ _ _ _).1 (heap5 w _ _ _ _ _).2.1 (heap5 w _ _ _ _ _).2.2.2.1 (heap5 w _ _ _ _ _).2.2.1 (heap5 w _ _ _ _ _).2.2.2.2.1 (heap5 w _ _ _ _ _).2.2.2.2.2 (by omega) (by omega) (by omega) (by omega) (by omega) (by omega))
    | (refine ⟨w.heap.size + 1 + 1 + 1, w.heap.size + 1 + 1 + 1 + 1, w.heap.size + 1 + 1, rfl, ?_⟩
       exact srv_mk (heap5 w _ _ _ _ _).1 (heap5 w _ _ _ _ _).2.1 (heap5 w _ _ _ _ _).2.2.2.1 (heap5 w _ _ _ _ _).2.2.2.2.1 (heap5 w _ _ _ _ _).2.2.1 (heap5 w _ _ _ _ _).2.2.2.2.2 (by omega) (by omega) (by omega) (by omega) (by omega) (by omega))
    | (refine ⟨w.heap.size + 1 + 1 + 1 + 1, w.heap.size + 1 + 1, w.heap.size + 1 + 1 + 1, rfl, ?_⟩
       exact srv_mk (heap5 w _ _ _ _ _).1 (heap5 w _ _ _ _ _).2.1 (heap5 w _ _ _ _ _).2.2.2.2.1 (heap5 w _ _ _ _ _).2.2.1 (heap5 w _ _ _ _ _).2.2.2.1 (heap5 w _ _ _ _ _).2.2.2.2.2 (by omega) (by omega) (by omega) (by omega) (by omega) (by omega))
    | (refine ⟨w.heap.size + 1 + 1 + 1 + 1, w.heap.size + 1 + 1 + 1, w.heap.size + 1 + 1, rfl, ?_⟩
       exact srv_mk (heap5 w _ _ _ _ _).1 (heap5 w _ _ _ _ _).2.1 (heap5 w _ _ _ _ _).2.2.2.2.1 (heap5 w _ _ _ _ _).2.2.2.1 (heap5 w _ _ _ _ _).2.2.1 (heap5 w _ _ _ _ _).2.2.2.2.2 (by omega) (by omega) (by omega) (by omega) (by omega) (by omega))
 case rest =>
  clear hmk1 hmk2
  obtain ⟨gb,gl,gp,rfl,hs⟩:=hcut
  have HS:=hide hs
  obtain ⟨f0,f1,f2,f3⟩:=box3 hs.d
  clear hs
  go_wp2_with fail
  refine (faces_any d hd A B cp cq m _ HM.out (HG.out.keep HS.out.bel)).mono ?_
  rintro e w1 ⟨A1,c1,fs,bs,vs,rfl,hfc,hfl,hrt,hvs,hb1,hfar⟩
  have HS1:=hide (HS.out.below hb1)
  have HFC:=hide hfc
  have HRT:=hide hrt
  have HVS:=hide hvs
  have hsl:=HS.out.l.lt
  have hsp:=HS.out.p.lt
  have HFAR:=hide hfar
  have HDIS:=hide (show Dis fs m by rw [HM.out];exact Fcs_dis hfc hd.wf.nxb (fun _ h=>h))
  have HLEN:=hide (show ∀l,l ∈ fs→l.length≤256 from fun l hl=>by
   obtain ⟨g,p,h1,_,h3,rfl⟩:=hfc.is l hl
   rw [Pl.cyc_len]
   obtain ⟨q,hq,hper⟩:=hd.wf.nxb.per (x:=g) h1
   have:p=q:=by
    rcases Nat.lt_trichotomy p q with h | h | h
    ·exact absurd h3.2.1 (hper.2.2 p h3.1 h)
    ·exact h
    ·exact absurd hper.2.1 (h3.2.2 q hper.1 h)
   omega)
  clear hfc hrt hvs hb1 hfar HS f0 f1 f2 f3
  go_wp2_with fail
  go_loopg [25] fs.length (fun g x wx=>∃(i:Nat) (F:List Nat),i+g=fs.length∧x = .int .i64 i∧Srv w (.slice A d.n cp) (.slice B m cq) (.int .i64 (d.lp:Int)) gb gl gp m d.n F (List.replicate d.n 0) wx∧LabJ fs i 0 F∧RowT wx 22 A1 fs.length vs∧Vs wx vs fs)
  case atStart=>exact ⟨0,_,by omega,rfl,HS1.out,LabJ.start _ _,HRT.out,HVS.out⟩
  case round =>
   clear HS1 HRT HVS
   obtain ⟨i,F,hig,rfl,hsv,hlab,hrt,hvs⟩:=hrel
   have HIG:=hide hig
   have hil:i≤fs.length:=by omega
   have HSV:=hide hsv
   have HLAB:=hide hlab
   have HRT:=hide hrt
   have HVS:=hide hvs
   clear hig hsv hlab hrt hvs
   obtain ⟨go,rfl⟩:∃go,go=gk:=⟨_,rfl⟩
   by_cases hlt:i<fs.length
   ·obtain ⟨l,hl⟩:∃l,fs[i]? = some l:=⟨_,List.getElem?_eq_getElem (by omega)⟩
    obtain ⟨v,hv,AA,cc,rfl,hrow⟩:=HVS.out.2 i l hl
    obtain ⟨rb,ro,rfl,hcells⟩:=HRT.out.row.2 (by omega)
    have hcv:=hcells i _ hv
    have HL:=hide hl
    have HV:=hide hv
    have ii:(0:Int)≤(i:Int):=by omega
    have ij:(i:Int)<((fs.length:Nat):Int):=by omega
    have hll:l.length≤1000:=by have:=HLEN.out l (List.mem_of_getElem? HL.out);omega
    clear hcells hrow hl hv
    go_wp2_with fail
    go_loopg [32] l.length (fun g x wx=>∃(j:Nat) (F:List Nat),j+g=l.length∧x = .int .i64 j∧Srv w (.slice A d.n cp) (.slice B m cq) (.int .i64 (d.lp:Int)) gb gl gp m d.n F (List.replicate d.n 0) wx∧LabJ fs i j F∧RowT wx 22 (some ⟨rb,ro,none⟩) fs.length vs∧Vs wx vs fs)
    case atStart=>exact ⟨0,F,by omega,rfl,HSV.out,HLAB.out,HRT.out,HVS.out⟩
    case round =>
     clear HSV HLAB HRT HVS hcv
     obtain ⟨j,F',hjg,rfl,hsv,hlab,hrt,hvs⟩:=hrel
     have HJG:=hide hjg
     have hjl:j≤l.length:=by omega
     have HSV:=hide hsv
     have HLAB:=hide hlab
     have HRT:=hide hrt
     have HVS:=hide hvs
     clear hjg hsv hlab hrt hvs
     by_cases hlj:j<l.length
     ·obtain ⟨v,hv,hfa⟩:=HVS.out.2 i l HL.out
      rw [HV.out] at hv
      injection hv with hv
      rw [←hv] at hfa
      obtain ⟨fb,fo,rfl,hcj⟩:=nats_at hfa.ints.2 (k:=j) hlj
      obtain ⟨y,hy⟩:∃y,y=l.getD j 0:=⟨_,rfl⟩
      rw [←hy] at hcj
      have hyN:y<m:=by
       have hmem:y ∈ l:=by rw [hy,List.getD_eq_getElem?_getD,List.getElem?_eq_getElem hlj];exact List.getElem_mem hlj
       exact HDIS.out.2 l y (List.mem_of_getElem? HL.out) hmem
      have HY:=hide hy
      clear hy hv hfa
      obtain ⟨s0,s1,s2,s3,s4,s5⟩:=box5 HSV.out.s
      have cy:=HSV.out.l.cell (i:=y) (by unfold nats;rw [List.length_map,HSV.out.lF];exact hyN)
      have fy:=Row.free HSV.out.l y
      have iy:(0:Int)≤(y:Int):=by omega
      have jy:(y:Int)<((m:Nat):Int):=by omega
      go_wp2_with fail
      go_roundg (gk - 1)
      case measure=>have:=HJG.out;omega
      case rel=>exact ⟨j+1,F'.set y i,by have:=HJG.out;omega,by go_num,HSV.out.setL y i,HLAB.out.step HDIS.out HL.out hlj HY.out.symm HSV.out.lF,HRT.out.store HSV.out.l (by decide) _,HVS.out.far HFAR.out hsl _⟩
     ·go_wp2_with fail
      go_roundg (go - 1)
      case measure=>have:=HIG.out;omega
      case rel=>exact ⟨i+1,F',by have:=HIG.out;omega,by go_num,HSV.out,HLAB.out.next HL.out (by omega),HRT.out,HVS.out⟩
   ·have hie:i=fs.length:=by omega
    have HFL:=hide (show LabJ fs fs.length 0 F by rw [←hie];exact HLAB.out)
    obtain ⟨FL,hFL⟩:∃FL,FL=F:=⟨_,rfl⟩
    rw [←hFL] at HFL HSV
    clear hFL hie HLAB HRT HVS HFAR
    obtain ⟨f0,f1,f2,f3⟩:=box3 HSV.out.d
    go_wp2_with fail
    refine (graph_any d hd A B cp cq m _ HM.out (HG.out.keep HSV.out.bel)).mono ?_
    rintro e w2 ⟨A2,c2,P,ps,us,rfl,hPn,hlb,hall,hrt,hvs,hb2,hfar⟩
    have KS1:=hide (HSV.out.below hb2)
    have KRT:=hide hrt
    have KLB:=hide hlb
    have KALL:=hide hall
    obtain ⟨gs,hgs⟩:∃gs,gs=(List.range P).map (Gl ps d.n):=⟨_,rfl⟩
    rw [←hgs] at hvs
    have HGS:=hide hgs
    have KVS:=hide hvs
    have ksp:=HSV.out.p.lt
    have KFAR:=hide hfar
    have KDIS:=hide (show Dis gs d.n by rw [hgs];exact Gl_dis ps P d.n)
    have HLEN:=hide (show ∀l,l ∈ gs→l.length≤64 from fun l hl=>by
     rw [hgs] at hl
     obtain ⟨i,_,rfl⟩:=List.mem_map.1 hl
     have:=Gl_len ps d.n i
     omega)
    have hgl:gs.length=P:=by rw [hgs];simp
    have HGL:=hide hgl
    clear hrt hlb hall hgs hvs hb2 hfar hgl HSV f0 f1 f2 f3
    go_wp2_with fail
    go_loopg [46] P (fun g x wx=>∃(i:Nat) (F:List Nat),i+g=P∧x = .int .i64 i∧Srv w (.slice A d.n cp) (.slice B m cq) (.int .i64 (d.lp:Int)) gb gl gp m d.n FL F wx∧LabJ gs i 0 F∧RowT wx 22 A2 P us∧Vs wx us gs)
    case atStart=>exact ⟨0,_,by omega,rfl,KS1.out,LabJ.start _ _,KRT.out,KVS.out⟩
    case round =>
     clear KS1 KRT KVS
     obtain ⟨i,F,hig,rfl,hsv,hlab,hrt,hvs⟩:=hrel
     have HIG:=hide hig
     have hil:i≤P:=by omega
     have HSV:=hide hsv
     have HLAB:=hide hlab
     have HRT:=hide hrt
     have HVS:=hide hvs
     clear hig hsv hlab hrt hvs
     obtain ⟨go,rfl⟩:∃go,go=gk:=⟨_,rfl⟩
     by_cases hlt:i<P
     ·obtain ⟨l,hl⟩:∃l,gs[i]? = some l:=⟨_,List.getElem?_eq_getElem (by rw [HGS.out];simp;omega)⟩
      obtain ⟨v,hv,AA,cc,rfl,hrow⟩:=HVS.out.2 i l hl
      obtain ⟨rb,ro,rfl,hcells⟩:=HRT.out.row.2 (by omega)
      have hcv:=hcells i _ hv
      have HL:=hide hl
      have HV:=hide hv
      have ii:(0:Int)≤(i:Int):=by omega
      have ij:(i:Int)<((P:Nat):Int):=by omega
      have hll:l.length≤1000:=by have:=HLEN.out l (List.mem_of_getElem? HL.out);omega
      clear hcells hrow hl hv
      go_wp2_with fail
      go_loopg [53] l.length (fun g x wx=>∃(j:Nat) (F:List Nat),j+g=l.length∧x = .int .i64 j∧Srv w (.slice A d.n cp) (.slice B m cq) (.int .i64 (d.lp:Int)) gb gl gp m d.n FL F wx∧LabJ gs i j F∧RowT wx 22 (some ⟨rb,ro,none⟩) P us∧Vs wx us gs)
      case atStart=>exact ⟨0,F,by omega,rfl,HSV.out,HLAB.out,HRT.out,HVS.out⟩
      case round =>
       clear HSV HLAB HRT HVS hcv
       obtain ⟨j,F',hjg,rfl,hsv,hlab,hrt,hvs⟩:=hrel
       have HJG:=hide hjg
       have hjl:j≤l.length:=by omega
       have HSV:=hide hsv
       have HLAB:=hide hlab
       have HRT:=hide hrt
       have HVS:=hide hvs
       clear hjg hsv hlab hrt hvs
       by_cases hlj:j<l.length
       ·obtain ⟨v,hv,hfa⟩:=HVS.out.2 i l HL.out
        rw [HV.out] at hv
        injection hv with hv
        rw [←hv] at hfa
        obtain ⟨fb,fo,rfl,hcj⟩:=nats_at hfa.ints.2 (k:=j) hlj
        obtain ⟨y,hy⟩:∃y,y=l.getD j 0:=⟨_,rfl⟩
        rw [←hy] at hcj
        have hyN:y<d.n:=by
         have hmem:y ∈ l:=by rw [hy,List.getD_eq_getElem?_getD,List.getElem?_eq_getElem hlj];exact List.getElem_mem hlj
         exact KDIS.out.2 l y (List.mem_of_getElem? HL.out) hmem
        have HY:=hide hy
        clear hy hv hfa
        obtain ⟨s0,s1,s2,s3,s4,s5⟩:=box5 HSV.out.s
        have cy:=HSV.out.p.cell (i:=y) (by unfold nats;rw [List.length_map,HSV.out.lR];exact hyN)
        have fy:=Row.free HSV.out.p y
        have iy:(0:Int)≤(y:Int):=by omega
        have jy:(y:Int)<((d.n:Nat):Int):=by omega
        go_wp2_with fail
        go_roundg (gk - 1)
        case measure=>have:=HJG.out;omega
        case rel=>exact ⟨j+1,F'.set y i,by have:=HJG.out;omega,by go_num,HSV.out.setP y i,HLAB.out.step KDIS.out HL.out hlj HY.out.symm HSV.out.lR,HRT.out.store HSV.out.p (by decide) _,HVS.out.far KFAR.out ksp _⟩
       ·go_wp2_with fail
        go_roundg (go - 1)
        case measure=>have:=HIG.out;omega
        case rel=>exact ⟨i+1,F',by have:=HIG.out;omega,by go_num,HSV.out,HLAB.out.next HL.out (by omega),HRT.out,HVS.out⟩
     ·have hie:i=P:=by omega
      obtain ⟨s0,s1,s2,s3,s4,s5⟩:=box5 HSV.out.s
      obtain ⟨r0,r1,r2,r3,r4,r5⟩:=box5 HSV.out.r
      have b1:=HSV.out.a2
      have b2:=HSV.out.a3
      go_wp2_with fail
      clear s0 s1 s2 s3 s4 s5 r0 r1 r2 r3 r4 r5
      refine bodyPost_ret (v:=sheetV A B (some ⟨gl,0,none⟩) (some ⟨gp,0,none⟩) d.n m d.lp cp cq m d.n) ?_ rfl ?_
      ·have r:=((((HSV.out.r.set 0 (.slice A d.n cp)).set 1 (.slice B m cq)).set 2 (.int .i64 (d.lp:Int))).set 3 (.slice (some ⟨gl,0,none⟩) m m)).set 4 (.slice (some ⟨gp,0,none⟩) d.n d.n)
       obtain ⟨e0,e1,e2,e3,e4,e5⟩:=box5 r
       unfold sheetV
       simp [results,Tryz.results46,go_sem,e0,e1,e2,e3,e4,e5]
      ·have hb5 : Below w.heap.size w (((((wr.setCell ⟨w.heap.size + 1, 0, none⟩ (.slice A d.n cp)).setCell ⟨w.heap.size + 1, 1, none⟩ (.slice B m cq)).setCell ⟨w.heap.size + 1, 2, none⟩ (.int .i64 (d.lp : Int))).setCell ⟨w.heap.size + 1, 3, none⟩ (.slice (some ⟨gl, 0, none⟩) m m)).setCell ⟨w.heap.size + 1, 4, none⟩ (.slice (some ⟨gp, 0, none⟩) d.n d.n)) :=
        ((((HSV.out.bel.setCell (by show _≤w.heap.size+1;omega) _).setCell (by show _≤w.heap.size+1;omega) _).setCell (by show _≤w.heap.size+1;omega) _).setCell (by show _≤w.heap.size+1;omega) _).setCell (by show _≤w.heap.size+1;omega) _
       have hl5:=IRow.ints (((((Row.other HSV.out.l (a:=⟨w.heap.size+1,0,none⟩) (by show gl≠w.heap.size+1;omega) (.slice A d.n cp)).other (a:=⟨w.heap.size+1,1,none⟩) (by show gl≠w.heap.size+1;omega) (.slice B m cq)).other (a:=⟨w.heap.size+1,2,none⟩) (by show gl≠w.heap.size+1;omega) (.int .i64 (d.lp:Int))).other (a:=⟨w.heap.size+1,3,none⟩) (by show gl≠w.heap.size+1;omega) (.slice (some ⟨gl,0,none⟩) m m)).other (a:=⟨w.heap.size+1,4,none⟩) (by show gl≠w.heap.size+1;omega) (.slice (some ⟨gp,0,none⟩) d.n d.n))
       have hp5:=IRow.ints (((((Row.other HSV.out.p (a:=⟨w.heap.size+1,0,none⟩) (by show gp≠w.heap.size+1;omega) (.slice A d.n cp)).other (a:=⟨w.heap.size+1,1,none⟩) (by show gp≠w.heap.size+1;omega) (.slice B m cq)).other (a:=⟨w.heap.size+1,2,none⟩) (by show gp≠w.heap.size+1;omega) (.int .i64 (d.lp:Int))).other (a:=⟨w.heap.size+1,3,none⟩) (by show gp≠w.heap.size+1;omega) (.slice (some ⟨gl,0,none⟩) m m)).other (a:=⟨w.heap.size+1,4,none⟩) (by show gp≠w.heap.size+1;omega) (.slice (some ⟨gp,0,none⟩) d.n d.n))
       have ll:(nats FL).length=4 * d.n:=by unfold nats;rw [List.length_map,HSV.out.lF];exact HM.out
       have lp:(nats F).length=d.n:=by unfold nats;rw [List.length_map,HSV.out.lR]
       rw [ll] at hl5
       rw [lp] at hp5
       refine ⟨_,_,m,d.n,FL,F,by rw [HM.out],⟨HG.out.keep hb5,hl5,hp5⟩,fun x y hx hy=>?_,fun x y hx hy=>?_,hb5⟩
       ·exact HFC.out.label hd.wf.nxb (fun _ h=>h) (fun _ _=>trivial) (F:=fun x=>FL.getD x 0) (fun i l x hi hx=>HFL.out.1 i l x ((List.getElem?_eq_some_iff.1 hi).1) hi hx) hx hy
       ·have hR : ∀ c, c < d.n → Pl.pv ps c = ((F.getD c 0 : Nat) : Int) := fun c hc => by
         obtain ⟨q,hq⟩:=Int.eq_ofNat_of_zero_le (KALL.out c hc)
         have hqP:q<P:=by have:=(KLB.out.lo c hc).2;omega
         have:=HLAB.out.1 q (Gl ps d.n q) c (by omega) (by rw [HGS.out,List.getElem?_map,List.getElem?_range hqP];rfl) (mem_Gl.2 ⟨hc,hq⟩)
         rw [this,hq]
        constructor
        ·intro e
         exact KLB.out.conn x y hx hy (KALL.out x hx) (by rw [hR x hx,hR y hy,e])
        ·intro e
         have:=KLB.out.same x y hx e (KALL.out x hx)
         rw [hR x hx,hR y hy] at this
         omega
end Go.Proofs.YtdgliimmnnhhjaaGreatDoor
end
