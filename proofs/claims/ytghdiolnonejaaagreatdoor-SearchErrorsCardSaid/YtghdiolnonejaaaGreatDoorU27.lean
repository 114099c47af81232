/-
 The texts Vp.
-/
import Derived.Test.YtghdiolnonejaaaGreatDoorS00
import Derived.Test.YtghdiolnonejaaaGreatDoorS02
import Derived.Test.YtghdiolnonejaaaGreatDoorS03
import Derived.Test.YtghdiolnonejaaaGreatDoorS04
import Derived.Test.YtghdiolnonejaaaGreatDoorS10
import Derived.Test.YtghdiolnonejaaaGreatDoorU01
import Derived.Test.YtghdiolnonejaaaGreatDoorU05
import Derived.Test.YtghdiolnonejaaaGreatDoorU18
import Derived.Test.YtghdiolnonejaaaGreatDoorU21
import Derived.Test.YtghdiolnonejaaaGreatDoorU23
import Derived.Test.YtghdiolnonejaaaGreatDoorU24
import Derived.Test.YtghdiolnonejaaaGreatDoorU25
import Derived.Test.YtghdiolnonejaaaGreatDoorU26
import Derived.BigQuiet
import Derived.Deep.AppendLies
import Derived.Deep.CutBlock
import Derived.Deep.CutRange
import Derived.Deep.DeepCutAuto
import Derived.Deep.DrawnRows
import Derived.Deep.Light
import Derived.Deep.LoopGhost
import Derived.Deep.QuietTactic
import Derived.Deep.RegionHeld3
import Derived.Deep.RegionLaw
import Derived.Deep.RegionWith
import Derived.Laws.AppendOwn
import Derived.Laws.MakeOwn
import Derived.Laws.OwnMore
import Derived.Laws.Rows
import Derived.Laws.Slices
import Derived.Maps.AppendAt
import Derived.Outline
import Derived.RegionTactic
import Derived.Shelf.Spec.SlicesGrow
import Derived.StillTailTactics
import Derived.Test.YtghdiolnonejaaaGreatDoorRows
import Derived.Test.YtghdiolnonejaaaGreatDoorShelf
import Derived.WalkKit
import Derived.WalkLawsBesides
import Derived.WalkSpells
set_option linter.unusedVariables false
set_option linter.unusedSimpArgs false
section
namespace Go.Proofs.YtghdiolnonejaaaGreatDoor
open Go Go.RowKit
attribute [local go_sem ↓] Go.wp_at_zero Go.wp_at_succ
set_option maxRecDepth 100000 in
set_option maxHeartbeats 8000000 in
theorem pieces_any (d:Pl.Dg) (hd:Pl.Valid d) (A B:Option Addr) (cp cq m:Nat) (w:World) (hm:m = 4 * d.n) (hg:DgAt w A B d) (h20:d.n ≤ 20) :
 Calls Tryz.prog 96 #[.agg #[.slice A d.n cp,.slice B m cq,.int .i64 d.lp]] w fun e w' => ∃ (A':Option Addr) (n c:Nat) (cs:List Value) (ps:List Pl.Pc),e = .returned (.slice A' n c) ∧ w'.ownsRow (w.heap.size + 1) 146 3 (.slice A' n c) n cs ∧ PcsV w' cs ps ∧ ps.length = n ∧ n ≤ d.n ∧ Pl.Pcs d ps ∧ Pl.Srt ps ∧ Below w.heap.size w w' := by
 have hn:=hd.wf.few
 have HM:=hide hm
 have HG:=hide hg
 have HD:=hide hd
 clear hm hg
 have X0:=hide (row_at (W := w) (g := w.heap.size) (t := 24) (vs := [.slice A d.n cp,.slice B m cq,.int .i64 d.lp]) rfl)
 have B0:=hide (show Below w.heap.size w (w.alloc (.cells #[.slice A d.n cp,.slice B m cq,.int .i64 d.lp] 24)) from (Below.refl _ _).alloc (Nat.le_refl _) _)
 go_enter Tryz.func96,Tryz.ntmps96
 obtain ⟨d0,d1,d2,d3⟩:=box3 X0.out
 go_wp2_with fail
 refine (graph_any d hd A B cp cq m _ HM.out (HG.out.keep B0.out)).mono ?_
 rintro e w1 ⟨AG,cG,P,ls,vs,rfl,hP,hLB,hpos,hrow,hvs,hb1,_⟩
 have HLB:=hide hLB
 have HPOS:=hide hpos
 have L0:=hide (show PL w d ls P AG vs [.slice A d.n cp,.slice B m cq,.int .i64 d.lp] 0 (.slice none 0 0) [] [] w1 from
  ⟨X0.out.below hb1,⟨hrow,hvs⟩,World.ownsRow_nil _ _ _ _,trivial,rfl,fun i p h => by simp at h,B0.out.trans (hb1.mono B0.out.size)⟩)
 clear hLB hpos hrow hvs hb1 X0 B0 d0 d1 d2 d3
 go_wp2_with fail
 go_loopg [3,5,6,8,9,10,11,15,34,40] P (fun g s3 s5 s6 s8 s9 s10 s11 s15 s34 s40 wx => ∃ (j:Nat) (cs:List Value) (ps:List Pl.Pc),j + g = P ∧ s15 = .int .i64 (j:Int) ∧ PL w d ls P AG vs [.slice A d.n cp,.slice B m cq,.int .i64 d.lp] j s3 cs ps wx)
 case atStart => exact ⟨0,_,_,by omega,rfl,L0.out⟩
 case round =>
  clear L0
  obtain ⟨j,cs,ps,hjg,rfl,hk⟩:=hrel
  have HJG:=hide hjg
  have K0:=hide hk
  have hjP:j ≤ P:=by omega
  clear hk
  obtain ⟨go,rfl⟩:∃ go,go = gk := ⟨_,rfl⟩
  by_cases hj:j < P
  ·have hji:(j:Int) < (P:Int):=by omega
   have j0:(0:Int) ≤ (j:Int):=by omega
   obtain ⟨v,hvj,AF,cF,rfl,hF⟩:=K0.out.gr.v.2 j _ (gl_at ls d.n hj)
   have hvl:=(List.getElem?_eq_some_iff.1 hvj).1
   obtain ⟨bG,oG,rfl,x1⟩:=RowAt.at_ K0.out.gr.r.row hj
   rw [(List.getElem?_eq_some_iff.1 hvj).2] at x1
   have HVJ:=hide hvj
   obtain ⟨l,hl⟩:∃ l,l = Gl ls d.n j := ⟨_,rfl⟩
   rw [← hl] at x1 hF
   obtain ⟨nl,hnl⟩:∃ n,n = l.length := ⟨_,rfl⟩
   have HNL:=hide hnl
   rw [← hnl] at x1
   have HLL:=hide hl
   have hnl64:nl ≤ 64:=by rw [hnl,hl]; have := Gl_len ls d.n j; omega
   obtain ⟨aLst,cL,rfl⟩:=owns_slice K0.out.own
   have hng:(Value.slice aLst j cL).ownBlock ≠ some wr.heap.size:=fun e => by have := (K0.out.own.lt _ e).2; omega
   have P0:=hide (show PI w d ls P (some ⟨bG,oG,none⟩) vs [.slice A d.n cp,.slice B m cq,.int .i64 d.lp] j (.slice aLst j cL) cs ps wr.heap.size 0 (.slice none 0 0) (.slice none 0 0) 0 (wr.alloc (.cells #[.slice none 0 0,.slice none 0 0,.int .i64 0] 146)) from
    ⟨K0.out.alloc _,row_at (vs := [.slice none 0 0,.slice none 0 0,.int .i64 0]) rfl,.inl ⟨rfl,rfl,rfl,rfl⟩,by have := K0.out.big; omega,hng⟩)
   have hlo:w.heap.size < wr.heap.size:=by have := K0.out.big; omega
   clear hvj hl hnl hF hjg hng
   obtain ⟨d0,d1,d2,d3⟩:=box3 K0.out.bx
   obtain ⟨g6,hg6⟩:∃ g,g = wr.heap.size := ⟨_,rfl⟩
   go_upto_region 6 with fail
   rw [← hg6] at P0 hlo ⊢
   clear hg6 d0 d1 d2 d3 x1 K0
   go_wp2_with fail
   go_loopg [8,9,10,11,21,34,40] nl (fun g s8 s9 s10 s11 s21 s34 s40 wx => ∃ (k:Nat) (vC vO:Value) (x:Int),k + g = nl ∧ s21 = .int .i64 (k:Int) ∧ PI w d ls P (some ⟨bG,oG,none⟩) vs [.slice A d.n cp,.slice B m cq,.int .i64 d.lp] j (.slice aLst j cL) cs ps g6 k vC vO x wx)
   case atStart => exact ⟨0,_,_,_,by omega,rfl,P0.out⟩
   case round =>
    clear P0
    obtain ⟨k,vC,vO,x,hkg,rfl,hk⟩:=hrel
    have HKG:=hide hkg
    have K0:=hide hk
    have hkn:k ≤ nl:=by omega
    clear hk
    obtain ⟨gi,rfl⟩:∃ gi,gi = gk := ⟨_,rfl⟩
    by_cases hk:k < nl
    ·have hki:(k:Int) < (nl:Int):=by omega
     have k0:(0:Int) ≤ (k:Int):=by omega
     obtain ⟨v',e',hF⟩:=K0.out.p.gr.v.2 j _ (gl_at ls d.n hj)
     rw [HVJ.out] at e'
     injection e' with e'
     subst e'
     have hF2:=hF.ints.2
     rw [← HLL.out,← HNL.out] at hF2
     obtain ⟨b8,o8,rfl,x8⟩:=nats_at hF2 hk
     obtain ⟨q,hq⟩:∃ q,q = l.getD k 0 := ⟨_,rfl⟩
     rw [← hq] at x8
     have hql:l[k]? = some q:=by rw [hq,List.getD_eq_getElem?_getD,List.getElem?_eq_getElem (by rw [← HNL.out]; exact hk)]; rfl
     have hqm:q ∈ Gl ls d.n j:=by rw [← HLL.out]; exact List.mem_of_getElem? hql
     have hqn:q < d.n:=(mem_Gl.1 hqm).1
     have HTK:=hide (show (Gl ls d.n j).take (k + 1) = (Gl ls d.n j).take k ++ [q] from Pl.take_one (by rw [← HLL.out]; exact hql))
     have hcc:=fun c (hc:c ∈ Gl ls d.n j) => gl_comp HLB.out HPOS.out hc hqm
     have hq0:(0:Int) ≤ (q:Int):=by omega
     have hbest:=K0.out.b.best HD.out.wf hqn hcc
     clear hF hF2 hq hql hqm hcc hkg
     obtain ⟨d0,d1,d2,d3⟩:=box3 K0.out.p.bx
     obtain ⟨f0,f1,f2,f3⟩:=box3 K0.out.r
     rcases hbest with ⟨hk0,hb⟩ | ⟨p,hpv,hl5,hx0,hxk,hb⟩
     ·have HB:=hide hb
      have hvn:vC = .slice none 0 0:=hb
      subst hvn
      have HK0:=hide hk0
      clear hb hk0
      go_wp2_with fail
      refine (number_any d HD.out.wf A B cp cq m q _ none _ HM.out (HG.out.keep K0.out.p.bel) hqn HB.out).mono ?_
      intro e w2 hres
      obtain ⟨vC',vO',rfl,own1,own2⟩:=hres.2.1 (by rw [Pl.vall_none]; omega)
      have K2:=hide (K0.out.below hres.2.2)
      obtain ⟨A1,e1,rfl⟩:=owns_slice own1
      obtain ⟨A2,e2,rfl⟩:=owns_slice own2
      have HP:=hide (show PcV w2 (.slice A1 (Pl.code d q).length e1) (.slice A2 (Pl.ord d q).length e2) 1 ⟨Pl.code d q,Pl.ord d q,1⟩ from ⟨own_intT own1,own_natT own2,rfl⟩)
      rw [show Pl.vall none (Pl.code d q) = -1 from Pl.vall_none _]
      clear hres own1 own2 d0 d1 d2 d3 f0 f1 f2 f3 x8 K0
      obtain ⟨f0,f1,f2,f3⟩:=box3 K2.out.r
      go_wp2
      go_roundg (gi - 1)
      case measure => have := HKG.out; omega
      case rel => exact ⟨k + 1,_,_,1,by have := HKG.out; omega,by go_num,K2.out.put HP.out (by rw [HTK.out,HK0.out]; exact Pl.Lst5.one q 1)⟩
     ·have HB:=hide hb
      obtain ⟨bb,bo,bc,rfl,hrest⟩:=hb
      clear hrest
      have HPV:=hide hpv
      have HL5:=hide hl5
      clear hpv hl5
      go_wp2_with fail
      refine (number_any d HD.out.wf A B cp cq m q _ (some p.code) _ HM.out (HG.out.keep K0.out.p.bel) hqn HB.out).mono ?_
      intro e w2 hres
      have K2:=hide (K0.out.below hres.2.2)
      have HPV2:=hide (HPV.out.below hres.2.2)
      clear d0 d1 d2 d3 f0 f1 f2 f3 x8 K0 HPV HB
      obtain ⟨f0,f1,f2,f3⟩:=box3 K2.out.r
      obtain ⟨v,hv⟩:∃ v,v = Pl.vall (some p.code) (Pl.code d q) := ⟨_,rfl⟩
      have HV:=hide (show v = Pl.lx (Pl.code d q) p.code from hv.trans (Pl.vall_some _ _))
      by_cases hv0:0 < v
      ·obtain rfl := hres.1 (by rw [← hv]; exact hv0)
       clear hres hv
       have HLS:=hide (HL5.out.more (q := q) (by rw [← HV.out]; omega) x)
       go_wp2
       go_roundg (gi - 1)
       case measure => have := HKG.out; omega
       case rel => exact ⟨k + 1,_,_,x,by have := HKG.out; omega,by go_num,K2.out.skip HPV2.out (by rw [HTK.out]; exact HLS.out) hx0 hxk⟩
      ·obtain ⟨vC',vO',rfl,own1,own2⟩:=hres.2.1 (by rw [← hv]; exact hv0)
       obtain ⟨A1,e1,rfl⟩:=owns_slice own1
       obtain ⟨A2,e2,rfl⟩:=owns_slice own2
       have HP:=hide (show PcV w2 (.slice A1 (Pl.code d q).length e1) (.slice A2 (Pl.ord d q).length e2) 1 ⟨Pl.code d q,Pl.ord d q,1⟩ from ⟨own_intT own1,own_natT own2,rfl⟩)
       rw [← hv]
       clear hres hv own1 own2
       by_cases hvz:v = 0
       ·have HLS:=hide (HL5.out.more (q := q) (by rw [← HV.out]; omega) (x + 1))
        subst hvz
        have hx64:x ≤ 64:=by omega
        go_wp2
        go_roundg (gi - 1)
        case measure => have := HKG.out; omega
        case rel => exact ⟨k + 1,_,_,x + 1,by have := HKG.out; omega,by go_num,K2.out.more HPV2.out (by rw [HTK.out]; exact HLS.out) hx0 hxk⟩
       ·have hvn:v < 0:=by omega
        have HLS:=hide (HL5.out.less (q := q) (by rw [← HV.out]; exact hvn) 1)
        clear hvz hv0
        go_wp2
        go_roundg (gi - 1)
        case measure => have := HKG.out; omega
        case rel => exact ⟨k + 1,_,_,1,by have := HKG.out; omega,by go_num,K2.out.put HP.out (by rw [HTK.out]; exact HLS.out)⟩
    ·have hki:¬ ((k:Int) < (nl:Int)):=by omega
     have hnl0:0 < nl:=by
      obtain ⟨a,ha,he⟩:=HLB.out.all j hj
      rw [HNL.out,HLL.out]
      exact List.length_pos_of_mem (mem_Gl.2 ⟨ha,he⟩)
     rcases K0.out.b with ⟨h0,_⟩ | ⟨p,hp,hl5,hx0,hxk⟩
     ·omega
     ·have HP:=hide hp
      have HL5:=hide (show Pl.Lst5 d (Gl ls d.n j) p by
       have h:(Gl ls d.n j).take k = Gl ls d.n j:=List.take_of_length_le (by rw [← HLL.out,← HNL.out]; omega)
       rw [h] at hl5
       exact hl5)
      clear hp hl5
      obtain ⟨A1,e1,h1,h1b⟩:=HP.out.c
      obtain ⟨A2,e2,h2,h2b⟩:=HP.out.o
      subst h1
      subst h2
      clear h1b h2b hkg hnl0
      have hj64:j ≤ 64:=by omega
      obtain ⟨f0,f1,f2,f3⟩:=box3 K0.out.r
      have KA:=hide (K0.out.p.alloc (.cells #[.slice A1 p.code.length e1,.slice A2 (nats p.order).length e2,.int .i64 x] 146))
      have HPA:=hide (HP.out.below ((Below.refl wr.heap.size wr).alloc (Nat.le_refl _) (.cells #[.slice A1 p.code.length e1,.slice A2 (nats p.order).length e2,.int .i64 x] 146)))
      obtain ⟨i0,hi0,hz0,hz1,hz2⟩:=info_parts pieceInfo
      have P1:∀ u ∈ [Value.slice A1 p.code.length e1,.slice A2 (nats p.order).length e2,.int .i64 x],u.oneCell' = true:=by simp [Value.oneCell']
      go_wp2_with (at_builtin; refine wpList_append_lies _ (by rfl) _ _ 143 (by rfl) (w.heap.size + 1) 146 i0 (.agg #[.slice none 0 0,.slice none 0 0,.int .i64 0]) 3 56 Tryz.underlying143 hi0 hz0 hz1 hz2 rfl (by omega) _ j cs (by rfl) KA.out.own ⟨wr.heap.size,0,none⟩ 1 1 [.slice A1 p.code.length e1,.slice A2 (nats p.order).length e2,.int .i64 x] (by rfl) (by rfl) (three_news wr _ rfl _ _ _) P1 (by omega) (by unfold maxLen; omega) (by omega) KA.out.big (wr.heap.size + 1) (by simp) ?_; intro g3 c3 w3 own3 grow3 at3 lt3; have OWN3 := hide own3; have GR3 := hide grow3; clear own3 grow3 at3)
      go_roundg (go - 1)
      case measure => have := HJG.out; omega
      case rel => exact ⟨j + 1,_,_,by have := HJG.out; omega,by go_num,KA.out.app OWN3.out GR3.out rfl HPA.out HL5.out⟩
  ·have hji:¬ ((j:Int) < (P:Int)):=by omega
   obtain ⟨aLst,cL,rfl⟩:=owns_slice K0.out.own
   have hjP':j = P:=by omega
   have hPd:=HLB.out.le
   have HPCS:=hide (pcs_groups HD.out.wf HLB.out HPOS.out (by rw [K0.out.len]; exact hjP') K0.out.is)
   have S0:=hide (show SI (w.heap.size + 1) wr aLst j cL cs ps wr from ⟨K0.out.own,K0.out.pv,K0.out.len,Below.refl _ _,K0.out.big⟩)
   have BW:=hide K0.out.bel
   clear K0 hjP'
   go_wp2_with fail
   refine (sort_any (w.heap.size + 1) aLst j cL cs ps _ S0.out (pcs_sz HD.out.wf HPCS.out) (by omega)).mono ?_
   rintro e w1 ⟨⟨v,rfl⟩,cs',ps',hS,hP,hW⟩
   have HR:=hide (show ∃ (A':Option Addr) (n c:Nat) (cs:List Value) (ps:List Pl.Pc),Ending.returned (.slice aLst j cL) = .returned (.slice A' n c) ∧ w1.ownsRow (w.heap.size + 1) 146 3 (.slice A' n c) n cs ∧ PcsV w1 cs ps ∧ ps.length = n ∧ n ≤ d.n ∧ Pl.Pcs d ps ∧ Pl.Srt ps ∧ Below w.heap.size w w1 from
    ⟨aLst,j,cL,cs',ps',rfl,hS.own,hS.pv,hS.len,by omega,pcs_perm HPCS.out hP,hW,BW.out.trans (hS.bel.mono (Nat.le_succ _))⟩)
   clear hS hP hW
   go_wp2
   go_ret
   exact HR.out
end Go.Proofs.YtghdiolnonejaaaGreatDoor
end
