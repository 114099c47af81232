/-
 The texts Ld, Le.
-/
import Derived.Test.YtobbepmlmbbamaaE33
import Derived.Test.YtobbepmlmbbamaaE36
set_option linter.unusedVariables false
set_option linter.unusedSimpArgs false
section
namespace Go.Proofs.Ytobbepmlmbbamaa
open Go Go.RowKit
attribute [local go_sem ↓] Go.wp_at_zero Go.wp_at_succ
structure AR (w:World) (dv:List Value) (b:Nat) (v:Value) (ms:List Mv) (R:Option Addr) (nr:Nat) (rs:List Mv) (W:World):Prop where
 al:AL w dv b v ms W
 rv:MovesV W R nr rs
 ne:∀ g,0 < nr → R = some ⟨g,0,none⟩ → some g ≠ v.ownBlock
section
variable {w W W':World} {dv:List Value} {b nr:Nat} {v v':Value} {ms ms' rs:List Mv} {R:Option Addr}
theorem AR.step (h:AR w dv b v ms R nr rs W) (ha:AL w dv b v' ms' W') (hs:Sep W W' v v'):AR w dv b v' ms' R nr rs W' :=
 ⟨ha, ⟨h.rv.1, fun hp => let ⟨g, e, hl, hc⟩ := h.rv.2 hp; ⟨g, e, Nat.lt_of_lt_of_le hl hs.2.2, fun j z hz i u hu => hs.1 _ _ hl (h.ne g hp e) (hc j z hz i u hu)⟩⟩, fun g hp e c => by
   rcases hs.2.1 g c.symm with h1 | h1
   ·exact h.ne g hp e h1.symm
   ·obtain ⟨g',e',hl,_⟩:=h.rv.2 hp
    rw [e] at e'
    injection e' with e'
    injection e' with e'
    omega⟩
theorem AR.start {c:Nat} (h:AL w dv b v ms W) (hm:MovesIn W.heap.size W' (.slice R nr c) rs) (hb:Below W.heap.size W W') (hv:MovesV W' R nr rs):AR w dv b v ms R nr rs W' :=
 ⟨h.below hb, hv, fun g hp e k => by
   subst e
   obtain ⟨base,h1,h2,h3⟩:=hm
   have a:=(World.ownsRow.lt h3 g rfl).1
   have b:=(h.o.lt g k.symm).2
   omega⟩
end
theorem sel_take {d:Pl.Dg} {L:List Mv} {j:Nat} {z:Mv} (h:L[j]? = some z):sel d (L.take (j + 1)) = sel d (L.take j) ++ one (apC d z) z := by
 obtain ⟨hq,e⟩:=List.getElem?_eq_some_iff.1 h
 rw [List.take_succ_eq_append_getElem hq,sel_app,e,sel_cons,sel_nil,List.append_nil]
theorem sel_takeN (d:Pl.Dg) (L:List Mv) (j n:Nat) (h:L.length ≤ n):(sel d (L.take j)).length ≤ n :=
 Nat.le_trans (sel_len d _) (Nat.le_trans (List.length_take_le' _ _) h)
def kIs (k:Int) (z:Mv):Bool := z.kind == k
theorem rem_un (d:Pl.Dg):(remL d).filter (kIs 2) = sel d (unC d.n) := by
 unfold remL
 rw [List.filter_append,filter_every (fun z hz => by unfold kIs; rw [un_kind hz]; rfl),filter_none (fun z hz => by unfold kIs; rw [up_kind hz]; rfl),List.append_nil]
theorem rem_up (d:Pl.Dg):(remL d).filter (kIs 4) = sel d (upNX d.n d.n) := by
 unfold remL
 rw [List.filter_append,filter_none (fun z hz => by unfold kIs; rw [un_kind hz]; rfl),filter_every (fun z hz => by unfold kIs; rw [up_kind hz]; rfl),List.nil_append]
set_option maxRecDepth 100000 in
set_option maxHeartbeats 16000000 in
theorem rAll_any (d:Pl.Dg) (hd:Pl.Valid d) (A B:Option Addr) (cp cq m:Nat) (w:World) (hm:m = 4 * d.n) (hg:DgAt w A B d) :
 Calls Try.prog 33 #[.agg #[.slice A d.n cp,.slice B m cq,.int .i64 d.lp]] w fun e w' => ∃ v,e = .returned v ∧ MovesIn w.heap.size w' v (allL d) ∧ Below w.heap.size w w' := by
 have HM:=hide hm
 have HG:=hide hg
 have HW:=hide hd.wf
 have hn:=hd.wf.few
 have hm2:m ≤ 256:=by omega
 have lun:=un_le (d := d) hn
 have lup:=up_le (d := d) hn
 have lrm:=remL_le (d := d) hn
 have P0:=hide (AL.start w A B d.n cp m cq d.lp)
 clear hg hm
 go_enter Try.func33,Try.ntmps33
 go_wp2
 go_loopg [3,5,6] (m + 1) (fun g s3 s5 s6 wx => ∃ (k:Nat),k + g = m + 1 ∧ s5 = .int .i64 ((k:Int) - 1) ∧ AL w [.slice A d.n cp,.slice B m cq,.int .i64 (d.lp:Int)] (w.heap.size + 1) s3 (sel d (cuC k)) wx)
 case atStart => exact ⟨0,by omega,rfl,P0.out⟩
 case round =>
  clear P0
  obtain ⟨k,hkg,rfl,hp⟩:=hrel
  obtain ⟨g1,rfl⟩:∃ go,go = gk := ⟨_,rfl⟩
  have HKG:=hide hkg
  have PK:=hide hp
  have hlen:(sel d (cuC k)).length ≤ 4 * k:=by
   have a:=cuL_len d k
   rw [cu_sel d _ (by have := HM.out; omega)] at a
   omega
  obtain ⟨x,hx⟩:∃ x:Int,x = (k:Int) - 1 := ⟨_,rfl⟩
  have HX:=hide hx
  rw [← hx]
  obtain ⟨d0,d1,d2,d3⟩:=box3 hp.d
  clear hp hx
  by_cases hk:k < m + 1
  ·have hki:x < 4 * (d.n:Int):=by have := HX.out; have := HM.out; omega
   have x0:-1 ≤ x:=by have := HX.out; omega
   clear hkg
   go_wp2
   go_loopg [3,6] 4 (fun g s3 s6 wx => ∃ (j:Nat),j + g = 4 ∧ s6 = .int .i64 (j:Int) ∧ AL w [.slice A d.n cp,.slice B m cq,.int .i64 (d.lp:Int)] (w.heap.size + 1) s3 (sel d (cuC k) ++ sel d ((cuN x).take j)) wx)
   case atStart => exact ⟨0,rfl,rfl,by rw [show sel d ((cuN x).take 0) = [] from rfl,List.append_nil]; exact PK.out⟩
   case round =>
    clear PK d0 d1 d2 d3
    obtain ⟨j,hjg,rfl,hq⟩:=hrel
    have HJG:=hide hjg
    have Q0:=hide hq
    have hl:=sel_takeN d (cuN x) j 4 (Nat.le_refl _)
    clear hq
    have hjs:j = 0 ∨ j = 1 ∨ j = 2 ∨ j = 3 ∨ j = 4:=by omega
    clear hjg
    rcases hjs with rfl | rfl | rfl | rfl | rfl
    ·obtain ⟨d0,d1,d2,d3⟩:=box3 Q0.out.d
     go_wp2_with fail
     refine (radd_any d hd A B cp cq m _ _ _ 1 x 0 (-1) false _ w _ HM.out (HG.out.keep Q0.out.bel) (by simp only [List.length_append]; omega) Q0.out).mono ?_
     rintro e w1 ⟨v1,rfl,hp1,hs1⟩
     have Q1:=hide hp1
     clear hp1 hs1
     go_wp2
     go_roundg 3
     case measure => have := HJG.out; omega
     case rel => exact ⟨1,rfl,by go_num,by rw [sel_take (L := cuN x) (j := 0) rfl,← List.append_assoc]; exact Q1.out⟩
    ·obtain ⟨d0,d1,d2,d3⟩:=box3 Q0.out.d
     go_wp2_with fail
     refine (radd_any d hd A B cp cq m _ _ _ 1 x 0 (-1) true _ w _ HM.out (HG.out.keep Q0.out.bel) (by simp only [List.length_append]; omega) Q0.out).mono ?_
     rintro e w1 ⟨v1,rfl,hp1,hs1⟩
     have Q1:=hide hp1
     clear hp1 hs1
     go_wp2
     go_roundg 2
     case measure => have := HJG.out; omega
     case rel => exact ⟨2,rfl,by go_num,by rw [sel_take (L := cuN x) (j := 1) rfl,← List.append_assoc]; exact Q1.out⟩
    ·obtain ⟨d0,d1,d2,d3⟩:=box3 Q0.out.d
     go_wp2_with fail
     refine (radd_any d hd A B cp cq m _ _ _ 1 x 0 1 false _ w _ HM.out (HG.out.keep Q0.out.bel) (by simp only [List.length_append]; omega) Q0.out).mono ?_
     rintro e w1 ⟨v1,rfl,hp1,hs1⟩
     have Q1:=hide hp1
     clear hp1 hs1
     go_wp2
     go_roundg 1
     case measure => have := HJG.out; omega
     case rel => exact ⟨3,rfl,by go_num,by rw [sel_take (L := cuN x) (j := 2) rfl,← List.append_assoc]; exact Q1.out⟩
    ·obtain ⟨d0,d1,d2,d3⟩:=box3 Q0.out.d
     go_wp2_with fail
     refine (radd_any d hd A B cp cq m _ _ _ 1 x 0 1 true _ w _ HM.out (HG.out.keep Q0.out.bel) (by simp only [List.length_append]; omega) Q0.out).mono ?_
     rintro e w1 ⟨v1,rfl,hp1,hs1⟩
     have Q1:=hide hp1
     clear hp1 hs1
     go_wp2
     go_roundg 0
     case measure => have := HJG.out; omega
     case rel => exact ⟨4,rfl,by go_num,by rw [sel_take (L := cuN x) (j := 3) rfl,← List.append_assoc]; exact Q1.out⟩
    ·have E2 := hide (show sel d (cuC (k + 1)) = sel d (cuC k) ++ sel d ((cuN x).take 4) by
      show sel d (cuC k ++ cuN ((k:Int) - 1)) = _
      rw [sel_app,← HX.out]; rfl)
     have EK:=hide (show x + 1 = ((k + 1:Nat):Int) - 1 by have := HX.out; omega)
     go_wp2
     go_roundg (g1 - 1)
     case measure => have := HKG.out; omega
     case rel => exact ⟨k + 1,by have := HKG.out; omega,by rw [EK.out],by rw [E2.out]; exact Q0.out⟩
  ·have hki:¬ (x < 4 * (d.n:Int)):=by have := HX.out; have := HM.out; omega
   obtain rfl:k = 4 * d.n + 1 := by have := HM.out; omega
   clear hkg HKG HX
   obtain ⟨U,hU⟩:∃ U,U = sel d (cuC (4 * d.n + 1)) := ⟨_,rfl⟩
   rw [← hU] at hlen PK
   have HU:=hide hU
   clear hU
   go_wp2_with fail
   refine (rRemoving_any d hd A B cp cq m _ HM.out (HG.out.keep PK.out.bel)).mono ?_
   rintro e w2 ⟨vr,rfl,hvr,hb2⟩
   obtain ⟨R,cr,rfl,hmv⟩:=hvr.at.mv
   have hq2:=AR.start PK.out hvr hb2 hmv
   clear hvr hb2 hmv PK d0 d1 d2 d3
   obtain ⟨nr,hnr⟩:∃ n,n = (remL d).length := ⟨_,rfl⟩
   rw [← hnr] at hq2 lrm ⊢
   have HNR:=hide hnr
   have Q2:=hide hq2
   clear hnr hq2
   go_wp2
   go_loopg [3,8] nr (fun g s3 s8 wx => ∃ (i:Nat),i + g = nr ∧ s8 = .int .i64 (i:Int) ∧ AR w [.slice A d.n cp,.slice B m cq,.int .i64 (d.lp:Int)] (w.heap.size + 1) s3 (U ++ ((remL d).take i).filter (kIs 2)) R nr (remL d) wx)
   case atStart => exact ⟨0,by omega,rfl,by rw [show ((remL d).take 0).filter (kIs 2) = [] from rfl,List.append_nil]; exact Q2.out⟩
   case round =>
    clear Q2
    obtain ⟨i,hkg,rfl,hp⟩:=hrel
    have HIG:=hide hkg
    have PK:=hide hp
    have hfl:=filt_len (L := remL d) (kIs 2) i
    rw [← HNR.out] at hfl
    obtain ⟨d0,d1,d2,d3⟩:=box3 hp.al.d
    clear hp
    by_cases hi:i < nr
    ·have hii:(i:Int) < (nr:Int):=by omega
     have i0:(0:Int) ≤ (i:Int):=by omega
     obtain ⟨gr,kk,xx,yy,ss,oo,rfl,hgr,hz,a0,a1,a2,a3,a4⟩:=PK.out.rv.at_ hi
     clear hkg
     have F:=hide (filt_s (kIs 2) hz)
     clear hz
     by_cases h2:kk = 2
     ·subst h2
      have F2:=hide (show ((remL d).take (i + 1)).filter (kIs 2) = ((remL d).take i).filter (kIs 2) ++ [⟨2,xx,yy,ss,oo⟩] by rw [F.out]; rfl)
      obtain ⟨n0,hn0,hz0,hz1,hz2⟩:=info_parts moveInfo
      have PB:=hide (PK.out.al.below ((Below.refl _ _).alloc (Nat.le_refl _) (.cells (Mv.cells ⟨2,xx,yy,ss,oo⟩).toArray 28)))
      obtain ⟨ln,hln⟩:∃ n,n = (U ++ ((remL d).take i).filter (kIs 2)).length := ⟨_,rfl⟩
      have hlb:ln ≤ 1000000:=by rw [hln]; simp only [List.length_append]; omega
      have A0:=PB.out.o
      rw [← hln] at A0
      have A1:∀ u ∈ Mv.cells ⟨2,xx,yy,ss,oo⟩,u.oneCell' = true:=by simp [Mv.cells,Value.oneCell']
      have A2:ln + 1 ≤ maxLen:=by unfold maxLen; omega
      have A3:(ln + 1) * 40 ≤ 140737488355328:=by omega
      have A6:=hide (five_news wr wr.heap.size rfl ⟨2,xx,yy,ss,oo⟩)
      have hb2:=PK.out.al.lo2
      have A0':=hide A0
      have HLN:=hide hln
      clear A0 hln
      go_wp2_with (at_builtin; refine wpList_append_lies _ (by rfl) _ _ 31 (by rfl) (w.heap.size + 1) 28 n0 (.agg #[.int .i64 0,.int .i64 0,.int .i64 0,.int .i64 0,.bool false]) 5 40 Try.underlying31 hn0 hz0 hz1 hz2 rfl (by omega) _ ln _ (by rfl) A0'.out ⟨wr.heap.size,0,none⟩ 1 1 (Mv.cells ⟨2,xx,yy,ss,oo⟩) (by rfl) (by rfl) A6.out A1 (by omega) A2 A3 (by simp; omega) (wr.heap.size + 1) (by simp) ?_; intro g2 c2 w3 own2 grow2 at2 lt2; have Q3 := hide (PK.out.step (PB.out.app (r := [⟨2,xx,yy,ss,oo⟩]) (v' := .slice (some ⟨g2,0,none⟩) (ln + 1) c2) (by rw [HLN.out] at own2 ⊢; exact own2) grow2) (Sep.app ((Below.refl _ _).alloc (Nat.le_refl _) _) grow2 at2 (by omega))); clear own2 grow2 at2)
      go_roundg (gk - 1)
      case measure => have := HIG.out; omega
      case rel => exact ⟨i + 1,by have := HIG.out; omega,by go_num,by rw [F2.out,← List.append_assoc]; exact Q3.out⟩
     ·have t1:(kk == 2) = false:=by rw [beq_eq_false_iff_ne]; exact h2
      have F2:=hide (show ((remL d).take (i + 1)).filter (kIs 2) = ((remL d).take i).filter (kIs 2) by
       rw [F.out]
       unfold kIs
       rw [t1]
       simp)
      go_wp2
      go_roundg (gk - 1)
      case measure => have := HIG.out; omega
      case rel => exact ⟨i + 1,by have := HIG.out; omega,by go_num,by rw [F2.out]; exact PK.out⟩
    ·have hii:¬ ((i:Int) < (nr:Int)):=by omega
     have EI:=hide (show ((remL d).take i).filter (kIs 2) = sel d (unC d.n) by
      obtain rfl:i = nr := by omega
      rw [HNR.out,List.take_length]
      exact rem_un d)
     rw [EI.out] at PK
     clear hkg HIG EI hfl
     obtain ⟨U2,hU2⟩:∃ V,V = U ++ sel d (unC d.n) := ⟨_,rfl⟩
     have hU2l:U2.length ≤ 1100:=by rw [hU2,List.length_append]; omega
     rw [← hU2] at PK
     have HU2:=hide hU2
     clear hU2
     go_wp2
     go_loopg [3,9,10,11] (m + 2) (fun g s3 s9 s10 s11 wx => ∃ (k:Nat),k + g = m + 2 ∧ s9 = .int .i64 ((k:Int) - 2) ∧ AR w [.slice A d.n cp,.slice B m cq,.int .i64 (d.lp:Int)] (w.heap.size + 1) s3 (U2 ++ sel d (pkNX d.n k)) R nr (remL d) wx)
     case atStart => exact ⟨0,by omega,rfl,by rw [show sel d (pkNX d.n 0) = [] from rfl,List.append_nil]; exact PK.out⟩
     case round =>
      clear PK d0 d1 d2 d3
      obtain ⟨k,hkg,rfl,hp⟩:=hrel
      obtain ⟨g1,rfl⟩:∃ go,go = gk := ⟨_,rfl⟩
      have HKG:=hide hkg
      have PK:=hide hp
      have hlen:=Nat.le_trans (sel_len d (pkNX d.n k)) (pkNX_len hn k)
      obtain ⟨x,hx⟩:∃ x:Int,x = (k:Int) - 2 := ⟨_,rfl⟩
      have HX:=hide hx
      rw [← hx]
      obtain ⟨d0,d1,d2,d3⟩:=box3 hp.al.d
      clear hp hx
      by_cases hk:k < m + 2
      ·have hki:x < 4 * (d.n:Int):=by have := HX.out; have := HM.out; omega
       have x0:-2 ≤ x:=by have := HX.out; omega
       clear hkg
       go_wp2
       go_loopg [3,10,11] (m + 2) (fun g s3 s10 s11 wx => ∃ (q:Nat),q + g = m + 2 ∧ s10 = .int .i64 ((q:Int) - 2) ∧ AR w [.slice A d.n cp,.slice B m cq,.int .i64 (d.lp:Int)] (w.heap.size + 1) s3 (U2 ++ sel d (pkNX d.n k) ++ sel d (pkNY x q)) R nr (remL d) wx)
       case atStart => exact ⟨0,by omega,rfl,by rw [show sel d (pkNY x 0) = [] from rfl,List.append_nil]; exact PK.out⟩
       case round =>
        clear PK d0 d1 d2 d3
        obtain ⟨q,hqg,rfl,hp⟩:=hrel
        obtain ⟨g4,rfl⟩:∃ go,go = gk := ⟨_,rfl⟩
        have HQG:=hide hqg
        have PQ:=hide hp
        have hlen2:=Nat.le_trans (sel_len d (pkNY x q)) (pkNY_len x q)
        obtain ⟨y,hy⟩:∃ y:Int,y = (q:Int) - 2 := ⟨_,rfl⟩
        have HY:=hide hy
        rw [← hy]
        obtain ⟨d0,d1,d2,d3⟩:=box3 hp.al.d
        clear hp hy
        by_cases hq:q < m + 2
        ·have hqi:y < 4 * (d.n:Int):=by have := HY.out; have := HM.out; omega
         have y0:-2 ≤ y:=by have := HY.out; omega
         clear hqg
         go_wp2
         go_loopg [3,11] 6 (fun g s3 s6 wx => ∃ (j:Nat),j + g = 6 ∧ s6 = .int .i64 (j:Int) ∧ AR w [.slice A d.n cp,.slice B m cq,.int .i64 (d.lp:Int)] (w.heap.size + 1) s3 (U2 ++ sel d (pkNX d.n k) ++ sel d (pkNY x q) ++ sel d ((pkN x y 3).take j)) R nr (remL d) wx)
         case atStart => exact ⟨0,rfl,rfl,by rw [show sel d ((pkN x y 3).take 0) = [] from rfl,List.append_nil]; exact PQ.out⟩
         case round =>
          clear PQ d0 d1 d2 d3
          obtain ⟨j,hjg,rfl,hq⟩:=hrel
          have HJG:=hide hjg
          have Q0:=hide hq
          have hl:=sel_takeN d (pkN x y 3) j 6 (Nat.le_refl _)
          clear hq
          have hjs:j = 0 ∨ j = 1 ∨ j = 2 ∨ j = 3 ∨ j = 4 ∨ j = 5 ∨ j = 6:=by omega
          clear hjg
          rcases hjs with rfl | rfl | rfl | rfl | rfl | rfl | rfl
          ·obtain ⟨d0,d1,d2,d3⟩:=box3 Q0.out.al.d
           go_wp2_with fail
           refine (radd_any d hd A B cp cq m _ _ _ 3 x y (-1) false _ w _ HM.out (HG.out.keep Q0.out.al.bel) (by simp only [List.length_append]; omega) Q0.out.al).mono ?_
           rintro e w1 ⟨v1,rfl,hp1,hs1⟩
           have Q1:=hide (Q0.out.step hp1 hs1)
           clear hp1 hs1
           go_wp2
           go_roundg 5
           case measure => have := HJG.out; omega
           case rel => exact ⟨1,rfl,by go_num,by rw [sel_take (L := pkN x y 3) (j := 0) rfl,← List.append_assoc]; exact Q1.out⟩
          ·obtain ⟨d0,d1,d2,d3⟩:=box3 Q0.out.al.d
           go_wp2_with fail
           refine (radd_any d hd A B cp cq m _ _ _ 3 x y (-1) true _ w _ HM.out (HG.out.keep Q0.out.al.bel) (by simp only [List.length_append]; omega) Q0.out.al).mono ?_
           rintro e w1 ⟨v1,rfl,hp1,hs1⟩
           have Q1:=hide (Q0.out.step hp1 hs1)
           clear hp1 hs1
           go_wp2
           go_roundg 4
           case measure => have := HJG.out; omega
           case rel => exact ⟨2,rfl,by go_num,by rw [sel_take (L := pkN x y 3) (j := 1) rfl,← List.append_assoc]; exact Q1.out⟩
          ·obtain ⟨d0,d1,d2,d3⟩:=box3 Q0.out.al.d
           go_wp2_with fail
           refine (radd_any d hd A B cp cq m _ _ _ 3 x y 0 false _ w _ HM.out (HG.out.keep Q0.out.al.bel) (by simp only [List.length_append]; omega) Q0.out.al).mono ?_
           rintro e w1 ⟨v1,rfl,hp1,hs1⟩
           have Q1:=hide (Q0.out.step hp1 hs1)
           clear hp1 hs1
           go_wp2
           go_roundg 3
           case measure => have := HJG.out; omega
           case rel => exact ⟨3,rfl,by go_num,by rw [sel_take (L := pkN x y 3) (j := 2) rfl,← List.append_assoc]; exact Q1.out⟩
          ·obtain ⟨d0,d1,d2,d3⟩:=box3 Q0.out.al.d
           go_wp2_with fail
           refine (radd_any d hd A B cp cq m _ _ _ 3 x y 0 true _ w _ HM.out (HG.out.keep Q0.out.al.bel) (by simp only [List.length_append]; omega) Q0.out.al).mono ?_
           rintro e w1 ⟨v1,rfl,hp1,hs1⟩
           have Q1:=hide (Q0.out.step hp1 hs1)
           clear hp1 hs1
           go_wp2
           go_roundg 2
           case measure => have := HJG.out; omega
           case rel => exact ⟨4,rfl,by go_num,by rw [sel_take (L := pkN x y 3) (j := 3) rfl,← List.append_assoc]; exact Q1.out⟩
          ·obtain ⟨d0,d1,d2,d3⟩:=box3 Q0.out.al.d
           go_wp2_with fail
           refine (radd_any d hd A B cp cq m _ _ _ 3 x y 1 false _ w _ HM.out (HG.out.keep Q0.out.al.bel) (by simp only [List.length_append]; omega) Q0.out.al).mono ?_
           rintro e w1 ⟨v1,rfl,hp1,hs1⟩
           have Q1:=hide (Q0.out.step hp1 hs1)
           clear hp1 hs1
           go_wp2
           go_roundg 1
           case measure => have := HJG.out; omega
           case rel => exact ⟨5,rfl,by go_num,by rw [sel_take (L := pkN x y 3) (j := 4) rfl,← List.append_assoc]; exact Q1.out⟩
          ·obtain ⟨d0,d1,d2,d3⟩:=box3 Q0.out.al.d
           go_wp2_with fail
           refine (radd_any d hd A B cp cq m _ _ _ 3 x y 1 true _ w _ HM.out (HG.out.keep Q0.out.al.bel) (by simp only [List.length_append]; omega) Q0.out.al).mono ?_
           rintro e w1 ⟨v1,rfl,hp1,hs1⟩
           have Q1:=hide (Q0.out.step hp1 hs1)
           clear hp1 hs1
           go_wp2
           go_roundg 0
           case measure => have := HJG.out; omega
           case rel => exact ⟨6,rfl,by go_num,by rw [sel_take (L := pkN x y 3) (j := 5) rfl,← List.append_assoc]; exact Q1.out⟩
          ·have E2 := hide (show sel d (pkNY x (q + 1)) = sel d (pkNY x q) ++ sel d ((pkN x y 3).take 6) by
            show sel d (pkNY x q ++ pkN x ((q:Int) - 2) 3) = _
            rw [sel_app,← HY.out]; rfl)
           have EK:=hide (show y + 1 = ((q + 1:Nat):Int) - 2 by have := HY.out; omega)
           go_wp2
           go_roundg (g4 - 1)
           case measure => have := HQG.out; omega
           case rel => exact ⟨q + 1,by have := HQG.out; omega,by rw [EK.out],by rw [E2.out,← List.append_assoc]; exact Q0.out⟩
        ·have hqi:¬ (y < 4 * (d.n:Int)):=by have := HY.out; have := HM.out; omega
         have E2:=hide (show sel d (pkNX d.n (k + 1)) = sel d (pkNX d.n k) ++ sel d (pkNY x q) by
          have:q = 4 * d.n + 2:=by have := HM.out; omega
          rw [this]
          show sel d (pkNX d.n k ++ pkNY ((k:Int) - 2) (4 * d.n + 2)) = _
          rw [sel_app,← HX.out])
         have EK:=hide (show x + 1 = ((k + 1:Nat):Int) - 2 by have := HX.out; omega)
         clear hqg
         go_wp2
         go_roundg (g1 - 1)
         case measure => have := HKG.out; omega
         case rel => exact ⟨k + 1,by have := HKG.out; omega,by rw [EK.out],by rw [E2.out,← List.append_assoc]; exact PQ.out⟩
      ·have hki:¬ (x < 4 * (d.n:Int)):=by have := HX.out; have := HM.out; omega
       obtain rfl:k = 4 * d.n + 2 := by have := HM.out; omega
       clear hkg HKG HX
       obtain ⟨U3,hU3⟩:∃ V,V = U2 ++ sel d (pkNX d.n (4 * d.n + 2)) := ⟨_,rfl⟩
       have hU3l:U3.length ≤ 500000:=by rw [hU3,List.length_append]; omega
       rw [← hU3] at PK
       have HU3:=hide hU3
       clear hU3 hlen
       go_wp2
       go_loopg [3,12] nr (fun g s3 s8 wx => ∃ (i:Nat),i + g = nr ∧ s8 = .int .i64 (i:Int) ∧ AR w [.slice A d.n cp,.slice B m cq,.int .i64 (d.lp:Int)] (w.heap.size + 1) s3 (U3 ++ ((remL d).take i).filter (kIs 4)) R nr (remL d) wx)
       case atStart => exact ⟨0,by omega,rfl,by rw [show ((remL d).take 0).filter (kIs 4) = [] from rfl,List.append_nil]; exact PK.out⟩
       case round =>
        clear PK d0 d1 d2 d3
        obtain ⟨i,hkg,rfl,hp⟩:=hrel
        have HIG:=hide hkg
        have PK:=hide hp
        have hfl:=filt_len (L := remL d) (kIs 4) i
        rw [← HNR.out] at hfl
        obtain ⟨d0,d1,d2,d3⟩:=box3 hp.al.d
        clear hp
        by_cases hi:i < nr
        ·have hii:(i:Int) < (nr:Int):=by omega
         have i0:(0:Int) ≤ (i:Int):=by omega
         obtain ⟨gr,kk,xx,yy,ss,oo,rfl,hgr,hz,a0,a1,a2,a3,a4⟩:=PK.out.rv.at_ hi
         clear hkg
         have F:=hide (filt_s (kIs 4) hz)
         clear hz
         by_cases h2:kk = 4
         ·subst h2
          have F2:=hide (show ((remL d).take (i + 1)).filter (kIs 4) = ((remL d).take i).filter (kIs 4) ++ [⟨4,xx,yy,ss,oo⟩] by rw [F.out]; rfl)
          obtain ⟨n0,hn0,hz0,hz1,hz2⟩:=info_parts moveInfo
          have PB:=hide (PK.out.al.below ((Below.refl _ _).alloc (Nat.le_refl _) (.cells (Mv.cells ⟨4,xx,yy,ss,oo⟩).toArray 28)))
          obtain ⟨ln,hln⟩:∃ n,n = (U3 ++ ((remL d).take i).filter (kIs 4)).length := ⟨_,rfl⟩
          have hlb:ln ≤ 1000000:=by rw [hln]; simp only [List.length_append]; omega
          have A0:=PB.out.o
          rw [← hln] at A0
          have A1:∀ u ∈ Mv.cells ⟨4,xx,yy,ss,oo⟩,u.oneCell' = true:=by simp [Mv.cells,Value.oneCell']
          have A2:ln + 1 ≤ maxLen:=by unfold maxLen; omega
          have A3:(ln + 1) * 40 ≤ 140737488355328:=by omega
          have A6:=hide (five_news wr wr.heap.size rfl ⟨4,xx,yy,ss,oo⟩)
          have hb2:=PK.out.al.lo2
          have A0':=hide A0
          have HLN:=hide hln
          clear A0 hln
          go_wp2_with (at_builtin; refine wpList_append_lies _ (by rfl) _ _ 31 (by rfl) (w.heap.size + 1) 28 n0 (.agg #[.int .i64 0,.int .i64 0,.int .i64 0,.int .i64 0,.bool false]) 5 40 Try.underlying31 hn0 hz0 hz1 hz2 rfl (by omega) _ ln _ (by rfl) A0'.out ⟨wr.heap.size,0,none⟩ 1 1 (Mv.cells ⟨4,xx,yy,ss,oo⟩) (by rfl) (by rfl) A6.out A1 (by omega) A2 A3 (by simp; omega) (wr.heap.size + 1) (by simp) ?_; intro g2 c2 w3 own2 grow2 at2 lt2; have Q3 := hide (PK.out.step (PB.out.app (r := [⟨4,xx,yy,ss,oo⟩]) (v' := .slice (some ⟨g2,0,none⟩) (ln + 1) c2) (by rw [HLN.out] at own2 ⊢; exact own2) grow2) (Sep.app ((Below.refl _ _).alloc (Nat.le_refl _) _) grow2 at2 (by omega))); clear own2 grow2 at2)
          go_roundg (gk - 1)
          case measure => have := HIG.out; omega
          case rel => exact ⟨i + 1,by have := HIG.out; omega,by go_num,by rw [F2.out,← List.append_assoc]; exact Q3.out⟩
         ·have t1:(kk == 4) = false:=by rw [beq_eq_false_iff_ne]; exact h2
          have F2:=hide (show ((remL d).take (i + 1)).filter (kIs 4) = ((remL d).take i).filter (kIs 4) by
           rw [F.out]
           unfold kIs
           rw [t1]
           simp)
          go_wp2
          go_roundg (gk - 1)
          case measure => have := HIG.out; omega
          case rel => exact ⟨i + 1,by have := HIG.out; omega,by go_num,by rw [F2.out]; exact PK.out⟩
        ·have hii:¬ ((i:Int) < (nr:Int)):=by omega
         have EI:=hide (show ((remL d).take i).filter (kIs 4) = sel d (upNX d.n d.n) by
          obtain rfl:i = nr := by omega
          rw [HNR.out,List.take_length]
          exact rem_up d)
         rw [EI.out] at PK
         clear hkg HIG EI hfl
         go_wp2_with fail
         refine (rSlides_any d hd A B cp cq m _ HM.out (HG.out.keep PK.out.al.bel)).mono ?_
         rintro e w10 ⟨v10,rfl,hv10,hb10⟩
         rw [HM.out] at hv10
         have lsl:=slL_len d (4 * d.n)
         obtain ⟨A10,c10,rfl,src10⟩:=hv10.at.src
         have Q10:=hide (PK.out.al.below hb10)
         have S10:=hide src10
         have B10:(U3 ++ sel d (upNX d.n d.n)).length + (slL d (4 * d.n)).length ≤ maxLen:=by unfold maxLen; simp only [List.length_append]; omega
         have C10:((U3 ++ sel d (upNX d.n d.n)).length + (slL d (4 * d.n)).length) * 40 ≤ 140737488355328:=by simp only [List.length_append]; omega
         have D10:w.heap.size + 1 ≤ w10.heap.size:=Q10.out.lo2
         obtain ⟨n0,hn0,hz0,hz1,hz2⟩:=info_parts moveInfo
         clear hb10 hv10 src10 d0 d1 d2 d3 PK
         go_wp2_with (at_builtin; refine wpList_append_src _ (by rfl) _ _ 31 (by rfl) (w.heap.size + 1) 28 n0 (.agg #[.int .i64 0,.int .i64 0,.int .i64 0,.int .i64 0,.bool false]) 40 Try.underlying31 hn0 hz0 hz1 hz2 rfl _ _ _ (by rfl) Q10.out.o A10 _ c10 _ (by rfl) S10.out B10 C10 D10 ?_; intro v11 w11 own11 grow11; have Q11 := hide (Q10.out.app own11 grow11); clear own11 grow11)
         go_ret
         refine ⟨_,rfl,⟨w.heap.size + 1,by omega,Q11.out.lo2,?_⟩,Q11.out.bel⟩
         have:=Q11.out.o
         rw [HU3.out,HU2.out,HU.out] at this
         exact this
end Go.Proofs.Ytobbepmlmbbamaa
end
section
namespace Go.Proofs.Ytobbepmlmbbamaa
open Go Go.RowKit
attribute [local go_sem ↓] Go.wp_at_zero Go.wp_at_succ
set_option maxRecDepth 100000 in
set_option maxHeartbeats 2000000 in
theorem All_bad (sg mt:List Int) (lp:Int) (A B:Option Addr) (n q cp cq:Nat) (w:World) (hs:IntsAt w A n sg) (hm:IntsAt w B q mt) (hn:n ≤ maxLen) (hq:q ≤ maxLen) (hlp:-9223372036854775808 ≤ lp ∧ lp ≤ 9223372036854775807) (hv:¬ Pl.VL sg mt lp) :
 Calls Try.prog 30 #[.agg #[.slice A n cp,.slice B q cq,.int .i64 lp]] w fun e w' => e = .returned (.slice none 0 0) ∧ Below w.heap.size w w' := by
 have HS:=hide hs
 have HM:=hide hm
 have B0:=hide (show Below w.heap.size w (w.alloc (.cells #[.slice A n cp,.slice B q cq,.int .i64 lp] 24)) from (Below.refl _ _).alloc (Nat.le_refl _) _)
 clear hs hm
 go_enter Try.func30,Try.ntmps30
 go_wp2_with fail
 refine (valid_any sg mt lp A B n q cp cq _ (HS.out.keep B0.out) (HM.out.keep B0.out) hn hq hlp).mono ?_
 rintro e w1 ⟨rfl,hb1⟩
 rw [Pl.vb_false hv]
 have B1:=hide (B0.out.trans (hb1.mono B0.out.size))
 clear hb1
 go_wp2
 go_ret
 exact ⟨rfl,B1.out⟩
set_option maxRecDepth 100000 in
set_option maxHeartbeats 2000000 in
theorem Removing_bad (sg mt:List Int) (lp:Int) (A B:Option Addr) (n q cp cq:Nat) (w:World) (hs:IntsAt w A n sg) (hm:IntsAt w B q mt) (hn:n ≤ maxLen) (hq:q ≤ maxLen) (hlp:-9223372036854775808 ≤ lp ∧ lp ≤ 9223372036854775807) (hv:¬ Pl.VL sg mt lp) :
 Calls Try.prog 31 #[.agg #[.slice A n cp,.slice B q cq,.int .i64 lp]] w fun e w' => e = .returned (.slice none 0 0) ∧ Below w.heap.size w w' := by
 have HS:=hide hs
 have HM:=hide hm
 have B0:=hide (show Below w.heap.size w (w.alloc (.cells #[.slice A n cp,.slice B q cq,.int .i64 lp] 24)) from (Below.refl _ _).alloc (Nat.le_refl _) _)
 clear hs hm
 go_enter Try.func31,Try.ntmps31
 go_wp2_with fail
 refine (valid_any sg mt lp A B n q cp cq _ (HS.out.keep B0.out) (HM.out.keep B0.out) hn hq hlp).mono ?_
 rintro e w1 ⟨rfl,hb1⟩
 rw [Pl.vb_false hv]
 have B1:=hide (B0.out.trans (hb1.mono B0.out.size))
 clear hb1
 go_wp2
 go_ret
 exact ⟨rfl,B1.out⟩
set_option maxRecDepth 100000 in
set_option maxHeartbeats 2000000 in
theorem Slides_bad (sg mt:List Int) (lp:Int) (A B:Option Addr) (n q cp cq:Nat) (w:World) (hs:IntsAt w A n sg) (hm:IntsAt w B q mt) (hn:n ≤ maxLen) (hq:q ≤ maxLen) (hlp:-9223372036854775808 ≤ lp ∧ lp ≤ 9223372036854775807) (hv:¬ Pl.VL sg mt lp) :
 Calls Try.prog 28 #[.agg #[.slice A n cp,.slice B q cq,.int .i64 lp]] w fun e w' => e = .returned (.slice none 0 0) ∧ Below w.heap.size w w' := by
 have HS:=hide hs
 have HM:=hide hm
 have B0:=hide (show Below w.heap.size w (w.alloc (.cells #[.slice A n cp,.slice B q cq,.int .i64 lp] 24)) from (Below.refl _ _).alloc (Nat.le_refl _) _)
 clear hs hm
 go_enter Try.func28,Try.ntmps28
 go_wp2_with fail
 refine (valid_any sg mt lp A B n q cp cq _ (HS.out.keep B0.out) (HM.out.keep B0.out) hn hq hlp).mono ?_
 rintro e w1 ⟨rfl,hb1⟩
 rw [Pl.vb_false hv]
 have B1:=hide (B0.out.trans (hb1.mono B0.out.size))
 clear hb1
 go_wp2
 go_ret
 exact ⟨rfl,B1.out⟩
theorem box3c {W:World} {g:Nat} {t:TypeId} {a b c:Value} (h:Row W g t [a,b,c]):W.cell? ⟨g,0,none⟩ = some a ∧ W.cell? ⟨g,1,none⟩ = some b ∧ W.cell? ⟨g,2,none⟩ = some c :=
 let ⟨x,y,z,_⟩:=box3 h; ⟨x,y,z⟩
set_option maxRecDepth 100000 in
set_option maxHeartbeats 4000000 in
theorem mall_bad (sg mt:List Int) (lp:Int) (A B:Option Addr) (n q cp cq:Nat) (w:World) (hs:IntsAt w A n sg) (hm:IntsAt w B q mt) (hn:n ≤ maxLen) (hq:q ≤ maxLen) (hlp:-9223372036854775808 ≤ lp ∧ lp ≤ 9223372036854775807) (hv:¬ Pl.VL sg mt lp) :
 Calls Try.prog 9 #[.agg #[.slice A n cp,.slice B q cq,.int .i64 lp]] w fun e w' => e = .returned (.bool true) ∧ Below w.heap.size w w' := by
 have HS:=hide hs
 have HM:=hide hm
 clear hs hm
 have B0:=hide (show Below w.heap.size w (w.alloc (.cells #[.slice A n cp,.slice B q cq,.int .i64 lp] 24)) from (Below.refl _ _).alloc (Nat.le_refl _) _)
 have X0:=hide (show Row (w.alloc (.cells #[.slice A n cp,.slice B q cq,.int .i64 lp] 24)) w.heap.size 24 [.slice A n cp,.slice B q cq,.int .i64 lp] from row_at (vs := [_,_,_]) rfl)
 go_enter Try.func9,Try.ntmps9
 go_wp2_with fail
 refine (awake_true _).mono ?_
 rintro e w1 ⟨rfl,hb1⟩
 have Y0:=hide (X0.out.below hb1)
 have B1:=hide (B0.out.trans (hb1.mono B0.out.size))
 clear X0 B0 hb1
 obtain ⟨d0,d1,d2,d3⟩:=box3 Y0.out
 go_wp2_with fail
 refine (small_any A B n q cp cq (.int .i64 lp) w1).mono ?_
 rintro e w2 ⟨he,hb2⟩
 have Z0:=hide (Y0.out.below hb2)
 have B2:=hide (B1.out.trans (hb2.mono B1.out.size))
 clear Y0 B1 hb2 d0 d1 d2 d3
 obtain ⟨d0,d1,d2,d3⟩:=box3 Z0.out
 rcases he with rfl | rfl
 ·go_wp2
  go_ret
  exact ⟨rfl,B2.out⟩
 ·by_cases h5:(5:Int) < (n:Int)
  ·go_wp2
   go_ret
   exact ⟨rfl,B2.out⟩
  ·go_wp2_with fail
   refine (rvalid_any sg mt lp A B n q cp cq _ (HS.out.keep B2.out) (HM.out.keep B2.out) hn hq hlp).mono ?_
   rintro e w3 ⟨rfl,hb3⟩
   rw [Pl.vb_false hv]
   have Z3:=hide (Z0.out.below hb3)
   have B3:=hide (B2.out.trans (hb3.mono B2.out.size))
   clear hb3 Z0 B2 d0 d1 d2 d3
   obtain ⟨d0,d1,d2,d3⟩:=box3 Z3.out
   go_wp2_with fail
   refine (All_bad sg mt lp A B n q cp cq _ (HS.out.keep B3.out) (HM.out.keep B3.out) hn hq hlp hv).mono ?_
   rintro e w4 ⟨rfl,hb4⟩
   have Z4:=hide (Z3.out.below hb4)
   have B4:=hide (B3.out.trans (hb4.mono B3.out.size))
   clear hb4 Z3 B3 d0 d1 d2 d3
   obtain ⟨d0,d1,d2,d3⟩:=box3 Z4.out
   go_wp2_with fail
   refine (Removing_bad sg mt lp A B n q cp cq _ (HS.out.keep B4.out) (HM.out.keep B4.out) hn hq hlp hv).mono ?_
   rintro e w5 ⟨rfl,hb5⟩
   have Z5:=hide (Z4.out.below hb5)
   have B5:=hide (B4.out.trans (hb5.mono B4.out.size))
   clear hb5 Z4 B4 d0 d1 d2 d3
   obtain ⟨d0,d1,d2,d3⟩:=box3 Z5.out
   go_wp2_with fail
   refine (Slides_bad sg mt lp A B n q cp cq _ (HS.out.keep B5.out) (HM.out.keep B5.out) hn hq hlp hv).mono ?_
   rintro e w6 ⟨rfl,hb6⟩
   have B6:=hide (B5.out.trans (hb6.mono B5.out.size))
   clear hb6
   go_wp2
   go_ret
   exact ⟨rfl,B6.out⟩
set_option maxRecDepth 100000 in
set_option maxHeartbeats 8000000 in
theorem mall_valid (d:Pl.Dg) (hd:Pl.Valid d) (A B:Option Addr) (cp cq m:Nat) (w:World) (hm:m = 4 * d.n) (hg:DgAt w A B d) :
 Calls Try.prog 9 #[.agg #[.slice A d.n cp,.slice B m cq,.int .i64 d.lp]] w fun e w' => e = .returned (.bool true) ∧ Below w.heap.size w w' := by
 have hn:=hd.wf.few
 have HM:=hide hm
 have HG:=hide hg
 clear hm hg
 obtain ⟨L1,hL1⟩:∃ L,L = allL d := ⟨_,rfl⟩
 obtain ⟨L2,hL2⟩:∃ L,L = remL d := ⟨_,rfl⟩
 obtain ⟨L3,hL3⟩:∃ L,L = slL d m := ⟨_,rfl⟩
 obtain ⟨n1,hn1⟩:∃ n,n = L1.length := ⟨_,rfl⟩
 obtain ⟨n2,hn2⟩:∃ n,n = L2.length := ⟨_,rfl⟩
 obtain ⟨n3,hn3⟩:∃ n,n = L3.length := ⟨_,rfl⟩
 have l1:n1 ≤ 1000000:=by rw [hn1,hL1]; have := allL_le (d := d) hn; omega
 have l2:n2 ≤ 1000000:=by rw [hn2,hL2]; have := remL_le (d := d) hn; omega
 have l3:n3 ≤ 1000000:=by rw [hn3,hL3]; have := slL_len d m; have := HM.out; omega
 have CP1:=hide (fun (W:World) (h:Below w.heap.size w W) => (All_any d hd A B cp cq m W HM.out (HG.out.keep h)).mono (R' := fun e w' => ∃ (A1:Option Addr) (c1:Nat),e = .returned (.slice A1 n1 c1) ∧ MovesV w' A1 n1 L1 ∧ Below W.heap.size W w') (fun e w' h => by
  obtain ⟨v,rfl,hv,hb⟩:=h
  rw [← hL1] at hv
  obtain ⟨A1,c1,rfl,hm⟩:=hv.at.mv
  rw [← hn1] at hm ⊢
  exact ⟨A1,c1,rfl,hm,hb⟩))
 have CP2:=hide (fun (W:World) (h:Below w.heap.size w W) => (Removing_any d hd A B cp cq m W HM.out (HG.out.keep h)).mono (R' := fun e w' => ∃ (A1:Option Addr) (c1:Nat),e = .returned (.slice A1 n2 c1) ∧ MovesV w' A1 n2 L2 ∧ Below W.heap.size W w') (fun e w' h => by
  obtain ⟨v,rfl,hv,hb⟩:=h
  rw [← hL2] at hv
  obtain ⟨A1,c1,rfl,hm⟩:=hv.at.mv
  rw [← hn2] at hm ⊢
  exact ⟨A1,c1,rfl,hm,hb⟩))
 have CP3:=hide (fun (W:World) (h:Below w.heap.size w W) => (Slides_any d hd A B cp cq m W HM.out (HG.out.keep h)).mono (R' := fun e w' => ∃ (A1:Option Addr) (c1:Nat),e = .returned (.slice A1 n3 c1) ∧ MovesV w' A1 n3 L3 ∧ Below W.heap.size W w') (fun e w' h => by
  obtain ⟨v,rfl,hv,hb⟩:=h
  rw [← hL3] at hv
  obtain ⟨A1,c1,rfl,hm⟩:=hv.mv
  rw [← hn3] at hm ⊢
  exact ⟨A1,c1,rfl,hm,hb⟩))
 have CR1:=hide (fun (W:World) (h:Below w.heap.size w W) => (rAll_any d hd A B cp cq m W HM.out (HG.out.keep h)).mono (R' := fun e w' => ∃ (A1:Option Addr) (c1:Nat),e = .returned (.slice A1 n1 c1) ∧ MovesV w' A1 n1 L1 ∧ Below W.heap.size W w') (fun e w' h => by
  obtain ⟨v,rfl,hv,hb⟩:=h
  rw [← hL1] at hv
  obtain ⟨A1,c1,rfl,hm⟩:=hv.at.mv
  rw [← hn1] at hm ⊢
  exact ⟨A1,c1,rfl,hm,hb⟩))
 have CR2:=hide (fun (W:World) (h:Below w.heap.size w W) => (rRemoving_any d hd A B cp cq m W HM.out (HG.out.keep h)).mono (R' := fun e w' => ∃ (A1:Option Addr) (c1:Nat),e = .returned (.slice A1 n2 c1) ∧ MovesV w' A1 n2 L2 ∧ Below W.heap.size W w') (fun e w' h => by
  obtain ⟨v,rfl,hv,hb⟩:=h
  rw [← hL2] at hv
  obtain ⟨A1,c1,rfl,hm⟩:=hv.at.mv
  rw [← hn2] at hm ⊢
  exact ⟨A1,c1,rfl,hm,hb⟩))
 have CR3:=hide (fun (W:World) (h:Below w.heap.size w W) => (rSlides_any d hd A B cp cq m W HM.out (HG.out.keep h)).mono (R' := fun e w' => ∃ (A1:Option Addr) (c1:Nat),e = .returned (.slice A1 n3 c1) ∧ MovesV w' A1 n3 L3 ∧ Below W.heap.size W w') (fun e w' h => by
  obtain ⟨v,rfl,hv,hb⟩:=h
  rw [← hL3] at hv
  obtain ⟨A1,c1,rfl,hm⟩:=hv.at.mv
  rw [← hn3] at hm ⊢
  exact ⟨A1,c1,rfl,hm,hb⟩))
 have CS1:=hide (fun (W:World) (A1 A2:Option Addr) (c1 c2:Nat) (h1:MovesV W A1 n1 L1) (h2:MovesV W A2 n1 L1) => same_moves L1 A1 A2 n1 c1 c2 W h1 h2 l1)
 have CS2:=hide (fun (W:World) (A1 A2:Option Addr) (c1 c2:Nat) (h1:MovesV W A1 n2 L2) (h2:MovesV W A2 n2 L2) => same_moves L2 A1 A2 n2 c1 c2 W h1 h2 l2)
 have CS3:=hide (fun (W:World) (A1 A2:Option Addr) (c1 c2:Nat) (h1:MovesV W A1 n3 L3) (h2:MovesV W A2 n3 L3) => same_moves L3 A1 A2 n3 c1 c2 W h1 h2 l3)
 clear hL1 hL2 hL3 hn1 hn2 hn3 l1 l2 l3
 have B0:=hide (show Below w.heap.size w (w.alloc (.cells #[.slice A d.n cp,.slice B m cq,.int .i64 (d.lp:Int)] 24)) from (Below.refl _ _).alloc (Nat.le_refl _) _)
 have X0:=hide (show Row (w.alloc (.cells #[.slice A d.n cp,.slice B m cq,.int .i64 (d.lp:Int)] 24)) w.heap.size 24 [.slice A d.n cp,.slice B m cq,.int .i64 (d.lp:Int)] from row_at (vs := [_,_,_]) rfl)
 go_enter Try.func9,Try.ntmps9
 go_wp2_with fail
 refine (awake_true _).mono ?_
 rintro e w1 ⟨rfl,hb1⟩
 have Y0:=hide (X0.out.below hb1)
 have B1:=hide (B0.out.trans (hb1.mono B0.out.size))
 clear X0 B0 hb1
 obtain ⟨d0,d1,d2,d3⟩:=box3 Y0.out
 go_wp2_with fail
 refine (small_any A B d.n m cp cq (.int .i64 (d.lp:Int)) w1).mono ?_
 rintro e w2 ⟨he,hb2⟩
 have Z0:=hide (Y0.out.below hb2)
 have B2:=hide (B1.out.trans (hb2.mono B1.out.size))
 clear Y0 B1 hb2 d0 d1 d2 d3
 obtain ⟨d0,d1,d2,d3⟩:=box3 Z0.out
 rcases he with rfl | rfl
 ·go_wp2
  go_ret
  exact ⟨rfl,B2.out⟩
 ·by_cases h5:(5:Int) < (d.n:Int)
  ·go_wp2
   go_ret
   exact ⟨rfl,B2.out⟩
  ·go_wp2_with fail
   refine (rvalid_yes d hd A B cp cq m _ HM.out (HG.out.keep B2.out)).mono ?_
   rintro e w3 ⟨rfl,hb3⟩
   have Z3:=hide (Z0.out.below hb3)
   have B3:=hide (B2.out.trans (hb3.mono B2.out.size))
   clear hb3 Z0 B2 d0 d1 d2 d3
   obtain ⟨d0,d1,d2,d3⟩:=box3 Z3.out
   go_upto_region 7 with fail
   have kr0:=Z3.out
   have kr:=Z3.out.drew
   have kb:=B3.out.drew
   have k1:=True.intro
   go_region_held3 (fun w' => w'.cell? ⟨w.heap.size,0,none⟩ = some (.slice A d.n cp) ∧ w'.cell? ⟨w.heap.size,1,none⟩ = some (.slice B m cq) ∧ w'.cell? ⟨w.heap.size,2,none⟩ = some (.int .i64 (d.lp:Int)))
    ((first | exact box3c kr | exact box3c kr0 | (go_split_ands; first | exact box3c kr | exact box3c kr0)))
    (first
      | (have kz := p1
         have ky:=r1
         clear kz ky
         go_at_call 32
         refine Calls.mono (CS1.out _ _ _ _ _ ?_ ?_) ?_
         ·exact p1
         ·exact r1
         rintro e wn ⟨rfl,hb⟩
         have kr:=kr.below hb
         have kb:=kb.trans (hb.mono kb.size)
         clear hb p1 r1 k1
         have k2:=True.intro)
      | (have kz := p2
         have ky:=r2
         clear kz ky
         go_at_call 32
         refine Calls.mono (CS2.out _ _ _ _ _ ?_ ?_) ?_
         ·exact p2
         ·exact r2
         rintro e wn ⟨rfl,hb⟩
         have kr:=kr.below hb
         have kb:=kb.trans (hb.mono kb.size)
         clear hb p2 r2 k2
         have k3:=True.intro)
      | (have kz := p3
         have ky:=r3
         clear kz ky
         go_at_call 32
         refine Calls.mono (CS3.out _ _ _ _ _ ?_ ?_) ?_
         ·exact p3
         ·exact r3
         rintro e wn ⟨rfl,hb⟩
         have kr:=kr.below hb
         have kb:=kb.trans (hb.mono kb.size)
         clear hb p3 r3 k3
         have k4:=True.intro)
      | (have kz := k1
         clear kz
         go_at_call 30
         refine Calls.mono (CP1.out _ ?_) ?_
         ·exact kb
         rintro e wn ⟨p1A,p1c,rfl,p1,hb⟩
         (try have r1 := r1.keep hb)
         have kr:=kr.below hb
         have kb:=kb.trans (hb.mono kb.size)
         clear hb)
      | (have kz := k1
         clear kz
         go_at_call 33
         refine Calls.mono (CR1.out _ ?_) ?_
         ·exact kb
         rintro e wn ⟨r1A,r1c,rfl,r1,hb⟩
         (try have p1 := p1.keep hb)
         have kr:=kr.below hb
         have kb:=kb.trans (hb.mono kb.size)
         clear hb)
      | (have kz := k2
         clear kz
         go_at_call 31
         refine Calls.mono (CP2.out _ ?_) ?_
         ·exact kb
         rintro e wn ⟨p2A,p2c,rfl,p2,hb⟩
         (try have r2 := r2.keep hb)
         have kr:=kr.below hb
         have kb:=kb.trans (hb.mono kb.size)
         clear hb)
      | (have kz := k2
         clear kz
         go_at_call 34
         refine Calls.mono (CR2.out _ ?_) ?_
         ·exact kb
         rintro e wn ⟨r2A,r2c,rfl,r2,hb⟩
         (try have p2 := p2.keep hb)
         have kr:=kr.below hb
         have kb:=kb.trans (hb.mono kb.size)
         clear hb)
      | (have kz := k3
         clear kz
         go_at_call 28
         refine Calls.mono (CP3.out _ ?_) ?_
         ·exact kb
         rintro e wn ⟨p3A,p3c,rfl,p3,hb⟩
         (try have r3 := r3.keep hb)
         have kr:=kr.below hb
         have kb:=kb.trans (hb.mono kb.size)
         clear hb)
      | (have kz := k3
         clear kz
         go_at_call 35
         refine Calls.mono (CR3.out _ ?_) ?_
         ·exact kb
         rintro e wn ⟨r3A,r3c,rfl,r3,hb⟩
         (try have p3 := p3.keep hb)
         have kr:=kr.below hb
         have kb:=kb.trans (hb.mono kb.size)
         clear hb))
   all_goals (go_wp2; go_ret; exact ⟨rfl,kb⟩)
theorem mall_walk (sg mt:List Int) (lp:Int) (A B:Option Addr) (n q cp cq:Nat) (w:World) (hs:IntsAt w A n sg) (hm:IntsAt w B q mt) (hn:n ≤ maxLen) (hq:q ≤ maxLen) (hlp:-9223372036854775808 ≤ lp ∧ lp ≤ 9223372036854775807) :
 Calls Try.prog 9 #[.agg #[.slice A n cp,.slice B q cq,.int .i64 lp]] w fun e w' => e = .returned (.bool true) ∧ Below w.heap.size w w' := by
 by_cases hv:Pl.VL sg mt lp
 ·have hl:=hs.len
  have hl2:=hm.len
  have hl3:=hv.len
  have en:(Pl.mk sg mt lp).n = n:=hl
  have em:nats (Pl.mk sg mt lp).mt = mt:=Pl.nats_mk hv.2.1
  have el:((Pl.mk sg mt lp).lp:Int) = lp:=by show ((lp.toNat:Nat):Int) = lp; have := hv.2.2; omega
  have h:=mall_valid (Pl.mk sg mt lp) hv.1 A B cp cq q w (by rw [en]; omega) ⟨by rw [en]; exact hs,by rw [en,em,show 4 * n = q by omega]; exact hm⟩
  rw [en,el] at h
  exact h
 ·exact mall_bad sg mt lp A B n q cp cq w hs hm hn hq hlp hv
end Go.Proofs.Ytobbepmlmbbamaa
end
