/-
 The texts Jd, Je.
-/
import Derived.Test.YtghdiolnonejaaaR15
import Derived.Test.YtghdiolnonejaaaR17
set_option linter.unusedVariables false
set_option linter.unusedSimpArgs false
section
namespace Go.Proofs.Ytghdiolnonejaaa
open Go Go.RowKit
attribute [local go_sem ↓] Go.wp_at_zero Go.wp_at_succ
def sgJ (n b i:Nat):Nat := (i + b) % n
def tuJ (n b c:Nat):Nat := if c < b % n then c + n - b % n else c - b % n
theorem sgJ_at {n b i:Nat} (hn:0 < n) (hi:i < n):sgJ n b i = if i + b % n < n then i + b % n else i + b % n - n := by
 have hr:=Nat.mod_lt b hn
 unfold sgJ
 rw [← Nat.add_mod_mod i b n]
 split
 ·exact Nat.mod_eq_of_lt (by omega)
 ·rw [Nat.mod_eq_sub_mod (by omega),Nat.mod_eq_of_lt (by omega)]
theorem invJ {n b:Nat} (hn:0 < n):Inv2 n (sgJ n b) (tuJ n b) := by
 have hr:=Nat.mod_lt b hn
 refine ⟨fun i hi => ?_,fun c hc => ?_⟩
 ·rw [sgJ_at hn hi]
  unfold tuJ
  split
  ·refine ⟨by omega,?_⟩
   rw [if_neg (by omega)]; omega
  ·refine ⟨by omega,?_⟩
   rw [if_pos (by omega)]; omega
 ·have h1:tuJ n b c < n:=by unfold tuJ; split <;> omega
  refine ⟨h1,?_⟩
  rw [sgJ_at hn h1]
  unfold tuJ
  split
  ·rw [if_neg (by omega)]; omega
  ·rw [if_pos (by omega)]; omega
def czL (f:Nat → Int):List Int := (List.range 6).map f
theorem czL_len (f:Nat → Int):(czL f).length = 6 := by unfold czL; simp
theorem czL_pv (f:Nat → Int) {j:Nat} (hj:j < 6):Pl.pv (czL f) j = f j := by
 unfold czL Pl.pv
 rw [List.getD_eq_getElem?_getD,List.getElem?_map,List.getElem?_range hj]; rfl
theorem czL_set {f g:Nat → Int} {u:Nat} {v:Int} (hu:u < 6) (hv:g u = v) (h:∀ j,j < 6 → j ≠ u → g j = f j):(czL f).set u v = czL g := by
 unfold czL
 refine List.ext_getElem (by simp) fun i h1 h2 => ?_
 rw [List.getElem_set]
 simp only [List.getElem_map,List.getElem_range]
 have hi:i < 6:=by simpa using h2
 by_cases e:u = i
 ·subst e; rw [if_pos rfl,hv]
 ·rw [if_neg e,h i hi (fun q => e q.symm)]
theorem kc_take {k:Int} {L:List Mv} {q:Nat} {z:Mv} (h:L[q]? = some z):kc k (L.take (q + 1)) = kc k (L.take q) + if z.kind = k then 1 else 0 := by
 obtain ⟨hq,e⟩:=List.getElem?_eq_some_iff.1 h
 rw [List.take_succ_eq_append_getElem hq,kc_app,e]
 congr 1
 unfold kc
 by_cases hk:z.kind = k
 ·rw [if_pos hk,List.filter_cons,if_pos (decide_eq_true hk)]; rfl
 ·rw [if_neg hk,List.filter_cons,if_neg (by simpa using hk)]; rfl
theorem kc_le (k:Int) (L:List Mv) (q:Nat):kc k (L.take q) ≤ L.length := by
 have h1:kc k (L.take q) ≤ (L.take q).length:=List.length_filter_le _ _
 have h2:(L.take q).length ≤ L.length:=by rw [List.length_take]; omega
 omega
theorem kc_full (k:Int) (L:List Mv):kc k (L.take L.length) = kc k L := by rw [List.take_length]
theorem apply_q (d:Pl.Dg) (hd:Pl.Valid d) (A B:Option Addr) (n cp cq m lp:Nat) (k x y s:Int) (o:Bool) (w:World) (hn:n = d.n) (hm:m = 4 * d.n) (hl:lp = d.lp) (hg:DgAt w A B d) :
 Calls Try.prog 23 #[.agg #[.slice A n cp,.slice B m cq,.int .i64 (lp:Int)],.agg #[.int .i64 k,.int .i64 x,.int .i64 y,.int .i64 s,.bool o]] w (ResC (apC d ⟨k,x,y,s,o⟩) (apD d ⟨k,x,y,s,o⟩) (apI d ⟨k,x,y,s,o⟩) w) := by
 subst hn
 subst hl
 exact apply_any d hd A B cp cq m ⟨k,x,y,s,o⟩ w hm hg
theorem All_q (d:Pl.Dg) (hd:Pl.Valid d) (A B:Option Addr) (n cp cq m lp N:Nat) (w:World) (hn:n = d.n) (hm:m = 4 * d.n) (hl:lp = d.lp) (hN:N = (allL d).length) (hg:DgAt w A B d) :
 Calls Try.prog 33 #[.agg #[.slice A n cp,.slice B m cq,.int .i64 (lp:Int)]] w fun e w' => ∃ (A1:Option Addr) (c1:Nat),e = .returned (.slice A1 N c1) ∧ MovesV w' A1 N (allL d) ∧ Below w.heap.size w w' := by
 subst hn
 subst hl
 subst hN
 refine (All_any d hd A B cp cq m w hm hg).mono ?_
 rintro e w' ⟨v,rfl,hv,hb⟩
 obtain ⟨A5,c5,rfl,hV⟩:=hv.at.mv
 exact ⟨A5,c5,rfl,hV,hb⟩
theorem same_q (a b:Pl.Dg) (ha:Pl.Valid a) (hb:Pl.Valid b) (ha20:a.n ≤ 20) (hb20:b.n ≤ 20) (A B C D:Option Addr) (n cp cq m n' cp' cq' m' lp lp':Nat) (w:World) (hn:n = a.n) (hm:m = 4 * a.n) (hl:lp = a.lp) (hg:DgAt w A B a) (hn':n' = b.n) (hm':m' = 4 * b.n) (hl':lp' = b.lp) (hg':DgAt w C D b) :
 Calls Try.prog 29 #[.agg #[.slice A n cp,.slice B m cq,.int .i64 (lp:Int)],.agg #[.slice C n' cp',.slice D m' cq',.int .i64 (lp':Int)]] w fun e w' => e = .returned (.bool (Pl.vb (∃ σ,Pl.Iso a b σ))) ∧ Below w.heap.size w w' := by
 subst hn
 subst hl
 subst hn'
 subst hl'
 exact same_yes20 a b ha hb ha20 hb20 A B C D cp cq m cp' cq' m' w hm hg hm' hg'
def qmJ (k x y s:Int) (o:Bool) (i:Nat):Mv := ⟨k,if k = 1 then 4 * (i:Int) + x % 4 else i,y,s,o⟩
def GoodJ (r r2:Pl.Dg) (k x y s:Int) (o:Bool) (i:Nat):Prop := apC r (qmJ k x y s o i) = 0 ∧ ∃ ρ,Pl.Iso (apD r (qmJ k x y s o i)) r2 ρ
structure JK (w:World) (dv mv rv:List Value) (g:Nat) (A9 B9:Option Addr) (r:Pl.Dg) (W:World):Prop where
 d:Row W w.heap.size 24 dv
 m:Row W (w.heap.size + 1) 37 mv
 rr:Row W g 24 rv
 t:DgT W A9 B9 r
 bel:Below w.heap.size w W
 lo:w.heap.size + 1 < g
theorem JK.below {w W W':World} {dv mv rv:List Value} {g:Nat} {A9 B9:Option Addr} {r:Pl.Dg} (h:JK w dv mv rv g A9 B9 r W) (hb:Below W.heap.size W W'):JK w dv mv rv g A9 B9 r W' :=
 ⟨h.d.below hb,h.m.below hb,h.rr.below hb,h.t.keep hb,h.bel.trans (hb.mono h.bel.size),h.lo⟩
set_option maxRecDepth 100000 in
set_option maxHeartbeats 16000000 in
theorem renum_valid (d:Pl.Dg) (hd:Pl.Valid d) (A B:Option Addr) (cp cq m:Nat) (k x y s:Int) (o:Bool) (b:Nat) (hb:b ≤ 255) (w:World) (hm:m = 4 * d.n) (hg:DgAt w A B d) :
 Calls Try.prog 8 #[.agg #[.slice A d.n cp,.slice B m cq,.int .i64 d.lp],(Mv.mk k x y s o).v,.int .u8 (b:Int)] w fun e w' => e = .returned (.bool true) ∧ Below w.heap.size w w' := by
 have hn:=hd.wf.few
 have HM:=hide hm
 have HG:=hide hg
 clear hm hg
 have X0:=hide (show Row ((w.alloc (.cells #[.slice A d.n cp,.slice B m cq,.int .i64 d.lp] 24)).alloc (.cells #[.int .i64 k,.int .i64 x,.int .i64 y,.int .i64 s,.bool o] 37)) w.heap.size 24 [.slice A d.n cp,.slice B m cq,.int .i64 d.lp] from (row_at (vs := [_,_,_]) rfl).alloc _)
 have X1:=hide (show Row ((w.alloc (.cells #[.slice A d.n cp,.slice B m cq,.int .i64 d.lp] 24)).alloc (.cells #[.int .i64 k,.int .i64 x,.int .i64 y,.int .i64 s,.bool o] 37)) (w.heap.size + 1) 37 [.int .i64 k,.int .i64 x,.int .i64 y,.int .i64 s,.bool o] from row_at (vs := [_,_,_,_,_]) (by simp))
 have B0:=hide (show Below w.heap.size w ((w.alloc (.cells #[.slice A d.n cp,.slice B m cq,.int .i64 d.lp] 24)).alloc (.cells #[.int .i64 k,.int .i64 x,.int .i64 y,.int .i64 s,.bool o] 37)) from ((Below.refl _ _).alloc (Nat.le_refl _) _).alloc (by simp) _)
 unfold Mv.v
 go_enter Try.func8,Try.ntmps8
 go_wp2_with fail
 refine (awake_true _).mono ?_
 rintro e w1 ⟨rfl,hb1⟩
 have Y0:=hide (X0.out.below hb1)
 have Y1:=hide (X1.out.below hb1)
 have B1:=hide (B0.out.trans (hb1.mono B0.out.size))
 clear X0 X1 B0 hb1
 obtain ⟨d0,d1,d2,d3⟩:=box3 Y0.out
 go_wp2_with fail
 refine (small_any A B d.n m cp cq (.int .i64 d.lp) w1).mono ?_
 rintro e w2 ⟨he,hb2⟩
 have Z0:=hide (Y0.out.below hb2)
 have Z1:=hide (Y1.out.below hb2)
 have B2:=hide (B1.out.trans (hb2.mono B1.out.size))
 clear Y0 Y1 B1 hb2 d0 d1 d2 d3
 obtain ⟨d0,d1,d2,d3⟩:=box3 Z0.out
 rcases he with rfl | rfl
 ·go_wp2
  go_ret
  exact ⟨rfl,B2.out⟩
 ·by_cases h7:(6:Int) < (d.n:Int)
  ·go_wp2
   go_ret
   exact ⟨rfl,B2.out⟩
  ·by_cases hz:d.n = 0
   ·have t0:((d.n:Int) == 0) = true:=by rw [beq_iff_eq]; omega
    clear hz
    go_wp2
    go_ret
    exact ⟨rfl,B2.out⟩
   ·have t0:((d.n:Int) == 0) = false:=by rw [beq_eq_false_iff_ne]; omega
    have hn6:d.n ≤ 6:=by omega
    have hn1:0 < d.n:=by omega
    have hlp:=hd.wf.lp
    clear hz
    go_wp2_with fail
    refine (valid_yes d hd A B cp cq m _ HM.out (HG.out.keep B2.out)).mono ?_
    rintro e w3 ⟨rfl,hb3⟩
    have U0:=hide (Z0.out.below hb3)
    have U1:=hide (Z1.out.below hb3)
    have B3:=hide (B2.out.trans (hb3.mono B2.out.size))
    clear Z0 Z1 B2 hb3 d0 d1 d2 d3
    obtain ⟨N,hN⟩:∃ N,N = d.n := ⟨_,rfl⟩
    have HN:=hide hN
    rw [← hN] at U0 h7 t0 hn6 hn1 hn ⊢
    have hni:(N:Int) ≤ 6:=by omega
    have n0':(N:Int) ≠ 0:=by omega
    have hNp:(0:Int) < (N:Int):=by omega
    have hbi:(b:Int) ≤ 255:=by omega
    have hb0:(0:Int) ≤ (b:Int):=by omega
    have hwb:IntKind.i64.wrap (b:Int) = (b:Int):=IntWalk.i64_in _ (by omega)
    clear hN
    go_wp2
    go_loopg [8,9] N (fun g s8 s9 wx => ∃ c:Nat,c + g = N ∧ s9 = .int .i64 (c:Int) ∧ wx.ownsRow w3.heap.size 3 1 s8 c (((List.range c).map (fun i => ((sgJ N b i:Nat):Int))).map (.int .i64)) ∧ Below w3.heap.size w3 wx)
    case atStart => exact ⟨0,by omega,rfl,⟨rfl,.inl ⟨rfl,rfl⟩⟩,Below.refl _ _⟩
    case round =>
     obtain ⟨c,hkg,rfl,how,hbw⟩:=hrel
     have HKG:=hide hkg
     have OW:=hide how
     have HBW:=hide hbw
     have hcN:c ≤ N:=by omega
     clear hkg how hbw
     by_cases hc:c < N
     ·have hci:(c:Int) < (N:Int):=by omega
      have c0:(0:Int) ≤ (c:Int):=by omega
      obtain ⟨v,hv⟩:∃ v,v = sgJ N b c := ⟨_,rfl⟩
      have hvN:v < N:=by rw [hv]; exact Nat.mod_lt _ hn1
      have hri:((c:Int) + (b:Int)).tmod (N:Int) = (v:Int):=by
       rw [hv,show (c:Int) + (b:Int) = ((c + b:Nat):Int) by omega]; rfl
      have hwv:IntKind.i64.wrap (v:Int) = (v:Int):=IntWalk.i64_in _ (by omega)
      have hwm:IntKind.i64.wrap (((c:Int) + (b:Int)).tmod (N:Int)) = (v:Int):=by rw [hri]; exact hwv
      have hwa:IntKind.i64.wrap ((c:Int) + (b:Int)) = (c:Int) + (b:Int):=IntWalk.i64_in _ (by omega)
      have HV:=hide hv
      clear hv
      obtain ⟨i0,hi0,hz0,hz1,hz2⟩:=info_parts intInfo
      have hbig:=HBW.out.size
      have OA:=hide (own_below OW.out ((Below.refl wr.heap.size wr).alloc (Nat.le_refl _) (.cells #[.int .i64 (v:Int)] 3)))
      go_wp2_with (at_builtin; refine wpList_append_lies _ (by rfl) _ _ 22 (by rfl) w3.heap.size 3 i0 (.int .i64 0) 1 8 Try.underlying22 hi0 hz0 hz1 hz2 rfl (by omega) _ c _ (by rfl) OA.out ⟨wr.heap.size,0,none⟩ 1 1 [.int .i64 (v:Int)] (by rfl) (by rfl) (one_news _ _) (by simp [Value.oneCell']) (by omega) (by unfold maxLen; omega) (by omega) (by simp; omega) (wr.heap.size + 1) (by simp) ?_; intro g3 c3 w4 own3 grow3 at3 lt3; have OWN3 := hide own3; have GR3 := hide grow3; clear own3 grow3 at3)
      go_roundg (gk - 1)
      case measure => have := HKG.out; omega
      case rel =>
       refine ⟨c + 1,by have := HKG.out; omega,by go_num,?_,(HBW.out.alloc hbig _).grown GR3.out (by simp; omega) (fun j hj => (OA.out.lt j hj).1)⟩
       rw [List.range_succ,List.map_append,List.map_append]
       have:=OWN3.out
       rw [HV.out] at this
       exact this
     ·have hci:¬ ((c:Int) < (N:Int)):=by omega
      obtain rfl:c = N := by omega
      obtain ⟨C,cc,rfl⟩:=owns_slice OW.out
      have U2:=hide (U0.out.below HBW.out)
      have U3:=hide (U1.out.below HBW.out)
      have B4:=hide (B3.out.trans (HBW.out.mono B3.out.size))
      have OI:=hide (show IntsAt wr C d.n ((List.range d.n).map (fun i => ((sgJ d.n b i:Nat):Int))) by have h := (own_intsT OW.out).row; rw [HN.out] at h; exact h)
      clear U0 U1 B3 OW HBW HKG
      obtain ⟨d0,d1,d2,d3⟩:=box3 U2.out
      go_wp2_with fail
      have CR:=hide (rrenumber_any d hd (sgJ d.n b) (tuJ d.n b) (invJ (by rw [← HN.out]; exact hn1)) A B C cp cq m cc wr HM.out (HG.out.keep B4.out) OI.out)
      rw [← HN.out] at CR
      refine CR.out.mono ?_
      rintro e w5 ⟨⟨A9,B9,c8,c9,rfl,hT⟩,hb5⟩
      obtain ⟨r,hr⟩:∃ r,r = rnE d (sgJ c b) (tuJ c b) := ⟨_,rfl⟩
      rw [← hr] at hT
      have hrv:Pl.Valid r:=by rw [hr,HN.out]; exact rnE_valid hd (invJ (by rw [← HN.out]; exact hn1))
      have RI:=hide (show Pl.Iso r d (sgJ c b) by rw [hr,HN.out]; exact rnE_iso hd.wf (invJ (by rw [← HN.out]; exact hn1)))
      have RN:=hide (show c = r.n by rw [hr,rnE_n]; exact HN.out)
      have RL:=hide (show d.lp = r.lp by rw [hr]; rfl)
      obtain ⟨q,hq⟩:∃ q,q = 4 * c := ⟨_,rfl⟩
      rw [← hq]
      have hq24:q ≤ 24:=by omega
      have RQ:=hide (show q = 4 * r.n by rw [hq,RN.out])
      have J6:=hide (show JK w [.slice A c cp,.slice B m cq,.int .i64 (d.lp:Int)] [.int .i64 k,.int .i64 x,.int .i64 y,.int .i64 s,.bool o] [.slice A9 c c8,.slice B9 q c9,.int .i64 (d.lp:Int)] w5.heap.size A9 B9 r (w5.alloc (.cells #[.slice A9 c c8,.slice B9 q c9,.int .i64 (d.lp:Int)] 24)) from
       ⟨(U2.out.below hb5).alloc _,(U3.out.below hb5).alloc _,row_at (vs := [_,_,_]) rfl,hT.keep ((Below.refl _ _).alloc (Nat.le_refl _) _),(B4.out.trans (hb5.mono B4.out.size)).alloc (B4.out.trans (hb5.mono B4.out.size)).size _,(U3.out.below hb5).lt⟩)
      obtain ⟨gr,hgr⟩:∃ g,g = w5.heap.size := ⟨_,rfl⟩
      obtain ⟨w6,hw6⟩:∃ W:World,W = w5.alloc (.cells #[.slice A9 c c8,.slice B9 q c9,.int .i64 (d.lp:Int)] 24) := ⟨_,rfl⟩
      rw [← hw6,← hgr] at J6
      clear hr hq hT hb5 CR OI U2 U3 B4 d0 d1 d2 d3
      go_upto_region 12 with fail
      rw [← hw6,← hgr]
      clear hw6 hgr
      obtain ⟨d0,d1,d2,d3⟩:=box3 J6.out.d
      obtain ⟨r0,r1,r2,r3⟩:=box3 J6.out.rr
      go_wp2_with fail
      refine (same_q r d hrv hd (by have := RN.out; omega) (by have := HN.out; omega) A9 B9 A B c c8 c9 q c cp cq m d.lp d.lp _ RN.out RQ.out RL.out J6.out.t.at HN.out HM.out rfl (HG.out.keep J6.out.bel)).mono ?_
      rintro e w7 ⟨rfl,hb7⟩
      rw [Pl.vb_true (show ∃ σ,Pl.Iso r d σ from ⟨_,RI.out⟩)]
      have J7:=hide (J6.out.below hb7)
      clear J6 hb7 d0 d1 d2 d3 r0 r1 r2 r3
      obtain ⟨d0,d1,d2,d3⟩:=box3 J7.out.d
      obtain ⟨r0,r1,r2,r3⟩:=box3 J7.out.rr
      go_upto_region 14 with fail
      obtain ⟨N1,hN1⟩:∃ n,n = (allL d).length := ⟨_,rfl⟩
      obtain ⟨N2,hN2⟩:∃ n,n = (allL r).length := ⟨_,rfl⟩
      have l1:N1 ≤ 500000:=by rw [hN1]; exact allL_le hd.wf.few
      have l2:N2 ≤ 500000:=by rw [hN2]; exact allL_le hrv.wf.few
      have HN1:=hide hN1
      have HN2:=hide hN2
      have K7:=hide (J7.out.below (Below.refl _ _).drew)
      have CA:=hide (fun (W:World) (hW:DgAt W A B d) => All_q d hd A B c cp cq m d.lp N1 W HN.out HM.out rfl HN1.out hW)
      have CB:=hide (fun (W:World) (hW:DgAt W A9 B9 r) => All_q r hrv A9 B9 c c8 c9 q d.lp N2 W RN.out RQ.out RL.out HN2.out hW)
      clear hN1 hN2
      go_cut [11,12] from 68 to 71 (fun s11 s12 wx => ∃ (A1 A2:Option Addr) (c1 c2:Nat),s11 = .slice A1 N1 c1 ∧ s12 = .slice A2 N2 c2 ∧ MovesV wx A1 N1 (allL d) ∧ MovesV wx A2 N2 (allL r) ∧ Below w7.heap.size w7 wx)
      case first =>
       go_region_with (first
        | (go_at_call 33
           have hx:=hba
           refine (CB.out _ (K7.out.t.at.keep hx)).mono ?_
           rintro e wb ⟨A2,c2,rfl,hV2,hbc⟩
           have hV1:=hVa.keep hbc
           have HF:=hide ((Below.refl w7.heap.size w7).drew.trans ((hx.trans (hbc.mono hx.size)).mono (Below.refl w7.heap.size w7).drew.size)))
        | (go_at_call 33
           have hx:=hbb
           refine (CA.out _ ((HG.out.keep K7.out.bel).keep hx)).mono ?_
           rintro e wb ⟨A1,c1,rfl,hV1,hbc⟩
           have hV2:=hVb.keep hbc
           have HF:=hide ((Below.refl w7.heap.size w7).drew.trans ((hx.trans (hbc.mono hx.size)).mono (Below.refl w7.heap.size w7).drew.size)))
        | (go_at_call 33
           refine (CA.out _ (HG.out.keep K7.out.bel)).mono ?_
           rintro e wa ⟨A1,c1,rfl,hVa,hba⟩
           obtain ⟨k0,k1,k2,k3⟩:=box3 (K7.out.rr.below hba))
        | (go_at_call 33
           refine (CB.out _ K7.out.t.at).mono ?_
           rintro e wb ⟨A2,c2,rfl,hVb,hbb⟩
           obtain ⟨k0,k1,k2,k3⟩:=box3 (K7.out.d.below hbb)))
       all_goals (go_wp2_with fail; go_meet)
       all_goals exact ⟨A1,A2,c1,c2,rfl,rfl,hV1,hV2,HF.out⟩
      case rest =>
      obtain ⟨A1,A2,c1,c2,rfl,rfl,hV1,hV2,hb⟩:=hcut
      obtain ⟨w8,hw8⟩:∃ W,W = wc := ⟨_,rfl⟩
      rw [← hw8] at hV1 hV2 hb ⊢
      have J8:=hide (J7.out.below hb)
      have HV1:=hide hV1
      have HV2:=hide hV2
      clear hw8 hV1 hV2 hb J7 K7 CA CB d0 d1 d2 d3 r0 r1 r2 r3
      have hmk:(Instr.makeSlice 22 (.int .i64 6) (.int .i64 6)).run Try.prog w8 = .ok (.slice (some ⟨w8.heap.size,0,none⟩) 6 6) (w8.alloc (.cells (Array.replicate 6 (Value.int .i64 0)) 3)):=run_ints 6 (by omega) w8
      have I9:=hide (show IRow (w8.alloc (.cells (Array.replicate 6 (Value.int .i64 0)) 3)) w8.heap.size (czL (fun _ => 0)) from IRow.made w8 6)
      have B9':=hide (show Below w8.heap.size w8 (w8.alloc (.cells (Array.replicate 6 (Value.int .i64 0)) 3)) from (Below.refl _ _).alloc (Nat.le_refl _) _)
      obtain ⟨gc,hgc⟩:∃ g,g = w8.heap.size := ⟨_,rfl⟩
      obtain ⟨w9,hw9⟩:∃ W:World,W = w8.alloc (.cells (Array.replicate 6 (Value.int .i64 0)) 3) := ⟨_,rfl⟩
      rw [← hw9,← hgc] at I9
      rw [← hw9] at B9'
      have HGC:=hide hgc
      go_upto_region 16 with fail
      rw [← hw9,← hgc]
      clear hmk hw9 hgc
      go_wp2
      go_loopg [14] N1 (fun g s14 wx => ∃ z:Nat,z + g = N1 ∧ s14 = .int .i64 (z:Int) ∧ IRow wx gc (czL (fun j => ((kc (j:Nat) ((allL d).take z):Nat):Int))) ∧ Below w8.heap.size w8 wx)
      case atStart => exact ⟨0,by omega,rfl,I9.out,B9'.out⟩
      case round =>
       obtain ⟨z,hkg,rfl,hir,hbw⟩:=hrel
       have HKG:=hide hkg
       have IR:=hide hir
       have HBW:=hide hbw
       clear hkg hir hbw I9 B9'
       by_cases hc:z < N1
       ·have hci:(z:Int) < (N1:Int):=by omega
        have c0:(0:Int) ≤ (z:Int):=by omega
        obtain ⟨g5,zk,zx,zy,zs,zo,rfl,hgl,hz,e0,e1,e2,e3,e4⟩:=(HV1.out.keep HBW.out).at_ hc
        obtain ⟨k1,k5⟩:=allL_kinds (List.mem_of_getElem? hz)
        have k1:1 ≤ zk:=k1
        have k5:zk ≤ 5:=k5
        obtain ⟨u,rfl⟩:=Int.eq_ofNat_of_zero_le (show 0 ≤ zk by omega)
        have hu6:u < 6:=by omega
        have u0:(0:Int) ≤ (u:Int):=by omega
        have u6:(u:Int) < 6:=by omega
        have hri:(u:Int).tmod 6 = (u:Int):=by rw [Int.tmod_eq_emod_of_nonneg u0]; omega
        have hwu:IntKind.i64.wrap (u:Int) = (u:Int):=IntWalk.i64_in _ (by omega)
        obtain ⟨v,hv⟩:∃ v,v = kc ((u:Nat):Int) ((allL d).take z) := ⟨_,rfl⟩
        have hvl:v ≤ 500000:=by rw [hv]; exact Nat.le_trans (kc_le _ _ _) (by rw [← HN1.out]; exact l1)
        have x1:=IR.out.cell (i := u) (by rw [czL_len]; exact hu6)
        rw [czL_pv _ hu6,← hv] at x1
        have f1:=Row.free IR.out u
        have hwv:IntKind.i64.wrap ((v:Int) + 1) = (v:Int) + 1:=IntWalk.i64_in _ (by omega)
        have hvi:(v:Int) ≤ 500000:=by omega
        have v0:(0:Int) ≤ (v:Int):=by omega
        have I2:=hide (show IRow (wr.setCell ⟨gc,u,none⟩ (.int .i64 ((v:Int) + 1))) gc (czL (fun j => ((kc (j:Nat) ((allL d).take (z + 1)):Nat):Int))) by
         have h:=IRow.set IR.out u ((v:Int) + 1)
         have e:(czL (fun j => ((kc (j:Nat) ((allL d).take z):Nat):Int))).set u ((v:Int) + 1) = czL (fun j => ((kc (j:Nat) ((allL d).take (z + 1)):Nat):Int)):=czL_set hu6 (by
          rw [kc_take hz,if_pos rfl,← hv]; omega) (fun j hj hne => by rw [kc_take hz,if_neg (show ¬ ((u:Int) = (j:Int)) by omega)]; omega)
         rwa [e] at h)
        have BB2:=hide (show Below w8.heap.size w8 (wr.setCell ⟨gc,u,none⟩ (.int .i64 ((v:Int) + 1))) from HBW.out.setCell (by show _ ≤ gc; rw [HGC.out]; exact Nat.le_refl _) _)
        clear IR HBW hv hz k1 k5
        go_wp2
        go_roundg (gk - 1)
        case measure => have := HKG.out; omega
        case rel => exact ⟨z + 1,by have := HKG.out; omega,by go_num,I2.out,BB2.out⟩
       ·have hci:¬ ((z:Int) < (N1:Int)):=by omega
        have hze:z = (allL d).length:=by rw [← HN1.out]; have := HKG.out; omega
        have I2:=hide (show IRow wr gc (czL (fun j => ((kc (j:Nat) (allL d):Nat):Int) - ((kc (j:Nat) ((allL r).take 0):Nat):Int))) by
         have h:=IR.out
         rw [hze] at h
         simp only [kc_full] at h
         have e:(fun j:Nat => ((kc (j:Nat) (allL d):Nat):Int) - ((kc (j:Nat) ((allL r).take 0):Nat):Int)) = (fun j:Nat => ((kc (j:Nat) (allL d):Nat):Int)):=by
          funext j
          rw [show kc (j:Int) ((allL r).take 0) = 0 from rfl]; omega
         rw [e]; exact h)
        have B2':=hide HBW.out
        clear IR HBW HKG hze
        go_wp2
        go_loopg [15] N2 (fun g s15 wx => ∃ z:Nat,z + g = N2 ∧ s15 = .int .i64 (z:Int) ∧ IRow wx gc (czL (fun j => ((kc (j:Nat) (allL d):Nat):Int) - ((kc (j:Nat) ((allL r).take z):Nat):Int))) ∧ Below w8.heap.size w8 wx)
        case atStart => exact ⟨0,by omega,rfl,I2.out,B2'.out⟩
        case round =>
         obtain ⟨z,hkg,rfl,hir,hbw⟩:=hrel
         have HKG:=hide hkg
         have IR:=hide hir
         have HBW:=hide hbw
         clear hkg hir hbw I2 B2'
         by_cases hc:z < N2
         ·have hci:(z:Int) < (N2:Int):=by omega
          have c0:(0:Int) ≤ (z:Int):=by omega
          obtain ⟨g5,zk,zx,zy,zs,zo,rfl,hgl,hz,e0,e1,e2,e3,e4⟩:=(HV2.out.keep HBW.out).at_ hc
          obtain ⟨k1,k5⟩:=allL_kinds (List.mem_of_getElem? hz)
          have k1:1 ≤ zk:=k1
          have k5:zk ≤ 5:=k5
          obtain ⟨u,rfl⟩:=Int.eq_ofNat_of_zero_le (show 0 ≤ zk by omega)
          have hu6:u < 6:=by omega
          have u0:(0:Int) ≤ (u:Int):=by omega
          have u6:(u:Int) < 6:=by omega
          have hri:(u:Int).tmod 6 = (u:Int):=by rw [Int.tmod_eq_emod_of_nonneg u0]; omega
          have hwu:IntKind.i64.wrap (u:Int) = (u:Int):=IntWalk.i64_in _ (by omega)
          obtain ⟨v,hv⟩:∃ v:Int,v = ((kc ((u:Nat):Int) (allL d):Nat):Int) - ((kc ((u:Nat):Int) ((allL r).take z):Nat):Int) := ⟨_,rfl⟩
          have hvl:-500000 ≤ v ∧ v ≤ 500000:=by
           have h1:=kc_le ((u:Nat):Int) (allL d) (allL d).length
           rw [kc_full,← HN1.out] at h1
           have h2:=kc_le ((u:Nat):Int) (allL r) z
           rw [← HN2.out] at h2
           omega
          obtain ⟨v0,v1⟩:=hvl
          have x1:=IR.out.cell (i := u) (by rw [czL_len]; exact hu6)
          rw [czL_pv _ hu6,← hv] at x1
          have f1:=Row.free IR.out u
          have hwv:IntKind.i64.wrap (v - 1) = v - 1:=IntWalk.i64_in _ (by omega)
          have I2:=hide (show IRow (wr.setCell ⟨gc,u,none⟩ (.int .i64 (v - 1))) gc (czL (fun j => ((kc (j:Nat) (allL d):Nat):Int) - ((kc (j:Nat) ((allL r).take (z + 1)):Nat):Int))) by
           have h:=IRow.set IR.out u (v - 1)
           have e:(czL (fun j => ((kc (j:Nat) (allL d):Nat):Int) - ((kc (j:Nat) ((allL r).take z):Nat):Int))).set u (v - 1) = czL (fun j => ((kc (j:Nat) (allL d):Nat):Int) - ((kc (j:Nat) ((allL r).take (z + 1)):Nat):Int)):=czL_set hu6 (by
            rw [kc_take hz,if_pos rfl,hv]; omega) (fun j hj hne => by rw [kc_take hz,if_neg (show ¬ ((u:Int) = (j:Int)) by omega)]; omega)
           rwa [e] at h)
          have BB2:=hide (show Below w8.heap.size w8 (wr.setCell ⟨gc,u,none⟩ (.int .i64 (v - 1))) from HBW.out.setCell (by show _ ≤ gc; rw [HGC.out]; exact Nat.le_refl _) _)
          clear IR HBW hv hz k1 k5
          go_wp2
          go_roundg (gk - 1)
          case measure => have := HKG.out; omega
          case rel => exact ⟨z + 1,by have := HKG.out; omega,by go_num,I2.out,BB2.out⟩
         ·have hci:¬ ((z:Int) < (N2:Int)):=by omega
          have hze:z = (allL r).length:=by rw [← HN2.out]; have := HKG.out; omega
          have I2:=hide (show IRow wr gc (czL (fun _ => 0)) by
           have h:=IR.out
           rw [hze] at h
           have e:(fun j:Nat => ((kc (j:Nat) (allL d):Nat):Int) - ((kc (j:Nat) ((allL r).take (allL r).length):Nat):Int)) = (fun _:Nat => (0:Int)):=by
            funext j
            rw [kc_full,iso_kinds RI.out hrv.wf hd.wf]; omega
           rwa [e] at h)
          have B2':=hide HBW.out
          clear IR HBW HKG hze
          go_wp2
          go_loopg [16] 6 (fun g s16 wx => ∃ z:Nat,z + g = 6 ∧ s16 = .int .i64 (z:Int) ∧ IRow wx gc (czL (fun _ => 0)) ∧ Below w8.heap.size w8 wx)
          case atStart => exact ⟨0,by omega,rfl,I2.out,B2'.out⟩
          case round =>
           obtain ⟨z,hkg,rfl,hir,hbw⟩:=hrel
           have HKG:=hide hkg
           have IR:=hide hir
           have HBW:=hide hbw
           have hz6:z ≤ 6:=by omega
           clear hkg hir hbw I2 B2'
           by_cases hc:z < 6
           ·have hci:(z:Int) < 6:=by omega
            have c0:(0:Int) ≤ (z:Int):=by omega
            have x1:=IR.out.cell (i := z) (by rw [czL_len]; exact hc)
            rw [czL_pv _ hc] at x1
            go_wp2
            go_roundg (gk - 1)
            case measure => have := HKG.out; omega
            case rel => exact ⟨z + 1,by have := HKG.out; omega,by go_num,IR.out,HBW.out⟩
           ·have hci:¬ ((z:Int) < 6):=by omega
            have J9:=hide (J8.out.below HBW.out)
            clear IR HBW HKG HV1 HV2 J8 HN1 HN2 HGC
            obtain ⟨d0,d1,d2,d3⟩:=box3 J9.out.d
            obtain ⟨m0,m1,m2,m3,m4,m5⟩:=box5 J9.out.m
            go_wp2_with fail
            refine (apply_q d hd A B c cp cq m d.lp k x y s o _ HN.out HM.out rfl (HG.out.keep J9.out.bel)).mono ?_
            intro e w10 hres
            have J10:=hide (J9.out.below hres.2.2)
            clear d0 d1 d2 d3 m0 m1 m2 m3 m4 m5 J9
            have hs1:w.heap.size + 1 < w10.heap.size:=J10.out.m.lt
            have hs0:w.heap.size < w10.heap.size:=by omega
            have hsr:gr < w10.heap.size:=J10.out.rr.lt
            by_cases hc0:apC d ⟨k,x,y,s,o⟩ = 0
            ·obtain ⟨A8,B8,c8',c9',k9,x9,y9,s9,o9,hmv,rfl,hT⟩:=(hres.2.1 hc0).split
             obtain ⟨r2,hr2⟩:∃ r2,r2 = apD d ⟨k,x,y,s,o⟩:=⟨_,rfl⟩
             rw [← hr2] at hT ⊢
             have HR2:=hide hr2
             obtain ⟨N9,hN9⟩:∃ n,n = r2.n := ⟨_,rfl⟩
             obtain ⟨M9,hM9⟩:∃ n,n = 4 * r2.n := ⟨_,rfl⟩
             obtain ⟨L9,hL9⟩:∃ n,n = r2.lp := ⟨_,rfl⟩
             rw [← hM9,← hN9,← hL9]
             have HN9:=hide hN9
             have HM9:=hide hM9
             have HL9:=hide hL9
             have HC0:=hide hc0
             clear hN9 hM9 hL9 hmv hres hr2 hc0
             obtain ⟨w11,hw11⟩:∃ W:World,W = (w10.alloc (.cells #[.slice A8 N9 c8',.slice B8 M9 c9',.int .i64 (L9:Int)] 24)).alloc (.cells #[.int .i64 k9,.int .i64 x9,.int .i64 y9,.int .i64 s9,.bool o9] 37) := ⟨_,rfl⟩
             have BA:=hide (show Below w10.heap.size w10 w11 by rw [hw11]; exact ((Below.refl _ _).alloc (Nat.le_refl _) _).alloc (by simp) _)
             have O11:=hide (show Row w11 w10.heap.size 24 [.slice A8 N9 c8',.slice B8 M9 c9',.int .i64 (L9:Int)] by rw [hw11]; exact (row_at (vs := [_,_,_]) rfl).alloc _)
             have T11:=hide (hT.keep BA.out)
             have J11:=hide (J10.out.below BA.out)
             obtain ⟨go,hgo⟩:∃ g,g = w10.heap.size := ⟨_,rfl⟩
             rw [← hgo] at O11
             have hgo1:w.heap.size + 1 < go:=by omega
             clear hT BA J10
             go_upto_region 30 with fail
             rw [← hw11,← hgo]
             clear hw11 hgo hs1 hs0 hsr
             obtain ⟨m0,m1,m2,m3,m4,m5⟩:=box5 J11.out.m
             by_cases hx:x < 0
             ·by_cases e1:k = 1
              ·subst e1
               go_wp2
               go_ret
               exact ⟨rfl,J11.out.bel⟩
              ·have t1:(k != 1) = true:=by rw [bne_iff_ne]; exact e1
               by_cases e2:k = 2
               ·subst e2
                go_wp2
                go_ret
                exact ⟨rfl,J11.out.bel⟩
               ·have t2:(k != 2) = true:=by rw [bne_iff_ne]; exact e2
                clear e1 e2
                go_wp2
                go_ret
                exact ⟨rfl,J11.out.bel⟩
             ·by_cases hk:k = 1 ∨ k = 2
              ·obtain ⟨xn,rfl⟩:=Int.eq_ofNat_of_zero_le (show 0 ≤ x by omega)
               obtain ⟨kv,hkv⟩:∃ kv:Int,kv = k := ⟨_,rfl⟩
               have HK:=hide hkv
               have IM:=hide (show ∃ i,i < c ∧ GoodJ r r2 kv (xn:Int) y s o i by
                obtain ⟨i,i1,i2,i3⟩:=iso_move RI.out hrv hd hk (Int.natCast_nonneg xn) HC0.out
                refine ⟨i,by rw [RN.out]; exact i1,?_⟩
                unfold GoodJ qmJ
                rw [HK.out,HR2.out]
                exact ⟨i2,i3⟩)
               obtain ⟨hv2,hn2⟩:=ap12 hd hk HC0.out
               rw [← HR2.out] at hv2 hn2
               rw [← HN.out] at hn2
               obtain ⟨xr,hxr⟩:∃ z,z = xn % 4 := ⟨_,rfl⟩
               have hxr4:xr < 4:=by omega
               have xr0:(0:Int) ≤ (xr:Int):=by omega
               have xr4:(xr:Int) < 4:=by omega
               have hri:((xn:Nat):Int).tmod 4 = (xr:Int):=by rw [hxr]; rfl
               have hwr:IntKind.i64.wrap (xr:Int) = (xr:Int):=IntWalk.i64_in _ (by omega)
               have HXR:=hide (show (xn:Int) % 4 = (xr:Int) by omega)
               clear hkv hxr m0 m1 m2 m3 m4 m5
               obtain ⟨m0,m1,m2,m3,m4,m5⟩:=box5 J11.out.m
               rcases hk with rfl | rfl
               have CQ:=hide (fun (z:Nat) (W:World) (hW:DgAt W A9 B9 r) => show Calls Try.prog 23 #[.agg #[.slice A9 c c8,.slice B9 q c9,.int .i64 (d.lp:Int)],.agg #[.int .i64 1,.int .i64 (4 * (z:Int) + (xr:Int)),.int .i64 y,.int .i64 s,.bool o]] W (ResC (apC r (qmJ kv (xn:Int) y s o z)) (apD r (qmJ kv (xn:Int) y s o z)) (apI r (qmJ kv (xn:Int) y s o z)) W) by rw [show qmJ kv (xn:Int) y s o z = ⟨1,4 * (z:Int) + (xr:Int),y,s,o⟩ by unfold qmJ; rw [HK.out,if_pos rfl,HXR.out]]; exact apply_q r hrv A9 B9 c c8 c9 q d.lp 1 (4 * (z:Int) + (xr:Int)) y s o W RN.out RQ.out RL.out hW)
               rotate_left
               have CQ:=hide (fun (z:Nat) (W:World) (hW:DgAt W A9 B9 r) => show Calls Try.prog 23 #[.agg #[.slice A9 c c8,.slice B9 q c9,.int .i64 (d.lp:Int)],.agg #[.int .i64 2,.int .i64 (z:Int),.int .i64 y,.int .i64 s,.bool o]] W (ResC (apC r (qmJ kv (xn:Int) y s o z)) (apD r (qmJ kv (xn:Int) y s o z)) (apI r (qmJ kv (xn:Int) y s o z)) W) by rw [show qmJ kv (xn:Int) y s o z = ⟨2,(z:Int),y,s,o⟩ by unfold qmJ; rw [HK.out,if_neg (by decide)]]; exact apply_q r hrv A9 B9 c c8 c9 q d.lp 2 (z:Int) y s o W RN.out RQ.out RL.out hW)
               all_goals
                go_wp2
                go_loopg [20,21,22,23,24,25] c (fun g s20 s21 s22 s23 s24 s25 wx => ∃ (z:Nat) (fb:Bool),z + g = c ∧ s21 = .int .i64 (z:Int) ∧ s20 = .bool fb ∧ (fb = false → ∀ i,i < z → ¬ GoodJ r r2 kv (xn:Int) y s o i) ∧ Below w11.heap.size w11 wx)
                case atStart => exact ⟨0,false,by omega,rfl,rfl,fun _ i hi => absurd hi (by omega),Below.refl _ _⟩
                case round =>
                 clear m0 m1 m2 m3 m4 m5
                 obtain ⟨z,fb,hkg,rfl,rfl,hgd,hbw⟩:=hrel
                 have HKG:=hide hkg
                 have HBW:=hide hbw
                 have HGD:=hide hgd
                 clear hkg hbw hgd
                 by_cases hc:z < c
                 ·have hci:(z:Int) < (c:Int):=by omega
                  have c0:(0:Int) ≤ (z:Int):=by omega
                  have JW:=hide (J11.out.below HBW.out)
                  obtain ⟨m0,m1,m2,m3,m4,m5⟩:=box5 JW.out.m
                  obtain ⟨r0,r1,r2',r3⟩:=box3 JW.out.rr
                  have hs1:w.heap.size + 1 < wr.heap.size:=JW.out.m.lt
                  have hsr:gr < wr.heap.size:=JW.out.rr.lt
                  have hso:go < wr.heap.size:=(O11.out.below HBW.out).lt
                  have hw4:IntKind.i64.wrap (4 * (z:Int)) = 4 * (z:Int):=IntWalk.i64_in _ (by omega)
                  have hw5:IntKind.i64.wrap (4 * (z:Int) + (xr:Int)) = 4 * (z:Int) + (xr:Int):=IntWalk.i64_in _ (by omega)
                  have TW:=hide (fun o:Obj => ((JW.out.t.keep ((Below.refl wr.heap.size wr).alloc (Nat.le_refl _) o)).at))
                  have BO:=hide (fun o:Obj => (HBW.out.alloc HBW.out.size o))
                  go_wp2_with fail
                  refine (CQ.out z _ (TW.out _)).mono ?_
                  intro e w12 hres
                  have B12:=hide ((BO.out _).trans (hres.2.2.mono (BO.out _).size))
                  clear m0 m1 m2 m3 m4 m5 r0 r1 r2' r3 TW BO JW hs1 hsr hso HBW
                  have O12:=hide (O11.out.below B12.out)
                  obtain ⟨o0,o1,o2,o3⟩:=box3 O12.out
                  have hso:go < w12.heap.size:=O12.out.lt
                  by_cases hq0:apC r (qmJ kv (xn:Int) y s o z) = 0
                  ·obtain ⟨A7,B7,c7,c7',k9',x9',y9',s9',o9',hmv,rfl,hT⟩:=(hres.2.1 hq0).split
                   have hv7:Pl.Valid (apD r (qmJ kv (xn:Int) y s o z)) ∧ (apD r (qmJ kv (xn:Int) y s o z)).n ≤ r.n + 1:=ap12 hrv (by rw [HK.out]; first | exact .inl rfl | exact .inr rfl) hq0
                   obtain ⟨r7,hr7⟩:∃ r7,r7 = apD r (qmJ kv (xn:Int) y s o z) := ⟨_,rfl⟩
                   have HR7:=hide hr7
                   rw [← hr7] at hT hv7 ⊢
                   obtain ⟨hv7,hn7⟩:=hv7
                   rw [← RN.out] at hn7
                   obtain ⟨N7,hN7⟩:∃ n,n = r7.n := ⟨_,rfl⟩
                   obtain ⟨M7,hM7⟩:∃ n,n = 4 * r7.n := ⟨_,rfl⟩
                   obtain ⟨L7,hL7⟩:∃ n,n = r7.lp := ⟨_,rfl⟩
                   rw [← hM7,← hN7,← hL7]
                   have HN7:=hide hN7
                   have HM7:=hide hM7
                   have HL7:=hide hL7
                   have HQ0:=hide hq0
                   clear hN7 hM7 hL7 hmv hres hr7 hq0
                   obtain ⟨w13,hw13⟩:∃ W:World,W = (w12.alloc (.cells #[.slice A7 N7 c7,.slice B7 M7 c7',.int .i64 (L7:Int)] 24)).alloc (.cells #[.int .i64 k9',.int .i64 x9',.int .i64 y9',.int .i64 s9',.bool o9'] 37) := ⟨_,rfl⟩
                   have BA:=hide (show Below w12.heap.size w12 w13 by rw [hw13]; exact ((Below.refl _ _).alloc (Nat.le_refl _) _).alloc (by simp) _)
                   have X13:=hide (show Row w13 w12.heap.size 24 [.slice A7 N7 c7,.slice B7 M7 c7',.int .i64 (L7:Int)] by rw [hw13]; exact (row_at (vs := [_,_,_]) rfl).alloc _)
                   have T13:=hide (hT.keep BA.out)
                   have B13:=hide (B12.out.trans (BA.out.mono B12.out.size))
                   have O13:=hide (O12.out.below BA.out)
                   obtain ⟨gx,hgx⟩:∃ g,g = w12.heap.size := ⟨_,rfl⟩
                   rw [← hgx] at X13
                   clear hT BA B12 O12 o0 o1 o2 o3
                   go_upto_region 41 with fail
                   rw [← hw13,← hgx]
                   clear hw13 hgx hso
                   cases fb with
                   | true =>
                     go_wp2
                     go_roundg (gk - 1)
                     case measure => have := HKG.out; omega
                     case rel => exact ⟨z + 1,true,by have := HKG.out; omega,by go_num,rfl,(fun h => by cases h),B13.out⟩
                   | false =>
                     obtain ⟨o0,o1,o2,o3⟩:=box3 O13.out
                     obtain ⟨x0,x1,x2,x3⟩:=box3 X13.out
                     go_wp2_with fail
                     refine (same_q r7 r2 hv7 hv2 (by omega) (by omega) A7 B7 A8 B8 N7 c7 c7' M7 N9 c8' c9' M9 L7 L9 _ HN7.out HM7.out HL7.out T13.out.at HN9.out HM9.out HL9.out (T11.out.keep B13.out).at).mono ?_
                     rintro e w14 ⟨rfl,hb14⟩
                     have B14:=hide (B13.out.trans (hb14.mono B13.out.size))
                     obtain ⟨fb,hfb⟩:∃ b,b = Pl.vb (∃ σ,Pl.Iso r7 r2 σ) := ⟨_,rfl⟩
                     rw [← hfb]
                     have HFB:=hide (show fb = false → ¬ ∃ σ,Pl.Iso r7 r2 σ from fun h e => by rw [hfb,Pl.vb_true e] at h; cases h)
                     clear hfb o0 o1 o2 o3 x0 x1 x2 x3 hb14
                     go_wp2
                     go_roundg (gk - 1)
                     case measure => have := HKG.out; omega
                     case rel =>
                      refine ⟨z + 1,fb,by have := HKG.out; omega,by go_num,rfl,fun h i hi => ?_,B14.out⟩
                      by_cases ei:i = z
                      ·subst ei
                       exact fun G => HFB.out h (by rw [HR7.out]; exact G.2)
                      ·exact HGD.out (by trivial) i (by omega)
                  ·rw [(hres.1 hq0).split]
                   obtain ⟨ce,hce⟩:∃ u:Int,u = apC r (qmJ kv (xn:Int) y s o z) := ⟨_,rfl⟩
                   rw [← hce] at hq0 ⊢
                   have t0:(ce == 0) = false:=by rw [beq_eq_false_iff_ne]; exact hq0
                   have HQ0:=hide (show apC r (qmJ kv (xn:Int) y s o z) ≠ 0 by rw [← hce]; exact hq0)
                   have BF:=hide (show Below w11.heap.size w11 ((w12.alloc (.cells #[.slice none 0 0,.slice none 0 0,.int .i64 0] 24)).alloc (.cells #[.int .i64 0,.int .i64 0,.int .i64 0,.int .i64 0,.bool false] 37)) from (B12.out.alloc B12.out.size _).alloc (by have := B12.out.size; simp; omega) _)
                   clear hce hq0 hres
                   cases fb with
                   | true =>
                     go_wp2
                     go_roundg (gk - 1)
                     case measure => have := HKG.out; omega
                     case rel => exact ⟨z + 1,true,by have := HKG.out; omega,by go_num,rfl,(fun h => by cases h),BF.out⟩
                   | false =>
                     go_wp2
                     go_roundg (gk - 1)
                     case measure => have := HKG.out; omega
                     case rel =>
                      refine ⟨z + 1,false,by have := HKG.out; omega,by go_num,rfl,fun _ i hi => ?_,BF.out⟩
                      by_cases ei:i = z
                      ·subst ei
                       exact fun G => HQ0.out G.1
                      ·exact HGD.out (by trivial) i (by omega)
                 ·have hci:¬ ((z:Int) < (c:Int)):=by omega
                  have hze:z = c:=by have := HKG.out; omega
                  have hfb:fb = true:=by
                   cases fb with
                   | true => rfl
                   | false =>
                     obtain ⟨i,i1,i2⟩:=IM.out
                     exact absurd i2 (HGD.out rfl i (by omega))
                  subst hfb
                  have BF:=hide (J11.out.bel.trans (HBW.out.mono J11.out.bel.size))
                  clear hze HGD
                  go_wp2
                  go_ret
                  exact ⟨rfl,BF.out⟩
              ·have t1:(k != 1) = true:=by rw [bne_iff_ne]; exact fun e => hk (.inl e)
               have t2:(k != 2) = true:=by rw [bne_iff_ne]; exact fun e => hk (.inr e)
               clear hk
               go_wp2
               go_ret
               exact ⟨rfl,J11.out.bel⟩
            ·rw [(hres.1 hc0).split]
             have t0:(apC d ⟨k,x,y,s,o⟩ != 0) = true:=by rw [bne_iff_ne]; exact hc0
             obtain ⟨ce,hce⟩:∃ z,z = apC d ⟨k,x,y,s,o⟩:=⟨_,rfl⟩
             rw [← hce] at t0 ⊢
             have BF:=hide (show Below w.heap.size w ((w10.alloc (.cells #[.slice none 0 0,.slice none 0 0,.int .i64 0] 24)).alloc (.cells #[.int .i64 0,.int .i64 0,.int .i64 0,.int .i64 0,.bool false] 37)) from (J10.out.bel.alloc J10.out.bel.size _).alloc (by simp; omega) _)
             clear hce hc0 hres
             go_wp2
             go_ret
             exact ⟨rfl,BF.out⟩
end Go.Proofs.Ytghdiolnonejaaa
end
section
namespace Go.Proofs.Ytghdiolnonejaaa
open Go Go.RowKit
attribute [local go_sem ↓] Go.wp_at_zero Go.wp_at_succ
set_option maxRecDepth 100000 in
set_option maxHeartbeats 4000000 in
theorem renum_bad (sg mt:List Int) (lp:Int) (A B:Option Addr) (n q cp cq:Nat) (k x y s:Int) (o:Bool) (b:Nat) (hb:b < 256) (w:World) (hs:IntsAt w A n sg) (hm:IntsAt w B q mt) (hn:n ≤ maxLen) (hq:q ≤ maxLen) (hlp:-9223372036854775808 ≤ lp ∧ lp ≤ 9223372036854775807) (hv:¬ Pl.VL sg mt lp) :
 Calls Try.prog 8 #[.agg #[.slice A n cp,.slice B q cq,.int .i64 lp],(Mv.mk k x y s o).v,.int .u8 (b:Int)] w fun e w' => e = .returned (.bool true) ∧ Below w.heap.size w w' := by
 have HS:=hide hs
 have HM:=hide hm
 clear hs hm
 have X0:=hide (show Row ((w.alloc (.cells #[.slice A n cp,.slice B q cq,.int .i64 lp] 24)).alloc (.cells #[.int .i64 k,.int .i64 x,.int .i64 y,.int .i64 s,.bool o] 37)) w.heap.size 24 [.slice A n cp,.slice B q cq,.int .i64 lp] from (row_at (vs := [_,_,_]) rfl).alloc _)
 have B0:=hide (show Below w.heap.size w ((w.alloc (.cells #[.slice A n cp,.slice B q cq,.int .i64 lp] 24)).alloc (.cells #[.int .i64 k,.int .i64 x,.int .i64 y,.int .i64 s,.bool o] 37)) from ((Below.refl _ _).alloc (Nat.le_refl _) _).alloc (by simp) _)
 unfold Mv.v
 go_enter Try.func8,Try.ntmps8
 go_wp2_with fail
 refine (awake_true _).mono ?_
 rintro e w1 ⟨rfl,hb1⟩
 have Y0:=hide (X0.out.below hb1)
 have B1:=hide (B0.out.trans (hb1.mono B0.out.size))
 clear X0 B0 hb1
 obtain ⟨d0,d1,d2,d3⟩:=box3 Y0.out
 go_wp2_with fail
 refine (small_any A B n q cp cq (.int .i64 lp) w1).mono ?_
 rintro e w2 ⟨he,hb2⟩
 have Z0:=hide (Y0.out.below hb2)
 have B2:=hide (B1.out.trans (hb2.mono B1.out.size))
 clear Y0 B1 hb2 d0 d1 d2 d3
 obtain ⟨d0,d1,d2,d3⟩:=box3 Z0.out
 rcases he with rfl | rfl
 ·go_wp2
  go_ret
  exact ⟨rfl,B2.out⟩
 ·by_cases h7:(6:Int) < (n:Int)
  ·go_wp2
   go_ret
   exact ⟨rfl,B2.out⟩
  ·by_cases hz:n = 0
   ·have t0:((n:Int) == 0) = true:=by rw [beq_iff_eq]; omega
    clear hz
    go_wp2
    go_ret
    exact ⟨rfl,B2.out⟩
   have t0:((n:Int) == 0) = false:=by rw [beq_eq_false_iff_ne]; omega
   clear hz
   go_wp2_with fail
   refine (valid_any sg mt lp A B n q cp cq _ (HS.out.keep B2.out) (HM.out.keep B2.out) hn hq hlp).mono ?_
   rintro e w3 ⟨rfl,hb3⟩
   rw [Pl.vb_false hv]
   have B3:=hide (B2.out.trans (hb3.mono B2.out.size))
   clear hb3
   go_wp2
   go_ret
   exact ⟨rfl,B3.out⟩
theorem renum_walk (sg mt:List Int) (lp:Int) (A B:Option Addr) (n q cp cq:Nat) (k x y s:Int) (o:Bool) (b:Nat) (hb:b < 256) (w:World) (hs:IntsAt w A n sg) (hm:IntsAt w B q mt) (hn:n ≤ maxLen) (hq:q ≤ maxLen) (hlp:-9223372036854775808 ≤ lp ∧ lp ≤ 9223372036854775807) :
 Calls Try.prog 8 #[.agg #[.slice A n cp,.slice B q cq,.int .i64 lp],(Mv.mk k x y s o).v,.int .u8 (b:Int)] w fun e w' => e = .returned (.bool true) ∧ Below w.heap.size w w' := by
 by_cases hv:Pl.VL sg mt lp
 ·have hl:=hs.len
  have hl2:=hm.len
  have hl3:=hv.len
  have en:(Pl.mk sg mt lp).n = n:=hl
  have em:nats (Pl.mk sg mt lp).mt = mt:=Pl.nats_mk hv.2.1
  have el:((Pl.mk sg mt lp).lp:Int) = lp:=by show ((lp.toNat:Nat):Int) = lp; have := hv.2.2; omega
  have h:=renum_valid (Pl.mk sg mt lp) hv.1 A B cp cq q k x y s o b (by omega) w (by rw [en]; omega) ⟨by rw [en]; exact hs,by rw [en,em,show 4 * n = q by omega]; exact hm⟩
  rw [en,el] at h
  exact h
 ·exact renum_bad sg mt lp A B n q cp cq k x y s o b hb w hs hm hn hq hlp hv
end Go.Proofs.Ytghdiolnonejaaa
end
