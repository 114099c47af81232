/-
 The texts Rh.
-/
import Derived.Test.YtghdiolnonejaaaS03
set_option linter.unusedVariables false
set_option linter.unusedSimpArgs false
section
namespace Go.Proofs.Ytghdiolnonejaaa
open Go Go.RowKit
structure Drk (w:World) (dv:List Value) (vS vM:Value) (ss:List Int) (ms:List Nat) (lp:Int) (W:World):Prop where
 old:Row W w.heap.size 24 dv
 res:Row W (w.heap.size + 1) 24 [.slice none 0 0,.slice none 0 0,.int .i64 0]
 box:Row W (w.heap.size + 1 + 1) 24 [vS,vM,.int .i64 lp]
 s:W.ownsRow (w.heap.size + 3) 3 1 vS ss.length (ss.map (.int .i64))
 m:W.ownsRow (w.heap.size + 3) 3 1 vM ms.length (ms.map (fun k:Nat => Value.int .i64 k))
 ne:∀ g,vS.ownBlock = some g → vM.ownBlock ≠ some g
 bel:Below w.heap.size w W
section
variable {w:World} {dv:List Value} {vS vM v':Value} {ss:List Int} {ms:List Nat} {lp:Int} {W W' W2:World}
theorem Drk.big (h:Drk w dv vS vM ss ms lp W):w.heap.size + 3 ≤ W.heap.size := by have := h.box.lt; omega
theorem Drk.below (h:Drk w dv vS vM ss ms lp W) (hb:Below W.heap.size W W'):Drk w dv vS vM ss ms lp W' :=
 ⟨h.old.below hb,h.res.below hb,h.box.below hb,own_keep h.s hb (Nat.le_refl _),own_keep h.m hb (Nat.le_refl _),h.ne,h.bel.trans (hb.mono (by have := h.big; omega))⟩
theorem Drk.alloc (h:Drk w dv vS vM ss ms lp W) (o:Obj):Drk w dv vS vM ss ms lp (W.alloc o) := h.below ((Below.refl _ _).alloc (Nat.le_refl _) o)
theorem Drk.drew (h:Drk w dv vS vM ss ms lp W):Drk w dv vS vM ss ms lp W.drew := ⟨h.old,h.res,h.box,h.s,h.m,h.ne,h.bel.drew⟩
theorem Drk.appS {x:Int} (h:Drk w dv vS vM ss ms lp W) (own:W2.ownsRow (w.heap.size + 3) 3 1 v' (ss.length + 1) (ss.map (.int .i64) ++ [.int .i64 x])) (gr:W.grownBy W2 vS.ownBlock) {g':Nat} (hv:v'.ownBlock = some g') (hat0:vS.ownBlock = some g' ∨ g' = W.heap.size) :
 Drk w dv v' vM (ss ++ [x]) ms lp (W2.setCell ⟨w.heap.size + 1 + 1,0,none⟩ v') := by
 have hat:v'.ownBlock = vS.ownBlock ∨ v'.ownBlock = some W.heap.size:=by
  rcases hat0 with e | e
  ·exact .inl (hv.trans e.symm)
  ·exact .inr (hv.trans (congrArg some e))
 have hlt:=h.s.lt
 have hlm:=h.m.lt
 refine ⟨(h.old.grown gr (row_apart h.old h.s)).other (by show w.heap.size ≠ w.heap.size + 1 + 1; omega) _,(h.res.grown gr (row_apart h.res h.s)).other (by simp) _,(h.box.grown gr (row_apart h.box h.s)).set 0 v',?_,?_,?_,?_⟩
 ·refine ownsRow_setCell_below ?_ (by simp) _
  simpa using own
 ·refine ownsRow_setCell_below (h.m.kept gr ?_) (by simp) _
  cases hm:vM.ownBlock with
  | none => exact .inl rfl
  | some g => exact .inr (fun e => h.ne g e.symm hm)
 ·intro g hg hm
  rcases hat with e | e
  ·exact h.ne g (e ▸ hg) hm
  ·rw [e] at hg
   injection hg with hg
   have:=(hlm g hm).2
   omega
 ·exact (h.bel.grown gr h.bel.size (fun k hk => by have := (hlt k hk).1; omega)).setCell (by show w.heap.size ≤ w.heap.size + 1 + 1; omega) _
theorem Drk.appM {x:Nat} (h:Drk w dv vS vM ss ms lp W) (own:W2.ownsRow (w.heap.size + 3) 3 1 v' (ms.length + 1) (ms.map (fun k:Nat => Value.int .i64 k) ++ [.int .i64 x])) (gr:W.grownBy W2 vM.ownBlock) {g':Nat} (hv:v'.ownBlock = some g') (hat0:vM.ownBlock = some g' ∨ g' = W.heap.size) :
 Drk w dv vS v' ss (ms ++ [x]) lp (W2.setCell ⟨w.heap.size + 1 + 1,1,none⟩ v') := by
 have hat:v'.ownBlock = vM.ownBlock ∨ v'.ownBlock = some W.heap.size:=by
  rcases hat0 with e | e
  ·exact .inl (hv.trans e.symm)
  ·exact .inr (hv.trans (congrArg some e))
 have hlt:=h.s.lt
 have hlm:=h.m.lt
 refine ⟨(h.old.grown gr (row_apart h.old h.m)).other (by show w.heap.size ≠ w.heap.size + 1 + 1; omega) _,(h.res.grown gr (row_apart h.res h.m)).other (by simp) _,(h.box.grown gr (row_apart h.box h.m)).set 1 v',?_,?_,?_,?_⟩
 ·refine ownsRow_setCell_below (h.s.kept gr ?_) (by simp) _
  cases hm:vS.ownBlock with
  | none => exact .inl rfl
  | some g => exact .inr (fun e => h.ne g hm e.symm)
 ·refine ownsRow_setCell_below ?_ (by simp) _
  simpa using own
 ·intro g hg hm
  rcases hat with e | e
  ·exact h.ne g hg (e ▸ hm)
  ·rw [e] at hm
   injection hm with hm
   have:=(hlt g hg).2
   omega
 ·exact (h.bel.grown gr h.bel.size (fun k hk => by have := (hlm k hk).1; omega)).setCell (by show w.heap.size ≤ w.heap.size + 1 + 1; omega) _
end
def drM (c:Nat) (mt:List Nat) (k:Nat):List Nat := ((List.range k).filter (fun h => !(h / 4 == c))).map (fun h => Pl.shf [c] (mt.getD h 0))
theorem drM_stay {c k:Nat} (h:k / 4 ≠ c) (mt:List Nat):drM c mt (k + 1) = drM c mt k ++ [Pl.shf [c] (mt.getD k 0)] := by
 unfold drM
 rw [List.range_succ,List.filter_append,List.map_append]
 simp [h]
theorem drM_gone {c k:Nat} (h:k / 4 = c) (mt:List Nat):drM c mt (k + 1) = drM c mt k := by
 unfold drM
 rw [List.range_succ,List.filter_append,List.map_append]
 simp [h]
theorem drM_len (c:Nat) (mt:List Nat) (k:Nat):(drM c mt k).length ≤ k := by
 unfold drM
 rw [List.length_map]
 have:=List.length_filter_le (fun h => !(h / 4 == c)) (List.range k)
 simpa using this
theorem drM_all (c:Nat) (mt:List Nat):∀ n:Nat,drM c mt (4 * n) = shM [c] mt n
 | 0 => rfl
 | n + 1 => by
   have ih:=drM_all c mt n
   rw [show 4 * (n + 1) = 4 * n + 1 + 1 + 1 + 1 by omega]
   by_cases e:n = c
   ·rw [drM_gone (by omega),drM_gone (by omega),drM_gone (by omega),drM_gone (by omega),ih,shM_gone (by simp; omega)]
   ·rw [drM_stay (by omega),drM_stay (by omega),drM_stay (by omega),drM_stay (by omega),ih,shM_stay (by simp; omega)]
    simp
theorem sh1_shf (c h:Nat):sh1 (h:Int) c = (Pl.shf [c] h:Nat) := by
 unfold sh1
 rw [Pl.shf_one]
 by_cases e:c < h / 4
 ·rw [if_pos e,if_pos (by omega)]; omega
 ·rw [if_neg e,if_neg (by omega)]
def DropPost (sg:List Int) (mt:List Nat) (lp:Int) (c:Nat) (w:World) (e:Ending) (w':World):Prop :=
 ∃ (A2 B2:Option Addr) (c2 d2:Nat),e = .returned (.agg #[.slice A2 (Pl.left sg.length [c]).length c2,.slice B2 (4 * (Pl.left sg.length [c]).length) d2,.int .i64 lp]) ∧ w'.ownsRow w.heap.size 3 1 (.slice A2 (Pl.left sg.length [c]).length c2) (Pl.left sg.length [c]).length ((Pl.shrS [c] sg).map (.int .i64)) ∧ w'.ownsRow w.heap.size 3 1 (.slice B2 (4 * (Pl.left sg.length [c]).length) d2) (4 * (Pl.left sg.length [c]).length) ((Pl.shrM [c] sg.length mt).map (fun k:Nat => Value.int .i64 k)) ∧ Below w.heap.size w w'
set_option maxRecDepth 100000 in
set_option maxHeartbeats 2000000 in
theorem rdrop_any (sg:List Int) (mt:List Nat) (lp:Int) (A B:Option Addr) (n q cp cq c:Nat) (w:World) (hs:IntsAt w A n sg) (hm:IntsAt w B q (nats mt)) (hq:q = 4 * n) (hn:n ≤ 100) (hmt:∀ h,mt.getD h 0 ≤ 1000) :
 Calls Try.prog 119 #[.agg #[.slice A n cp,.slice B q cq,.int .i64 lp],.int .i64 (c:Int)] w (DropPost sg mt lp c w) := by
 have HLS:=hide hs.len
 have HQ:=hide hq
 have HS:=hide hs
 have HMT:=hide hm
 have hq4:q ≤ 400:=by omega
 clear hq hs hm
 go_enter Try.func119,Try.ntmps119
 go_upto_region 2 with fail
 obtain ⟨W1,hW1⟩:∃ W1:World,W1 = ((w.alloc (.cells #[.slice A n cp,.slice B q cq,.int .i64 lp] 24)).alloc (.cells #[.slice none 0 0,.slice none 0 0,.int .i64 0] 24)).alloc (.cells #[.slice none 0 0,.slice none 0 0,.int .i64 lp] 24) := ⟨_,rfl⟩
 have K0:=hide (show Drk w [.slice A n cp,.slice B q cq,.int .i64 lp] (.slice none 0 0) (.slice none 0 0) [] [] lp W1 by
  rw [hW1]
  exact ⟨((row_at (vs := [.slice A n cp,.slice B q cq,.int .i64 lp]) rfl).alloc _).alloc _,(row_at (vs := [.slice none 0 0,.slice none 0 0,.int .i64 0]) (by simp)).alloc _,row_at (vs := [.slice none 0 0,.slice none 0 0,.int .i64 lp]) (by simp),
   World.ownsRow_nil _ _ _ _,World.ownsRow_nil _ _ _ _,fun g h => by simp [Value.ownBlock] at h,(((Below.refl _ _).alloc (Nat.le_refl _) _).alloc (by simp) _).alloc (by simp; omega) _⟩)
 rw [← hW1]
 clear hW1
 go_wp2
 go_loopg [6] n (fun g i wx => ∃ (k:Nat) (vS:Value),k + g = n ∧ i = .int .i64 k ∧ Drk w [.slice A n cp,.slice B q cq,.int .i64 lp] vS (.slice none 0 0) (shS [c] sg k) [] lp wx)
 case atStart => exact ⟨0,.slice none 0 0,by omega,rfl,K0.out⟩
 case round =>
  clear K0
  obtain ⟨k,vS,hkg,rfl,hk⟩:=hrel
  have HKG:=hide hkg
  have hkn:k ≤ n:=by omega
  have HK:=hide hk
  clear hkg hk
  obtain ⟨go,rfl⟩:∃ go,go = gk := ⟨_,rfl⟩
  obtain ⟨b0,b1,b2,_⟩:=box3 HK.out.old
  obtain ⟨e0,e1,e2,e3⟩:=box3 HK.out.box
  by_cases hlt:k < n
  ·obtain ⟨ab,ao,rfl,hca⟩:=ints_pv (HS.out.keep HK.out.bel) hlt
   obtain ⟨x,hx⟩:∃ x,x = Pl.pv sg k := ⟨_,rfl⟩
   rw [← hx] at hca
   have HX:=hide hx
   clear hx
   by_cases hkc:k = c
   ·have t1:((k:Int) != (c:Int)) = false:=by rw [bne_eq_false_iff_eq]; omega
    go_wp2
    go_roundg (go - 1)
    case measure => have := HKG.out; omega
    case rel => exact ⟨k + 1,vS,by have := HKG.out; omega,by go_num,by rw [shS_gone (by simpa using hkc)]; exact HK.out⟩
   ·have t1:((k:Int) != (c:Int)) = true:=by rw [bne_iff_ne]; omega
    obtain ⟨i0,hi0,hz0,hz1,hz2⟩:=info_parts intInfo
    have hbig:=HK.out.big
    have hsl:=shS_len [c] sg k
    have P1:∀ u ∈ [Value.int .i64 x],u.oneCell' = true:=by simp [Value.oneCell']
    have P2:(shS [c] sg k).length + 1 ≤ maxLen:=by unfold maxLen; omega
    have P3:((shS [c] sg k).length + 1) * 8 ≤ 140737488355328:=by omega
    have P4:w.heap.size + 3 ≤ (wr.alloc (.cells #[.int .i64 x] 3)).drew.heap.size:=by simp; omega
    have P5:(wr.alloc (.cells #[.int .i64 x] 3)).drew.heap.size = wr.heap.size + 1:=by simp
    have PP:=hide P1
    have P5H:=hide P5
    have KB:=hide (show Row (wr.alloc (.cells #[.int .i64 x] 3)).drew (w.heap.size + 1 + 1) 24 [vS,.slice none 0 0,.int .i64 lp] from Row.drew (Row.alloc HK.out.box _))
    have KM:=hide (show (wr.alloc (.cells #[.int .i64 x] 3)).drew.ownsRow (w.heap.size + 3) 3 1 vS (shS [c] sg k).length ((shS [c] sg k).map (.int .i64)) from ((HK.out.s.alloc _).drew))
    have HKC:=hide hkc
    obtain ⟨kb0,kb1,kb2,kb3⟩:=box3 KB.out
    clear P1 P5 hkc
    go_wp2_with fail
    go_region_law
     (first
       | (refine step_append_lies _ ?_ (.tmp 22) (.tmp 28) 22 ?_ (w.heap.size + 3) 3 i0 (.int .i64 0) 1 8 Try.underlying22 hi0 hz0 hz1 hz2 rfl Nat.zero_lt_one vS (shS [c] sg k).length ((shS [c] sg k).map (.int .i64)) ?_ KM.out ⟨wr.heap.size, 0, none⟩ 1 1 [.int .i64 x] ?_ rfl (World.news_of_block (cs := #[.int .i64 x]) (t := 3) (fr := (0, 0)) (heap_alloc_new wr _)) PP.out Nat.zero_lt_one P2 P3 P4 (wr.heap.size + 1) P5H.out ?_
          ·rfl
          ·rfl
          ·rfl
          ·rfl
          intro g3 c3 w3 own3 grow3 at3 lt3
          obtain ⟨q0,q1,q2,q3⟩:=box3 (KB.out.grown grow3 (row_apart KB.out KM.out))
          have OWN3:=hide own3
          have GR3:=hide grow3
          have AT3:=hide at3
          clear own3 grow3 at3)
       | go_simp)
    all_goals
     go_wp2
     go_roundg (go - 1)
     case measure => have := HKG.out; omega
     case rel =>
      refine ⟨k + 1,.slice (some ⟨g3,0,none⟩) ((shS [c] sg k).length + 1) c3,by have := HKG.out; omega,by go_num,?_⟩
      have hh:=Drk.appS (x := x) ((HK.out.alloc (.cells #[.int .i64 x] 3)).drew) OWN3.out GR3.out rfl (by simpa using AT3.out)
      rw [HX.out,show Pl.pv sg k = sg.getD k 0 from rfl,← shS_stay (by simpa using fun e => HKC.out e)] at hh
      exact hh
  ·have hkn':k = n:=by omega
   subst hkn'
   have HF:=hide (show Drk w [.slice A k cp,.slice B q cq,.int .i64 lp] vS (.slice none 0 0) (shS [c] sg k) (drM c mt 0) lp wr from HK.out)
   have hsl:=shS_len [c] sg k
   clear HK HKG e0 e1 e2 e3
   go_wp2
   go_loopg [7] q (fun g i wx => ∃ (j:Nat) (vM:Value),j + g = q ∧ i = .int .i64 j ∧ Drk w [.slice A k cp,.slice B q cq,.int .i64 lp] vS vM (shS [c] sg k) (drM c mt j) lp wx)
   case atStart => exact ⟨0,.slice none 0 0,by omega,rfl,HF.out⟩
   case round =>
    clear HF
    obtain ⟨j,vM,hjg,rfl,hj⟩:=hrel
    have HJG:=hide hjg
    have hjq:j ≤ q:=by omega
    have HJ:=hide hj
    clear hjg hj
    obtain ⟨b0,b1,b2,_⟩:=box3 HJ.out.old
    obtain ⟨e0,e1,e2,e3⟩:=box3 HJ.out.box
    by_cases hlt2:j < q
    ·obtain ⟨bb,bo,rfl,hcb⟩:=nats_at (HMT.out.keep HJ.out.bel) hlt2
     obtain ⟨y,hy⟩:∃ y,y = mt.getD j 0 := ⟨_,rfl⟩
     have hy1:y ≤ 1000:=by rw [hy]; exact hmt j
     rw [← hy] at hcb
     have HY:=hide hy
     clear hy
     by_cases hjc:j / 4 = c
     ·have t1:((j:Int) / 4 == (c:Int)) = true:=by rw [beq_iff_eq]; omega
      go_wp2
      go_roundg (gk - 1)
      case measure => have := HJG.out; omega
      case rel => exact ⟨j + 1,vM,by have := HJG.out; omega,by go_num,by rw [drM_gone hjc]; exact HJ.out⟩
     ·have t1:((j:Int) / 4 == (c:Int)) = false:=by rw [beq_eq_false_iff_ne]; omega
      obtain ⟨i0,hi0,hz0,hz1,hz2⟩:=info_parts intInfo
      have hbig:=HJ.out.big
      have hml:=drM_len c mt j
      obtain ⟨l,hl⟩:∃ l,l = drM c mt j := ⟨_,rfl⟩
      rw [← hl] at hml HJ
      have HL:=hide hl
      have hsh:=sh1_shf c y
      have P1:∀ u ∈ [Value.int .i64 (Pl.shf [c] y:Nat)],u.oneCell' = true:=by simp [Value.oneCell']
      have P2:l.length + 1 ≤ maxLen:=by unfold maxLen; omega
      have P3:(l.length + 1) * 8 ≤ 140737488355328:=by omega
      have P4:w.heap.size + 3 ≤ (wr.alloc (.cells #[.int .i64 (Pl.shf [c] y:Nat)] 3)).drew.heap.size:=by simp; omega
      have P5:(wr.alloc (.cells #[.int .i64 (Pl.shf [c] y:Nat)] 3)).drew.heap.size = wr.heap.size + 1:=by simp
      have PP:=hide P1
      have P5H:=hide P5
      have KB:=hide (show Row (wr.alloc (.cells #[.int .i64 (Pl.shf [c] y:Nat)] 3)).drew (w.heap.size + 1 + 1) 24 [vS,vM,.int .i64 lp] from Row.drew (Row.alloc HJ.out.box _))
      have KM:=hide (show (wr.alloc (.cells #[.int .i64 (Pl.shf [c] y:Nat)] 3)).drew.ownsRow (w.heap.size + 3) 3 1 vM l.length (l.map (fun k:Nat => Value.int .i64 k)) from ((HJ.out.m.alloc _).drew))
      have HJC:=hide hjc
      have HSH:=hide hsh
      obtain ⟨kb0,kb1,kb2,kb3⟩:=box3 KB.out
      clear P1 P5 hjc hl hsh
      go_wp2_with fail
      go_region_law
       (first
         | (refine step_append_lies _ ?_ (.tmp 43) (.tmp 51) 22 ?_ (w.heap.size + 3) 3 i0 (.int .i64 0) 1 8 Try.underlying22 hi0 hz0 hz1 hz2 rfl Nat.zero_lt_one vM l.length (l.map (fun k : Nat => Value.int .i64 k)) ?_ KM.out ⟨wr.heap.size, 0, none⟩ 1 1 [.int .i64 (Pl.shf [c] y : Nat)] ?_ rfl (World.news_of_block (cs := #[.int .i64 (Pl.shf [c] y : Nat)]) (t := 3) (fr := (0, 0)) (heap_alloc_new wr _)) PP.out Nat.zero_lt_one P2 P3 P4 (wr.heap.size + 1) P5H.out ?_
            ·rfl
            ·rfl
            ·rfl
            ·rfl
            intro g3 c3 w3 own3 grow3 at3 lt3
            obtain ⟨q0,q1,q2,q3⟩:=box3 (KB.out.grown grow3 (row_apart KB.out KM.out))
            have OWN3:=hide own3
            have GR3:=hide grow3
            have AT3:=hide at3
            clear own3 grow3 at3)
         | (go_simp
            go_wp2_with ((go_at_call 118); refine Calls.mono (rshift_any (y:Int) c _ (by omega)) ?_; rintro e w5 ⟨rfl,rfl⟩; rw [HSH.out])))
      all_goals
       go_wp2
       go_roundg (gk - 1)
       case measure => have := HJG.out; omega
       case rel =>
        refine ⟨j + 1,.slice (some ⟨g3,0,none⟩) (l.length + 1) c3,by have := HJG.out; omega,by go_num,?_⟩
        have hh:=Drk.appM (x := Pl.shf [c] y) ((HJ.out.alloc (.cells #[.int .i64 (Pl.shf [c] y:Nat)] 3)).drew) OWN3.out GR3.out rfl (by simpa using AT3.out)
        rw [HL.out,HY.out,← drM_stay HJC.out] at hh
        rw [HL.out]
        exact hh
    ·have hjq':j = 4 * k:=by have := HQ.out; omega
     have HS2:=hide (show (shS [c] sg k).length = (Pl.left sg.length [c]).length ∧ shS [c] sg k = Pl.shrS [c] sg by
      have hk:=HLS.out
      have e:shS [c] sg k = Pl.shrS [c] sg:=by unfold shS Pl.shrS; rw [hk]
      exact ⟨by rw [e,Pl.shrS_len],e⟩)
     have HM2:=hide (show (drM c mt j).length = 4 * (Pl.left sg.length [c]).length ∧ drM c mt j = Pl.shrM [c] sg.length mt by
      have hk:=HLS.out
      have e:drM c mt j = Pl.shrM [c] sg.length mt:=by rw [hjq',drM_all]; unfold shM Pl.shrM; rw [hk]
      exact ⟨by rw [e,Pl.shrM_len],e⟩)
     obtain ⟨AS,cS,rfl⟩:=owns_slice HJ.out.s
     obtain ⟨AM,cM,rfl⟩:=owns_slice HJ.out.m
     obtain ⟨r0,r1,r2,r3⟩:=box3 HJ.out.res
     have hwr:w.heap.size + 3 ≤ wr.heap.size:=HJ.out.big
     clear hjq'
     go_wp2
     have RES:=hide (((HJ.out.res.set 0 (.slice AS (shS [c] sg k).length cS)).set 1 (.slice AM (drM c mt j).length cM)).set 2 (.int .i64 lp))
     refine bodyPost_ret (v := .agg #[.slice AS (shS [c] sg k).length cS,.slice AM (drM c mt j).length cM,.int .i64 lp]) ?_ rfl ?_
     ·obtain ⟨f0,f1,f2,_⟩:=box3 RES.out
      simp [results,Try.results119,go_sem,f0,f1,f2]
     ·have OS:=HJ.out.s
      have OM:=HJ.out.m
      rw [HS2.out.1,HS2.out.2] at OS
      rw [HM2.out.1,HM2.out.2] at OM
      have k1:w.heap.size + 1 < w.heap.size + 3:=by omega
      refine ⟨AS,AM,cS,cM,by rw [HS2.out.1,HM2.out.1],?_,?_,?_⟩
      ·exact own_keep (ownsRow_setCell_below (ownsRow_setCell_below (ownsRow_setCell_below OS k1 _) k1 _) k1 _) (Below.refl _ _) (by omega)
      ·exact own_keep (ownsRow_setCell_below (ownsRow_setCell_below (ownsRow_setCell_below OM k1 _) k1 _) k1 _) (Below.refl _ _) (by omega)
      ·exact ((HJ.out.bel.setCell (by show w.heap.size ≤ w.heap.size + 1; omega) _).setCell (by show w.heap.size ≤ w.heap.size + 1; omega) _).setCell (by show w.heap.size ≤ w.heap.size + 1; omega) _
end Go.Proofs.Ytghdiolnonejaaa
end
