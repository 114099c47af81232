/-
 The texts Wl, Wm, Wr, Ws, Wt, Wu, Dc, Ra, Rc, Xa, Wx, Xb.
-/
import Derived.Test.YtobbepmlmbbamaaE01
import Derived.Deep.DeepCutAuto
import Derived.Outline
import Derived.RegionTactic
set_option linter.unusedVariables false
set_option linter.unusedSimpArgs false
section
namespace Go.Proofs.Ytobbepmlmbbamaa
open Go Go.RowKit
structure Shk (w:World) (vS vM:Value) (ss:List Int) (ms:List Nat) (lp:Int) (W:World):Prop where
 res:Row W w.heap.size 24 [.slice none 0 0,.slice none 0 0,.int .i64 0]
 box:Row W (w.heap.size + 1) 24 [vS,vM,.int .i64 lp]
 s:W.ownsRow (w.heap.size + 2) 3 1 vS ss.length (ss.map (.int .i64))
 m:W.ownsRow (w.heap.size + 2) 3 1 vM ms.length (ms.map (fun k:Nat => Value.int .i64 k))
 ne:∀ g,vS.ownBlock = some g → vM.ownBlock ≠ some g
 bel:Below w.heap.size w W
theorem Shk.big {w:World} {vS vM:Value} {ss:List Int} {ms:List Nat} {lp:Int} {W:World} (h:Shk w vS vM ss ms lp W):w.heap.size + 2 ≤ W.heap.size := by have := h.box.lt; omega
theorem Shk.below {w:World} {vS vM:Value} {ss:List Int} {ms:List Nat} {lp:Int} {W W':World} (h:Shk w vS vM ss ms lp W) (hb:Below W.heap.size W W'):Shk w vS vM ss ms lp W' :=
 ⟨h.res.below hb,h.box.below hb,own_keep h.s hb (Nat.le_refl _),own_keep h.m hb (Nat.le_refl _),h.ne,h.bel.trans (hb.mono (by have := h.big; omega))⟩
theorem Shk.alloc {w:World} {vS vM:Value} {ss:List Int} {ms:List Nat} {lp:Int} {W:World} (h:Shk w vS vM ss ms lp W) (o:Obj):Shk w vS vM ss ms lp (W.alloc o) := h.below ((Below.refl _ _).alloc (Nat.le_refl _) o)
theorem row_apart {W:World} {g:Nat} {vs:List Value} {base:Nat} {v:Value} {n:Nat} {xs:List Value} (h:Row W g 24 vs) (ho:W.ownsRow base 3 1 v n xs):some g ≠ v.ownBlock := by
 intro e
 obtain ⟨cs,fr,h3⟩:=ownsRow_block ho g e.symm
 rw [h] at h3
 injection h3 with h3
 injection h3 with _ h4
 exact absurd h4 (by decide)
theorem Shk.appS {w:World} {vS vM v':Value} {ss:List Int} {ms:List Nat} {lp x:Int} {W W2:World} (h:Shk w vS vM ss ms lp W) (own:W2.ownsRow (w.heap.size + 2) 3 1 v' (ss.length + 1) (ss.map (.int .i64) ++ [.int .i64 x])) (gr:W.grownBy W2 vS.ownBlock) {g':Nat} (hv:v'.ownBlock = some g') (hat0:vS.ownBlock = some g' ∨ g' = W.heap.size) :
 Shk w v' vM (ss ++ [x]) ms lp (W2.setCell ⟨w.heap.size + 1,0,none⟩ v') := by
 have hat:v'.ownBlock = vS.ownBlock ∨ v'.ownBlock = some W.heap.size:=by
  rcases hat0 with e | e
  ·exact .inl (hv.trans e.symm)
  ·exact .inr (hv.trans (congrArg some e))
 have hlt:=h.s.lt
 have hlm:=h.m.lt
 refine ⟨(h.res.grown gr (row_apart h.res h.s)).other (by simp) _,(h.box.grown gr (row_apart h.box h.s)).set 0 v',?_,?_,?_,?_⟩
 ·refine ownsRow_setCell_below ?_ (by simp) _
  simpa using own
 ·refine ownsRow_setCell_below (h.m.kept gr ?_) (by simp) _
  cases hm:vM.ownBlock with
  | none => exact .inl rfl
  | some g => exact .inr (fun e => h.ne g e.symm hm)
 ·intro g hg hm
  rcases hat with e | e
  ·exact h.ne g (e ▸ hg) hm
  ·rw [e] at hg
   injection hg with hg
   have:=(hlm g hm).2
   omega
 ·exact (h.bel.grown gr h.bel.size (fun k hk => by have := (hlt k hk).1; omega)).setCell (by simp) _
theorem Shk.appM {w:World} {vS vM v':Value} {ss:List Int} {ms:List Nat} {lp:Int} {x:Nat} {W W2:World} (h:Shk w vS vM ss ms lp W) (own:W2.ownsRow (w.heap.size + 2) 3 1 v' (ms.length + 1) (ms.map (fun k:Nat => Value.int .i64 k) ++ [.int .i64 x])) (gr:W.grownBy W2 vM.ownBlock) {g':Nat} (hv:v'.ownBlock = some g') (hat0:vM.ownBlock = some g' ∨ g' = W.heap.size) :
 Shk w vS v' ss (ms ++ [x]) lp (W2.setCell ⟨w.heap.size + 1,1,none⟩ v') := by
 have hat:v'.ownBlock = vM.ownBlock ∨ v'.ownBlock = some W.heap.size:=by
  rcases hat0 with e | e
  ·exact .inl (hv.trans e.symm)
  ·exact .inr (hv.trans (congrArg some e))
 have hlt:=h.s.lt
 have hlm:=h.m.lt
 refine ⟨(h.res.grown gr (row_apart h.res h.m)).other (by simp) _,(h.box.grown gr (row_apart h.box h.m)).set 1 v',?_,?_,?_,?_⟩
 ·refine ownsRow_setCell_below (h.s.kept gr ?_) (by simp) _
  cases hm:vS.ownBlock with
  | none => exact .inl rfl
  | some g => exact .inr (fun e => h.ne g hm e.symm)
 ·refine ownsRow_setCell_below ?_ (by simp) _
  simpa using own
 ·intro g hg hm
  rcases hat with e | e
  ·exact h.ne g hg (e ▸ hm)
  ·rw [e] at hm
   injection hm with hm
   have:=(hlt g hg).2
   omega
 ·exact (h.bel.grown gr h.bel.size (fun k hk => by have := (hlm k hk).1; omega)).setCell (by simp) _
theorem one_news (W:World) (x:Value):∀ j u,[x][j]? = some u → (W.alloc (.cells #[x] 3)).cell? ((⟨W.heap.size,0,none⟩:Addr).add j) = some u := by
 intro j u hu
 match j,hu with
 | 0,hu => simp at hu; subst hu; exact (Lib.cell_of_heap (heap_alloc_new W _) 0).trans rfl
theorem contains_nats (gs:List Nat) (k:Nat):(gs.map (fun m:Nat => (m:Int))).contains (k:Int) = gs.contains k := by
 rw [Bool.eq_iff_iff]
 simp
 exact ⟨fun ⟨a,h,e⟩ => (show a = k by omega) ▸ h,fun h => ⟨k,h,rfl⟩⟩
theorem contains_any (gs:List Nat) (A:Option Addr) (n c k:Nat) (w:World) (hg:IntsAt w A n (nats gs)) (hn:1 ≤ n ∧ n ≤ 100) :
 Calls Try.prog 122 #[.slice A n c,.int .i64 (k:Int)] w fun e w' => e = .returned (.bool (gs.contains k)) ∧ w' = w := by
 have hl:=hg.len
 obtain ⟨b,o,rfl,hc⟩:=hg.2 (by omega)
 have:=Try.slices_Contains_int b o n c (nats gs) (k:Int) w (by omega) (by omega) (fun j hj => hc j _ (by
  rw [List.getElem?_map,List.getElem?_eq_getElem hj,List.getD_eq_getElem?_getD,List.getElem?_eq_getElem hj]; rfl))
 refine this.mono ?_
 rintro e w' ⟨rfl,rfl⟩
 refine ⟨?_,rfl⟩
 rw [List.take_of_length_le (by omega)]
 unfold nats
 rw [contains_nats]
def shM (gs:List Nat) (mt:List Nat) (k:Nat):List Nat := (Pl.left k gs).flatMap (Pl.four (fun h => Pl.shf gs (mt.getD h 0)))
def shS (gs:List Nat) (sg:List Int) (k:Nat):List Int := (Pl.left k gs).map (fun c => sg.getD c 0)
theorem shM_stay {gs:List Nat} {k:Nat} (h:gs.contains k = false) (mt:List Nat):shM gs mt (k + 1) = shM gs mt k ++ [Pl.shf gs (mt.getD (4 * k) 0),Pl.shf gs (mt.getD (4 * k + 1) 0),Pl.shf gs (mt.getD (4 * k + 2) 0),Pl.shf gs (mt.getD (4 * k + 3) 0)] := by
 unfold shM
 rw [Pl.left_succ,h,List.flatMap_append]
 rfl
theorem shM_gone {gs:List Nat} {k:Nat} (h:gs.contains k = true) (mt:List Nat):shM gs mt (k + 1) = shM gs mt k := by
 unfold shM
 rw [Pl.left_succ,h]
 simp
theorem shS_stay {gs:List Nat} {k:Nat} (h:gs.contains k = false) (sg:List Int):shS gs sg (k + 1) = shS gs sg k ++ [sg.getD k 0] := by
 unfold shS
 rw [Pl.left_succ,h,List.map_append]
 rfl
theorem shS_gone {gs:List Nat} {k:Nat} (h:gs.contains k = true) (sg:List Int):shS gs sg (k + 1) = shS gs sg k := by
 unfold shS
 rw [Pl.left_succ,h]
 simp
theorem shS_len (gs:List Nat) (sg:List Int) (k:Nat):(shS gs sg k).length ≤ k := by unfold shS; rw [List.length_map]; exact Pl.left_le k gs
theorem shM_len (gs:List Nat) (mt:List Nat) (k:Nat):(shM gs mt k).length ≤ 4 * k := by unfold shM; rw [Pl.flat4]; have := Pl.left_le k gs; omega
theorem shr_fin {w:World} {vS vM:Value} {ss:List Int} {ms:List Nat} {lp:Int} {W:World} (h:Shk w vS vM ss ms lp W) :
 (((W.setCell ⟨w.heap.size,0,none⟩ vS).setCell ⟨w.heap.size,1,none⟩ vM).setCell ⟨w.heap.size,2,none⟩ (.int .i64 lp)).cell? ⟨w.heap.size,0,none⟩ = some vS ∧
 (((W.setCell ⟨w.heap.size,0,none⟩ vS).setCell ⟨w.heap.size,1,none⟩ vM).setCell ⟨w.heap.size,2,none⟩ (.int .i64 lp)).cell? ⟨w.heap.size,1,none⟩ = some vM ∧
 (((W.setCell ⟨w.heap.size,0,none⟩ vS).setCell ⟨w.heap.size,1,none⟩ vM).setCell ⟨w.heap.size,2,none⟩ (.int .i64 lp)).cell? ⟨w.heap.size,2,none⟩ = some (.int .i64 lp) := by
 have r:=((h.res.set 0 vS).set 1 vM).set 2 (.int .i64 lp)
 exact ⟨r.cell (i := 0) (by simp),r.cell (i := 1) (by simp),r.cell (i := 2) (by simp)⟩
theorem four_take {f:Nat → Nat} (k:Nat) {j:Nat} (hj:j < 4):(Pl.four f k).take (j + 1) = (Pl.four f k).take j ++ [f (4 * k + j)] := by
 have h:j = 0 ∨ j = 1 ∨ j = 2 ∨ j = 3:=by omega
 rcases h with rfl | rfl | rfl | rfl <;> rfl
def ShrPost (gs:List Nat) (sg:List Int) (mt:List Nat) (lp:Int) (w:World) (e:Ending) (w':World):Prop :=
 ∃ vS vM:Value,e = .returned (.agg #[vS,vM,.int .i64 lp]) ∧ w'.ownsRow (w.heap.size + 2) 3 1 vS (Pl.left sg.length gs).length ((Pl.shrS gs sg).map (.int .i64)) ∧ w'.ownsRow (w.heap.size + 2) 3 1 vM (4 * (Pl.left sg.length gs).length) ((Pl.shrM gs sg.length mt).map (fun k:Nat => Value.int .i64 k)) ∧ Below w.heap.size w w'
set_option maxRecDepth 100000 in
set_option maxHeartbeats 2000000 in
theorem shrunk_any (gs:List Nat) (sg:List Int) (mt:List Nat) (lp:Int) (A B C:Option Addr) (n q r cp cq cr:Nat) (w:World) (hs:IntsAt w A n sg) (hm:IntsAt w B q (nats mt)) (hg:IntsAt w C r (nats gs)) (hf:Pl.Few gs)
 (hq:q = 4 * n) (hcq:q ≤ cq) (hcq2:cq ≤ maxLen) (hn:n ≤ 100) (hr:1 ≤ r ∧ r ≤ 100) (hmt:∀ h,mt.getD h 0 ≤ 1000) :
 Calls Try.prog 83 #[.slice A n cp,.slice B q cq,.int .i64 lp,.slice C r cr] w (ShrPost gs sg mt lp w) := by
 unfold maxLen at hcq2
 have hls:=hs.len
 have HQ:=hide hq
 have HS:=hide hs
 have HMT:=hide hm
 have HG:=hide hg
 have HLS:=hide hls
 clear hq hs hm hg hls
 go_enter Try.func83,Try.ntmps83
 go_wp2
 have H0:=hide (show Shk w (.slice none 0 0) (.slice none 0 0) [] [] lp ((w.alloc (.cells #[.slice none 0 0,.slice none 0 0,.int .i64 0] 24)).alloc (.cells #[.slice none 0 0,.slice none 0 0,.int .i64 lp] 24)) from
  ⟨(Row.new w _ [_,_,_]).alloc _,by have := Row.new (w.alloc (.cells #[.slice none 0 0,.slice none 0 0,.int .i64 0] 24)) 24 [.slice none 0 0,.slice none 0 0,.int .i64 lp]; simpa using this,
   World.ownsRow_nil _ _ _ _,World.ownsRow_nil _ _ _ _,fun g h => by simp [Value.ownBlock] at h,((Below.refl _ _).alloc (Nat.le_refl _) _).alloc (by simp) _⟩)
 go_loopg [18] n (fun g i wx => ∃ (k:Nat) (vS vM:Value),k + g = n ∧ i = .int .i64 k ∧ Shk w vS vM (shS gs sg k) (shM gs mt k) lp wx)
 case atStart => exact ⟨0,.slice none 0 0,.slice none 0 0,by omega,rfl,H0.out⟩
 case round =>
  clear H0
  obtain ⟨k,vS,vM,hkg,rfl,hk⟩:=hrel
  have HKG:=hide hkg
  have hkn:k ≤ n:=by omega
  have HK:=hide hk
  clear hkg hk
  obtain ⟨go,rfl⟩:∃ go,go = gk := ⟨_,rfl⟩
  by_cases hlt:k < n
  ·obtain ⟨ab,ao,rfl,hca⟩:=ints_pv (HS.out.keep HK.out.bel) hlt
   obtain ⟨x,hx⟩:∃ x,x = Pl.pv sg k := ⟨_,rfl⟩
   rw [← hx] at hca
   have HX:=hide hx
   clear hx
   go_wp2_with fail
   refine (contains_any gs C r cr k _ (HG.out.keep HK.out.bel) hr).mono ?_
   rintro e w1 ⟨rfl,rfl⟩
   cases hc:gs.contains k with
   | true =>
     have HC:=hide hc
     clear hc
     go_wp2
     go_roundg (go - 1)
     case measure => have := HKG.out; omega
     case rel => exact ⟨k + 1,vS,vM,by have := HKG.out; omega,by go_num,by rw [shM_gone HC.out,shS_gone HC.out]; exact HK.out⟩
   | false =>
     have HC:=hide hc
     clear hc
     obtain ⟨i0,hi0,hz0,hz1,hz2⟩:=info_parts intInfo
     obtain ⟨e0,e1,e2,e3⟩:=box3 HK.out.box
     have hbig:=HK.out.big
     have hsl:=shS_len gs sg k
     obtain ⟨mb,mo,rfl,_⟩:=nats_at HMT.out (k := 4 * k) (by have := HQ.out; omega)
     have hq1:(4:Int) * (k:Int) + 4 ≤ (q:Int):=by have := HQ.out; omega
     have hq2:(4:Int) * (k:Int) + 4 ≤ (cq:Int):=by omega
     have hq3:(q:Int) ≤ (cq:Int):=by omega
     go_wp2_with (at_builtin; refine wpList_append_lies _ (by rfl) _ _ 22 (by rfl) (w.heap.size + 2) 3 i0 (.int .i64 0) 1 8 Try.underlying22 hi0 hz0 hz1 hz2 rfl (by omega) vS (shS gs sg k).length ((shS gs sg k).map (.int .i64)) (by rfl) (HK.out.s.alloc _) ⟨w1.heap.size,0,none⟩ 1 1 [.int .i64 x] (by rfl) (by rfl) (one_news w1 (.int .i64 x)) (by simp [Value.oneCell']) (by omega) (by unfold maxLen; omega) (by omega) (by simp; omega) (w1.heap.size + 1) (by simp) ?_; intro g2 c2 w2 own2 grow2 at2 lt2; obtain ⟨q0,q1,q2,q3⟩:=box3 (Row.grown (Row.alloc HK.out.box (.cells #[.int .i64 x] 3)) grow2 (row_apart (Row.alloc HK.out.box (.cells #[.int .i64 x] 3)) (World.ownsRow.alloc HK.out.s (.cells #[.int .i64 x] 3)))); have OWN2 := hide own2; have GR2 := hide grow2; have AT2 := hide at2; clear own2 grow2 at2)
     have H3:=hide (Shk.appS (HK.out.alloc (.cells #[.int .i64 x] 3)) OWN2.out GR2.out rfl (by simpa using AT2.out))
     clear q0 q1 q2 q3 e0 e1 e2 e3
     obtain ⟨vS',hvS'⟩:∃ v,v = Value.slice (some ⟨g2,0,none⟩) ((shS gs sg k).length + 1) c2 := ⟨_,rfl⟩
     rw [← hvS'] at H3
     rw [HX.out,show Pl.pv sg k = sg.getD k 0 from rfl,← shS_stay HC.out] at H3
     have HV:=hide hvS'
     clear hvS'
     rw [show 4 * k + 4 - 4 * k = 4 from by omega]
     go_loopg [40] 4 (fun g i wx => ∃ (j:Nat) (vN:Value),j + g = 4 ∧ i = .int .i64 j ∧ Shk w vS' vN (shS gs sg (k + 1)) (shM gs mt k ++ (Pl.four (fun h => Pl.shf gs (mt.getD h 0)) k).take j) lp wx)
     case atStart => exact ⟨0,vM,by omega,rfl,by rw [← HV.out]; simpa using H3.out⟩
     case round =>
      clear H3
      obtain ⟨j,vN,hjg,rfl,hj⟩:=hrel
      have HJG:=hide hjg
      have hj4:j ≤ 4:=by omega
      have HJ:=hide hj
      clear hjg hj
      by_cases hlj:j < 4
      ·obtain ⟨mb',mo',e',hcm⟩:=nats_at (HMT.out.keep HJ.out.bel) (k := 4 * k + j) (by have := HQ.out; omega)
       injection e' with e'
       injection e' with e1' e2'
       subst e1'
       subst e2'
       obtain ⟨y,hy⟩:∃ y,y = mt.getD (4 * k + j) 0 := ⟨_,rfl⟩
       have hy1:=hmt (4 * k + j)
       rw [← hy,← Nat.add_assoc] at hcm
       rw [← hy] at hy1
       have HY:=hide hy
       clear hy
       obtain ⟨e0,e1,e2,e3⟩:=box3 HJ.out.box
       have hml:=shM_len gs mt k
       have htl:((Pl.four (fun h => Pl.shf gs (mt.getD h 0)) k).take j).length ≤ 4:=by have := List.length_take_le j (Pl.four (fun h => Pl.shf gs (mt.getD h 0)) k); omega
       have hll:(shM gs mt k ++ (Pl.four (fun h => Pl.shf gs (mt.getD h 0)) k).take j).length ≤ 404:=by rw [List.length_append]; omega
       obtain ⟨l,hl⟩:∃ l,l = shM gs mt k ++ (Pl.four (fun h => Pl.shf gs (mt.getD h 0)) k).take j := ⟨_,rfl⟩
       rw [← hl] at hll HJ
       have HL:=hide hl
       clear hl hml htl
       have hbig2:=HJ.out.big
       go_wp2_with fail
       have P1:∀ u ∈ [Value.int .i64 (Pl.shf gs y:Nat)],u.oneCell' = true:=by simp [Value.oneCell']
       have P2:l.length + 1 ≤ maxLen:=by unfold maxLen; omega
       have P3:(l.length + 1) * 8 ≤ 140737488355328:=by omega
       have P4:w.heap.size + 2 ≤ (wr.alloc (.cells #[.int .i64 (Pl.shf gs y:Nat)] 3)).drew.heap.size:=by simp; omega
       have P5:(wr.alloc (.cells #[.int .i64 (Pl.shf gs y:Nat)] 3)).drew.heap.size = wr.heap.size + 1:=by simp
       have PP:=hide P1
       have P5H:=hide P5
       have KB:=hide (show Row (wr.alloc (.cells #[.int .i64 (Pl.shf gs y:Nat)] 3)).drew (w.heap.size + 1) 24 [vS',vN,.int .i64 lp] from Row.drew (Row.alloc HJ.out.box _))
       have KM:=hide (show (wr.alloc (.cells #[.int .i64 (Pl.shf gs y:Nat)] 3)).drew.ownsRow (w.heap.size + 2) 3 1 vN l.length (l.map (fun k:Nat => Value.int .i64 k)) from ((HJ.out.m.alloc _).drew))
       clear P1 P5
       have HGd:IntsAt wr.drew C r (nats gs):=IntsAt.drew (HG.out.keep HJ.out.bel)
       obtain ⟨_,kb1,_,kb3⟩:=box3 KB.out
       go_region_law
        (first
          | (refine step_append_lies _ ?_ (.tmp 45) (.tmp 49) 22 ?_ (w.heap.size + 2) 3 i0 (.int .i64 0) 1 8 Try.underlying22 hi0 hz0 hz1 hz2 rfl Nat.zero_lt_one vN l.length (l.map (fun k : Nat => Value.int .i64 k)) ?_ KM.out ⟨wr.heap.size, 0, none⟩ 1 1 [.int .i64 (Pl.shf gs y : Nat)] ?_ rfl (World.news_of_block (cs := #[.int .i64 (Pl.shf gs y : Nat)]) (t := 3) (fr := (0, 0)) (heap_alloc_new wr _)) PP.out Nat.zero_lt_one P2 P3 P4 (wr.heap.size + 1) P5H.out ?_
             ·rfl
             ·rfl
             ·rfl
             ·rfl
             intro g3 c3 w3 own3 grow3 at3 lt3
             obtain ⟨q0,q1,q2,q3⟩:=box3 (KB.out.grown grow3 (row_apart KB.out KM.out))
             have OWN3:=hide own3
             have GR3:=hide grow3
             have AT3:=hide at3
             clear own3 grow3 at3 q0 q2)
          | (go_simp
             go_wp2_with ((go_at_call 82); refine Calls.mono (shifted_any gs C r cr y _ ?_ (by omega) (by omega) hf) ?_; (focus (exact HGd)); rintro e w5 ⟨rfl,rfl⟩)))
       all_goals
        go_wp2
        go_roundg (gk - 1)
        case measure => have := HJG.out; omega
        case rel =>
         refine ⟨j + 1,.slice (some ⟨g3,0,none⟩) (l.length + 1) c3,by have := HJG.out; omega,by go_num,?_⟩
         have hh:=Shk.appM (x := Pl.shf gs y) (Shk.below (HJ.out.alloc (.cells #[.int .i64 (Pl.shf gs y:Nat)] 3)) ((Below.refl _ _).drew)) OWN3.out GR3.out rfl (by simpa using AT3.out)
         rw [HL.out,HY.out,List.append_assoc,← four_take (f := fun h => Pl.shf gs (mt.getD h 0)) k hlj,← HL.out] at hh
         exact hh
      ·have hj44:j = 4:=by omega
       subst hj44
       go_wp2
       go_roundg (go - 1)
       case measure => have := HKG.out; omega
       case rel =>
        refine ⟨k + 1,vS',vN,by have := HKG.out; omega,by go_num,?_⟩
        rw [shM_stay HC.out]
        exact HJ.out
  ·obtain ⟨A2,c2,rfl⟩:=owns_slice HK.out.s
   obtain ⟨A3,c3,rfl⟩:=owns_slice HK.out.m
   obtain ⟨e0,e1,e2,e3⟩:=box3 HK.out.box
   obtain ⟨f0,f1,f2,f3⟩:=box3 HK.out.res
   have HFIN:=hide (shr_fin HK.out)
   obtain rfl:k = n := by omega
   go_wp2
   refine bodyPost_ret (v := .agg #[.slice A2 (shS gs sg k).length c2,.slice A3 (shM gs mt k).length c3,.int .i64 lp]) ?_ rfl ?_
   ·obtain ⟨r0,r1,r2⟩:=HFIN.out
    simp [results,Try.results83,go_sem,r0,r1,r2]
   ·have e1:shS gs sg k = Pl.shrS gs sg:=by unfold shS Pl.shrS; rw [HLS.out]
    have e2:shM gs mt k = Pl.shrM gs sg.length mt:=by unfold shM Pl.shrM; rw [HLS.out]
    refine ⟨.slice A2 (shS gs sg k).length c2,.slice A3 (shM gs mt k).length c3,rfl,?_,?_,?_⟩
    ·rw [← Pl.shrS_len,← e1]
     exact ownsRow_setCell_below (ownsRow_setCell_below (ownsRow_setCell_below HK.out.s (by simp) _) (by simp) _) (by simp) _
    ·rw [← Pl.shrM_len gs sg.length mt,← e2]
     exact ownsRow_setCell_below (ownsRow_setCell_below (ownsRow_setCell_below HK.out.m (by simp) _) (by simp) _) (by simp) _
    ·exact ((HK.out.bel.setCell (by simp) _).setCell (by simp) _).setCell (by simp) _
end Go.Proofs.Ytobbepmlmbbamaa
end
section
namespace Go.Proofs.Ytobbepmlmbbamaa
open Go Go.RowKit
structure UC (w:World) (gi:Nat) (x0 x1 x2 y0 y1 y2 y3 y4:Value) (W:World):Prop where
 d:Row W w.heap.size 24 [x0,x1,x2]
 i:Row W gi 28 [y0,y1,y2,y3,y4]
 rd:∃ vs,Row W (w.heap.size + 1 + 1) 24 vs ∧ vs.length = 3
 rm:∃ us,Row W (w.heap.size + 1 + 1 + 1) 28 us ∧ us.length = 5
 bel:Below w.heap.size w W
 lo:w.heap.size + 1 + 1 + 1 < gi
section
variable {w:World} {gi:Nat} {x0 x1 x2 y0 y1 y2 y3 y4:Value} {W W':World}
theorem UC.drew (h:UC w gi x0 x1 x2 y0 y1 y2 y3 y4 W):UC w gi x0 x1 x2 y0 y1 y2 y3 y4 W.drew := ⟨h.d,h.i,h.rd,h.rm,h.bel.drew,h.lo⟩
theorem UC.below (h:UC w gi x0 x1 x2 y0 y1 y2 y3 y4 W) (hb:Below W.heap.size W W'):UC w gi x0 x1 x2 y0 y1 y2 y3 y4 W' :=
 let ⟨vs,r1,l1⟩:=h.rd
 let ⟨us,r2,l2⟩:=h.rm
 ⟨h.d.below hb,h.i.below hb,⟨vs,r1.below hb,l1⟩,⟨us,r2.below hb,l2⟩,h.bel.trans (hb.mono h.bel.size),h.lo⟩
theorem UC.alloc (h:UC w gi x0 x1 x2 y0 y1 y2 y3 y4 W) (o:Obj):UC w gi x0 x1 x2 y0 y1 y2 y3 y4 (W.alloc o) := h.below ((Below.refl _ _).alloc (Nat.le_refl _) o)
theorem UC.setD (h:UC w gi x0 x1 x2 y0 y1 y2 y3 y4 W) (o:Nat) (v:Value):UC w gi x0 x1 x2 y0 y1 y2 y3 y4 (W.setCell ⟨w.heap.size + 1 + 1,o,none⟩ v) :=
 let ⟨vs,r1,l1⟩:=h.rd
 let ⟨us,r2,l2⟩:=h.rm
 have hl:=h.lo
 ⟨h.d.other (by show _ ≠ w.heap.size + 1 + 1; omega) v,h.i.other (by show _ ≠ w.heap.size + 1 + 1; omega) v,⟨vs.set o v,r1.set o v,by rw [List.length_set,l1]⟩,⟨us,r2.other (by show _ ≠ w.heap.size + 1 + 1; omega) v,l2⟩,h.bel.setCell (by show _ ≤ w.heap.size + 1 + 1; omega) v,h.lo⟩
theorem UC.setM (h:UC w gi x0 x1 x2 y0 y1 y2 y3 y4 W) (o:Nat) (v:Value):UC w gi x0 x1 x2 y0 y1 y2 y3 y4 (W.setCell ⟨w.heap.size + 1 + 1 + 1,o,none⟩ v) :=
 let ⟨vs,r1,l1⟩:=h.rd
 let ⟨us,r2,l2⟩:=h.rm
 have hl:=h.lo
 ⟨h.d.other (by show _ ≠ w.heap.size + 1 + 1 + 1; omega) v,h.i.other (by show _ ≠ w.heap.size + 1 + 1 + 1; omega) v,⟨vs,r1.other (by show _ ≠ w.heap.size + 1 + 1 + 1; omega) v,l1⟩,⟨us.set o v,r2.set o v,by rw [List.length_set,l2]⟩,h.bel.setCell (by show _ ≤ w.heap.size + 1 + 1 + 1; omega) v,h.lo⟩
theorem UC.all (h:UC w gi x0 x1 x2 y0 y1 y2 y3 y4 W):W.cell? ⟨w.heap.size,0,none⟩ = some x0 ∧ W.cell? ⟨gi,0,none⟩ = some y0 ∧ W.cell? ⟨gi,1,none⟩ = some y1 ∧ W.cell? ⟨gi,2,none⟩ = some y2 ∧ W.cell? ⟨gi,3,none⟩ = some y3 ∧ W.cell? ⟨gi,4,none⟩ = some y4 ∧
 W.cell? ⟨w.heap.size + 1 + 1,0,none⟩ = some (cv W ⟨w.heap.size + 1 + 1,0,none⟩) ∧ W.cell? ⟨w.heap.size + 1 + 1,1,none⟩ = some (cv W ⟨w.heap.size + 1 + 1,1,none⟩) ∧ W.cell? ⟨w.heap.size + 1 + 1,2,none⟩ = some (cv W ⟨w.heap.size + 1 + 1,2,none⟩) ∧
 W.cell? ⟨w.heap.size + 1 + 1 + 1,0,none⟩ = some (cv W ⟨w.heap.size + 1 + 1 + 1,0,none⟩) ∧ W.cell? ⟨w.heap.size + 1 + 1 + 1,1,none⟩ = some (cv W ⟨w.heap.size + 1 + 1 + 1,1,none⟩) ∧ W.cell? ⟨w.heap.size + 1 + 1 + 1,2,none⟩ = some (cv W ⟨w.heap.size + 1 + 1 + 1,2,none⟩) ∧ W.cell? ⟨w.heap.size + 1 + 1 + 1,3,none⟩ = some (cv W ⟨w.heap.size + 1 + 1 + 1,3,none⟩) ∧ W.cell? ⟨w.heap.size + 1 + 1 + 1,4,none⟩ = some (cv W ⟨w.heap.size + 1 + 1 + 1,4,none⟩) ∧
 (∀ o,W.frozen? ⟨w.heap.size + 1 + 1,o,none⟩ = false) ∧ (∀ o,W.frozen? ⟨w.heap.size + 1 + 1 + 1,o,none⟩ = false) ∧ UC w gi x0 x1 x2 y0 y1 y2 y3 y4 W := by
 obtain ⟨vs,r1,l1⟩:=h.rd
 obtain ⟨us,r2,l2⟩:=h.rm
 obtain ⟨d0,_,_,_⟩:=box3 h.d
 obtain ⟨i0,i1,i2,i3,i4,_⟩:=box5 h.i
 exact ⟨d0,i0,i1,i2,i3,i4,cv_some (r1.cell (i := 0) (by omega)),cv_some (r1.cell (i := 1) (by omega)),cv_some (r1.cell (i := 2) (by omega)),cv_some (r2.cell (i := 0) (by omega)),cv_some (r2.cell (i := 1) (by omega)),cv_some (r2.cell (i := 2) (by omega)),cv_some (r2.cell (i := 3) (by omega)),cv_some (r2.cell (i := 4) (by omega)),r1.free,r2.free,h⟩
end
theorem own_ints' {w:World} {base:Nat} {e:TypeId} {A:Option Addr} {n c:Nat} {zs:List Int} (h:w.ownsRow base e 1 (.slice A n c) n (zs.map (.int .i64))):IntsAt w A n zs := by
 have hl:=h.1
 rcases h.2 with ⟨h1,h2⟩ | ⟨g,cap,cur,h1,_⟩
 ·subst h2
  exact ⟨by simpa using hl,fun h => absurd h (by omega)⟩
 ·injection h1 with h1 _ h3
  subst h1
  exact own_ints h
theorem map_nats (l:List Nat):(nats l).map (Value.int .i64) = l.map (fun k:Nat => Value.int .i64 k) := by unfold nats; rw [List.map_map]; rfl
theorem getD_m {d:Pl.Dg} {k:Nat} (hk:k < d.mt.length):d.mt.getD k 0 = d.m k := by
 unfold Pl.Dg.m
 rw [List.getD_eq_getElem?_getD,List.getD_eq_getElem?_getD,List.getElem?_eq_getElem hk]; rfl
theorem getD_le {d:Pl.Dg} (hd:Pl.Wf d) (h:Nat):d.mt.getD h 0 ≤ 256 := by
 have hn:=hd.few
 have hl:=hd.len
 by_cases hh:h < d.mt.length
 ·rw [getD_m hh]
  have:=hd.lt h (by omega)
  omega
 ·rw [List.getD_eq_getElem?_getD,List.getElem?_eq_none (by omega)]
  exact Nat.zero_le _
theorem set_le {l:List Nat} {N a b:Nat} (h:∀ k,l.getD k 0 ≤ N) (hb:b ≤ N):∀ k,(l.set a b).getD k 0 ≤ N := by
 intro k
 have hk:=h k
 rw [List.getD_eq_getElem?_getD] at hk ⊢
 rw [List.getElem?_set]
 split
 ·split
  ·simpa using hb
  ·simp
 ·exact hk
theorem jn_le {l:List Nat} {N a b:Nat} (h:∀ k,l.getD k 0 ≤ N) (ha:a ≤ N) (hb:b ≤ N):∀ k,(jn l a b).getD k 0 ≤ N := set_le (set_le h hb) ha
def kA (d:Pl.Dg) (c:Nat):Nat := Pl.tn (kk d c) 2
def kB (d:Pl.Dg) (c:Nat):Nat := Pl.tn (d.m (kk d c)) 2
def uncC (d:Pl.Dg) (c:Nat):Int := if d.m (kk d c) / 4 = c then (if d.m (kA d c) = kB d c then (if 64 < d.lp + 1 then 5 else 0) else 0) else 6
def unM (d:Pl.Dg) (c:Nat):List Nat := if d.m (kA d c) = kB d c then d.mt else jn d.mt (d.m (kA d c)) (d.m (kB d c))
def unD (d:Pl.Dg) (c:Nat):Pl.Dg := ⟨Pl.shrS [c] d.sg,Pl.shrM [c] d.n (unM d c),if d.m (kA d c) = kB d c then d.lp + 1 else d.lp⟩
def unI (d:Pl.Dg) (c:Nat):Mv := ⟨1,if d.m (kA d c) = kB d c then -1 else (Pl.shf [c] (d.m (kA d c)):Nat),0,d.s c,decide (kA d c % 2 = 1)⟩
def UncPost (d:Pl.Dg) (c:Nat) (w:World) (e:Ending) (w':World):Prop := (uncC d c ≠ 0 → ResErr (uncC d c) e) ∧ (uncC d c = 0 → ResOk (unD d c) (unI d c) e w') ∧ Below w.heap.size w w'
theorem kk_lt {d:Pl.Dg} {c:Nat} (hc:c < d.n):kk d c < 4 * d.n := by unfold kk; split <;> (try split) <;> omega
theorem kA_lt {d:Pl.Dg} {c:Nat} (hc:c < d.n):kA d c < 4 * d.n := Pl.tn_lt (kk_lt hc)
theorem kB_lt {d:Pl.Dg} (hd:Pl.Wf d) {c:Nat} (hc:c < d.n):kB d c < 4 * d.n := Pl.tn_lt (hd.lt _ (kk_lt hc))
theorem shrunk_sl (gs:List Nat) (sg:List Int) (mt:List Nat) (lp:Int) (A B C:Option Addr) (n q r cp cq cr:Nat) (w:World) (hs:IntsAt w A n sg) (hm:IntsAt w B q (nats mt)) (hg:IntsAt w C r (nats gs)) (hf:Pl.Few gs)
 (hq:q = 4 * n) (hcq:q ≤ cq) (hcq2:cq ≤ maxLen) (hn:n ≤ 100) (hr:1 ≤ r ∧ r ≤ 100) (hmt:∀ h,mt.getD h 0 ≤ 1000) :
 Calls Try.prog 83 #[.slice A n cp,.slice B q cq,.int .i64 lp,.slice C r cr] w fun e w' => ∃ (A7 A8:Option Addr) (c7 c8:Nat),e = .returned (.agg #[.slice A7 (Pl.left sg.length gs).length c7,.slice A8 (4 * (Pl.left sg.length gs).length) c8,.int .i64 lp]) ∧
  w'.ownsRow (w.heap.size + 2) 3 1 (.slice A7 (Pl.left sg.length gs).length c7) (Pl.left sg.length gs).length ((Pl.shrS gs sg).map (.int .i64)) ∧ w'.ownsRow (w.heap.size + 2) 3 1 (.slice A8 (4 * (Pl.left sg.length gs).length) c8) (4 * (Pl.left sg.length gs).length) ((Pl.shrM gs sg.length mt).map (fun k:Nat => Value.int .i64 k)) ∧ Below w.heap.size w w' := by
 refine (shrunk_any gs sg mt lp A B C n q r cp cq cr w hs hm hg hf hq hcq hcq2 hn hr hmt).mono ?_
 rintro e w' ⟨vS,vM,rfl,o1,o2,hb⟩
 obtain ⟨A7,c7,rfl⟩:=owns_slice o1
 obtain ⟨A8,c8,rfl⟩:=owns_slice o2
 exact ⟨A7,A8,c7,c8,rfl,o1,o2,hb⟩
def W4 (w:World) (x0 x1 x2 y0 y1 y2 y3 y4:Value):World := ((((w.alloc (.cells #[x0,x1,x2] 24)).alloc (.cells #[y0,y1,y2,y3,y4] 28)).alloc (.cells #[.slice none 0 0,.slice none 0 0,.int .i64 0] 24)).alloc (.cells #[.int .i64 0,.int .i64 0,.int .i64 0,.int .i64 0,.bool false] 28))
theorem row_at {W:World} {t:TypeId} {vs:List Value} {g:Nat} (h:g = W.heap.size):Row (W.alloc (.cells vs.toArray t)) g t vs := by subst h; exact Row.new W t vs
theorem boxes4 (w:World) (x0 x1 x2 y0 y1 y2 y3 y4:Value) :
 Row (W4 w x0 x1 x2 y0 y1 y2 y3 y4) w.heap.size 24 [x0,x1,x2] ∧ Row (W4 w x0 x1 x2 y0 y1 y2 y3 y4) (w.heap.size + 1) 28 [y0,y1,y2,y3,y4] ∧ Row (W4 w x0 x1 x2 y0 y1 y2 y3 y4) (w.heap.size + 1 + 1) 24 [.slice none 0 0,.slice none 0 0,.int .i64 0] ∧
 Row (W4 w x0 x1 x2 y0 y1 y2 y3 y4) (w.heap.size + 1 + 1 + 1) 28 [.int .i64 0,.int .i64 0,.int .i64 0,.int .i64 0,.bool false] ∧ Below w.heap.size w (W4 w x0 x1 x2 y0 y1 y2 y3 y4) ∧ (W4 w x0 x1 x2 y0 y1 y2 y3 y4).heap.size = w.heap.size + 4 := by
 unfold W4
 refine ⟨(((row_at (vs := [x0,x1,x2]) rfl).alloc _).alloc _).alloc _,((row_at (vs := [y0,y1,y2,y3,y4]) (by simp)).alloc _).alloc _,(row_at (vs := [.slice none 0 0,.slice none 0 0,.int .i64 0]) (by simp)).alloc _,row_at (vs := [.int .i64 0,.int .i64 0,.int .i64 0,.int .i64 0,.bool false]) (by simp),?_,by simp⟩
 exact ((((Below.refl _ _).alloc (Nat.le_refl _) _).alloc (by simp) _).alloc (by simp; omega) _).alloc (by simp; omega) _
end Go.Proofs.Ytobbepmlmbbamaa
end
section
namespace Go.Proofs.Ytobbepmlmbbamaa
open Go Go.RowKit
def fv1 (k:Nat) (c:Value):Value := .func (.func k) #[] #[c]
def Steps (k:Nat) (c:Value) (N:Nat) (f:Nat → Nat) (w:World):Prop := ∀ w' h,Below w.heap.size w w' → h < N → Calls Try.prog k #[.int .i64 (h:Int),c] w' fun e w'' => e = .returned (.int .i64 (f h:Nat)) ∧ Below w'.heap.size w' w''
theorem Steps.keep {k:Nat} {c:Value} {N:Nat} {f:Nat → Nat} {w W:World} (h:Steps k c N f w) (hb:Below w.heap.size w W):Steps k c N f W :=
 fun w' x hb' hx => h w' x (hb.trans (hb'.mono hb.size)) hx
theorem nextF_any (d:Pl.Dg) (B:Option Addr) (cq m g h:Nat) (x0 x2:Value) (w:World) (hm:m = 4 * d.n) (hd:Pl.Wf d) (hr:Row w g 24 [x0,.slice B m cq,x2]) (hb:IntsAt w B m (nats d.mt)) (hh:h < 4 * d.n) :
 Calls Try.prog 126 #[.int .i64 (h:Int),.pointer (some ⟨g,0,none⟩)] w fun e w' => e = .returned (.int .i64 (Pl.nx d h:Nat)) ∧ w' = w := by
 have hn:=hd.few
 have lt:=hd.lt h hh
 obtain ⟨b,o,rfl,hc⟩:=mate_at (by rw [← hm]; exact hb) hh
 obtain ⟨f0,f1,f2,f3⟩:=box3 hr
 have hhm:h < m:=by omega
 have HM:=hide hm
 clear hm
 obtain ⟨u,hu⟩:∃ u,u = d.m h := ⟨_,rfl⟩
 have HU:=hide (show Pl.nx d h = Pl.tn u 3 by rw [hu]; rfl)
 rw [← hu] at hc lt
 clear hu
 go_enter Try.func126,Try.ntmps126
 go_wp2_with fail
 refine (turn_back u _ (by omega)).mono ?_
 rintro e w1 ⟨rfl,rfl⟩
 go_wp2
 go_ret
 exact ⟨by rw [HU.out]; rfl,rfl⟩
theorem nextF_steps (d:Pl.Dg) (B:Option Addr) (cq m g:Nat) (x0 x2:Value) (w:World) (hm:m = 4 * d.n) (hd:Pl.Wf d) (hr:Row w g 24 [x0,.slice B m cq,x2]) (hb:IntsAt w B m (nats d.mt)) :
 Steps 126 (.pointer (some ⟨g,0,none⟩)) (4 * d.n) (Pl.nx d) w := fun w' h hbl hh =>
 (nextF_any d B cq m g h x0 x2 w' hm hd (hr.below hbl) (hb.keep hbl) hh).mono fun _ _ ⟨he,hw⟩ => ⟨he,by rw [hw]; exact Below.refl _ _⟩
theorem own_one (W:World) (x:Value):(W.alloc (.cells #[x] 3)).ownsRow W.heap.size 3 1 (.slice (some ⟨W.heap.size,0,none⟩) 1 1) 1 [x] :=
 ⟨rfl,.inr ⟨W.heap.size,1,#[x],rfl,Nat.le_refl _,heap_alloc_new W _,Nat.le_refl _,by unfold maxLen; omega,rfl,rfl⟩⟩
theorem it_lt {f:Nat → Nat} {N:Nat} (hf:∀ x,x < N → f x < N) {h:Nat} (hh:h < N):∀ k,Pl.it f k h < N
 | 0 => hh
 | k + 1 => hf _ (it_lt hf hh k)
def CycPost (f:Nat → Nat) (h p:Nat) (w:World) (e:Ending) (w':World):Prop :=
 ∃ (A:Option Addr) (c:Nat),e = .returned (.slice A p c) ∧ w'.ownsRow w.heap.size 3 1 (.slice A p c) p ((Pl.cyc f h p).map (fun k:Nat => Value.int .i64 k)) ∧ Below w.heap.size w w'
set_option maxRecDepth 100000 in
set_option maxHeartbeats 2000000 in
theorem cycle_any (c:Value) (N:Nat) (f:Nat → Nat) (h p:Nat) (w:World) (hst:Steps 126 c N f w) (hf:∀ x,x < N → f x < N) (hh:h < N) (hp:Pl.Per f h p) (hpN:p ≤ N) (hN:N ≤ 1000) :
 Calls Try.prog 133 #[.int .i64 (h:Int),fv1 126 c] w (CycPost f h p w) := by
 unfold fv1
 have HST:=hide hst
 have HF:=hide hf
 have HP:=hide hp
 have hp0:=hp.1
 clear hst hf hp
 have B1:=hide (show Below w.heap.size w (w.alloc (.cells #[.int .i64 (h:Int)] 3)) from (Below.refl _ _).alloc (Nat.le_refl _) _)
 go_enter Try.func133,Try.ntmps133
 go_wp2_with fail
 refine (HST.out _ h B1.out hh).mono ?_
 rintro e w2 ⟨rfl,hb2⟩
 have B2:=hide (B1.out.trans (hb2.mono B1.out.size))
 have O2:=hide (own_keep (own_one w (.int .i64 (h:Int))) hb2 (Nat.le_refl _))
 clear hb2
 go_wp2_with fail
 go_loopg [5,6] (p - 1) (fun g v i wx => ∃ j:Nat,j + 1 + g = p ∧ i = .int .i64 (Pl.it f (j + 1) h:Nat) ∧ wx.ownsRow w.heap.size 3 1 v (j + 1) ((Pl.cyc f h (j + 1)).map (fun k:Nat => Value.int .i64 k)) ∧ Below w.heap.size w wx)
 case atStart => exact ⟨0,by omega,rfl,O2.out,B2.out⟩
 case round =>
  clear O2 B2 B1
  obtain ⟨j,hjg,rfl,own,hb⟩:=hrel
  have HJ:=hide hjg
  have hjp:j + 1 ≤ p:=by omega
  have OWN:=hide own
  have HB:=hide hb
  have hbs:=hb.size
  obtain ⟨x,hx⟩:∃ x,x = Pl.it f (j + 1) h := ⟨_,rfl⟩
  rw [← hx]
  have HX:=hide hx
  have hxN:x < N:=by rw [hx]; exact it_lt HF.out hh (j + 1)
  clear hjg own hb hx
  by_cases he:x = h
  ·have hjj:¬ j + 1 < p:=fun hlt => HP.out.2.2 (j + 1) (by omega) hlt (by rw [← HX.out,he])
   have t1:((x:Int) != (h:Int)) = false:=by rw [bne_eq_false_iff_eq]; omega
   have HE:=hide he
   obtain rfl:j + 1 = p := by omega
   obtain ⟨A5,c5,rfl⟩:=owns_slice OWN.out
   clear he hjj
   go_wp2
   go_ret
   exact ⟨A5,c5,rfl,OWN.out,HB.out⟩
  ·have t1:((x:Int) != (h:Int)) = true:=by rw [bne_iff_ne]; omega
   have hjj:j + 1 < p:=by
    rcases Nat.lt_or_ge (j + 1) p with h1 | h1
    ·exact h1
    ·have:j + 1 = p:=by omega
     exact absurd (by rw [HX.out,this]; exact HP.out.2.1) he
   clear he
   obtain ⟨i0,hi0,hz0,hz1,hz2⟩:=info_parts intInfo
   go_wp2_with (at_builtin; refine wpList_append_lies _ (by rfl) _ _ 22 (by rfl) w.heap.size 3 i0 (.int .i64 0) 1 8 Try.underlying22 hi0 hz0 hz1 hz2 rfl (by omega) _ (j + 1) _ (by rfl) (OWN.out.alloc _) ⟨wr.heap.size,0,none⟩ 1 1 [.int .i64 (x:Int)] (by rfl) (by rfl) (one_news wr (.int .i64 (x:Int))) (by simp [Value.oneCell']) (by omega) (by unfold maxLen; omega) (by omega) (by simp; omega) (wr.heap.size + 1) (by simp) ?_; intro g3 c3 w3 own3 grow3 at3 lt3; have OWN3 := hide own3; have GR3 := hide grow3; clear own3 grow3 at3)
   have B3:=hide ((HB.out.alloc hbs (.cells #[.int .i64 (x:Int)] 3)).grown GR3.out (by simp; omega) (fun k hk => (OWN.out.lt k hk).1))
   refine (HST.out _ x B3.out hxN).mono ?_
   rintro e w4 ⟨rfl,hb4⟩
   go_wp2_with fail
   go_roundg (gk - 1)
   case measure => have := HJ.out; omega
   case rel =>
    refine ⟨j + 1,by have := HJ.out; omega,?_,?_,B3.out.trans (hb4.mono B3.out.size)⟩
    ·rw [HX.out]; rfl
    ·have:=own_keep OWN3.out hb4 (Nat.le_refl _)
     rw [Pl.cyc_succ,List.map_append,← HX.out]
     exact this
end Go.Proofs.Ytobbepmlmbbamaa
end
section
namespace Go.Proofs.Ytobbepmlmbbamaa
open Go Go.RowKit
theorem RowT.store {w:World} {t t':TypeId} {A:Option Addr} {n:Nat} {xs:List Value} {g i:Nat} {vs:List Value} (h:RowT w t A n xs) (hr:Row w g t' vs) (hne:t ≠ t') (v:Value):RowT (w.setCell ⟨g,i,none⟩ v) t A n xs :=
 ⟨h.1, fun hn => let ⟨b, o, cs, fr, e, hb, hc⟩ := h.2 hn; ⟨b, o, cs, fr, e, (Below.heap_setCell w _ v b (fun he => by
   have hr':=hr
   unfold Row at hr'
   have he':b = g:=he
   rw [he',hr'] at hb
   injection hb with hb
   injection hb with _ h4
   exact hne h4.symm)).trans hb,hc⟩⟩
theorem own_rowT {w:World} {base:Nat} {t:TypeId} {A:Option Addr} {n c:Nat} {xs:List Value} (h:w.ownsRow base t 1 (.slice A n c) n xs):RowT w t A n xs := by
 refine ⟨by simpa using h.1,fun hn => ?_⟩
 rcases h.2 with ⟨_,h2⟩ | ⟨g,cap,cur,h1,_,h3,_,_,_,h5⟩
 ·omega
 ·injection h1 with h1 _ _
  refine ⟨g,0,cur,(0,0),h1,h3,fun j u hu => ?_⟩
  rw [Nat.zero_add]
  have hj:j < n:=by
   have:=(List.getElem?_eq_some_iff.1 hu).1
   have:=h.1
   omega
  rw [← h5,List.getElem?_take,if_pos (by omega)] at hu
  rw [← hu]
  simp
def FaceAt (w:World) (v:Value) (l:List Nat):Prop := ∃ A c,v = .slice A l.length c ∧ RowT w 3 A l.length (l.map (fun k:Nat => Value.int .i64 k))
def Vs (w:World) (vs:List Value) (fs:List (List Nat)):Prop := vs.length = fs.length ∧ ∀ (i:Nat) l,fs[i]? = some l → ∃ v,vs[i]? = some v ∧ FaceAt w v l
theorem Vs.below {w w':World} {vs:List Value} {fs:List (List Nat)} (h:Vs w vs fs) (hb:Below w.heap.size w w'):Vs w' vs fs :=
 ⟨h.1,fun i l e => let ⟨v,h1,A,c,h2,h3⟩:=h.2 i l e; ⟨v,h1,A,c,h2,h3.keep hb⟩⟩
theorem Vs.grown {w w':World} {vs:List Value} {fs:List (List Nat)} {row:Option Nat} {t':TypeId} (h:Vs w vs fs) (hg:w.grownBy w' row) (hr:∀ g,row = some g → ∃ cs fr,w.heap[g]? = some (.cells cs t' fr)) (hne:3 ≠ t'):Vs w' vs fs :=
 ⟨h.1,fun i l e => let ⟨v,h1,A,c,h2,h3⟩:=h.2 i l e; ⟨v,h1,A,c,h2,h3.grown hg hr hne⟩⟩
theorem Vs.store {w:World} {vs:List Value} {fs:List (List Nat)} {g i:Nat} {us:List Value} {t':TypeId} (h:Vs w vs fs) (hr:Row w g t' us) (hne:3 ≠ t') (v:Value):Vs (w.setCell ⟨g,i,none⟩ v) vs fs :=
 ⟨h.1,fun i l e => let ⟨v,h1,A,c,h2,h3⟩:=h.2 i l e; ⟨v,h1,A,c,h2,h3.store hr hne _⟩⟩
theorem Vs.add {w:World} {vs:List Value} {fs:List (List Nat)} {v:Value} {l:List Nat} (h:Vs w vs fs) (hv:FaceAt w v l):Vs w (vs ++ [v]) (fs ++ [l]) := by
 refine ⟨by simp [h.1],fun i m e => ?_⟩
 rw [List.getElem?_append] at e ⊢
 by_cases hi:i < fs.length
 ·rw [if_pos hi] at e
  rw [if_pos (by rw [h.1]; exact hi)]
  exact h.2 i m e
 ·rw [if_neg hi] at e
  rw [if_neg (by rw [h.1]; exact hi),h.1]
  have h1:=(List.getElem?_eq_some_iff.1 e).1
  simp only [List.length_singleton] at h1
  have h0:i - fs.length = 0:=by omega
  rw [h0] at e ⊢
  simp only [List.getElem?_cons_zero,Option.some.injEq] at e
  subst e
  exact ⟨v,rfl,hv⟩
theorem Vs.nil (w:World):Vs w [] [] := ⟨rfl,fun i l e => by simp at e⟩
theorem FaceAt.below {w w':World} {v:Value} {l:List Nat} (h:FaceAt w v l) (hb:Below w.heap.size w w'):FaceAt w' v l := let ⟨A,c,h2,h3⟩:=h; ⟨A,c,h2,h3.keep hb⟩
theorem FaceAt.store {w:World} {v:Value} {l:List Nat} {g i:Nat} {us:List Value} {t':TypeId} (h:FaceAt w v l) (hr:Row w g t' us) (hne:3 ≠ t') (u:Value):FaceAt (w.setCell ⟨g,i,none⟩ u) v l := let ⟨A,c,h2,h3⟩:=h; ⟨A,c,h2,h3.store hr hne _⟩
theorem FaceAt.grown {w w':World} {v:Value} {l:List Nat} {row:Option Nat} {t':TypeId} (h:FaceAt w v l) (hg:w.grownBy w' row) (hr:∀ g,row = some g → ∃ cs fr,w.heap[g]? = some (.cells cs t' fr)) (hne:3 ≠ t'):FaceAt w' v l := let ⟨A,c,h2,h3⟩:=h; ⟨A,c,h2,h3.grown hg hr hne⟩
theorem FaceAt.ints {w:World} {A:Option Addr} {n c:Nat} {l:List Nat} (h:FaceAt w (.slice A n c) l):n = l.length ∧ IntsAt w A n (nats l) := by
 obtain ⟨A',c',h1,h2⟩:=h
 injection h1 with h1 h3 h4
 subst h1 h3
 refine ⟨rfl,?_⟩
 unfold IntsAt
 rw [map_nats]
 exact h2.row
def Far (base:Nat) (vs:List Value):Prop := ∀ v,v ∈ vs → ∀ g,v.ownBlock = some g → base ≤ g
theorem FaceAt.far {w:World} {v:Value} {l:List Nat} {base g i:Nat} (h:FaceAt w v l) (hf:∀ b,v.ownBlock = some b → base ≤ b) (hg:g < base) (u:Value):FaceAt (w.setCell ⟨g,i,none⟩ u) v l := by
 obtain ⟨A,c,rfl,h1,h2⟩:=h
 refine ⟨A,c,rfl,h1,fun hn => ?_⟩
 obtain ⟨b,o,cs,fr,rfl,hb,hc⟩:=h2 hn
 have:=hf b rfl
 exact ⟨b,o,cs,fr,rfl,(Below.heap_setCell w _ u b (by show b ≠ g; omega)).trans hb,hc⟩
theorem Vs.far {w:World} {vs:List Value} {fs:List (List Nat)} {base g i:Nat} (h:Vs w vs fs) (hf:Far base vs) (hg:g < base) (u:Value):Vs (w.setCell ⟨g,i,none⟩ u) vs fs :=
 ⟨h.1,fun i l e => let ⟨v,h1,h2⟩:=h.2 i l e; ⟨v,h1,h2.far (hf v (List.mem_of_getElem? h1)) hg u⟩⟩
theorem Far.add {base:Nat} {vs:List Value} {v:Value} (h:Far base vs) (hv:∀ g,v.ownBlock = some g → base ≤ g):Far base (vs ++ [v]) := fun u hu => by
 rcases List.mem_append.1 hu with hu | hu
 ·exact h u hu
 ·rw [List.mem_singleton] at hu; subst hu; exact hv
theorem rowInfo:(Try.prog.info? 22).map (fun i => (i.zero,i.size,i.bytes)) = some (some (.slice none 0 0),1,24) := by kernel_rfl
theorem every_any (h:Int) (w:World):Calls Try.prog 124 #[.int .i64 h] w fun e w' => e = .returned (.bool true) ∧ w' = w := by
 go_enter Try.func124,Try.ntmps124
 go_wp2
 go_ret
 exact ⟨rfl,rfl⟩
end Go.Proofs.Ytobbepmlmbbamaa
end
section
namespace Go.Proofs.Ytobbepmlmbbamaa
open Go Go.RowKit
structure Cys (w:World) (N:Nat) (f:Nat → Nat) (k:Nat) (fs:List (List Nat)) (bs:List Bool) (vs:List Value) (vA:Value) (W:World):Prop where
 fc:Pl.Fcs f (fun _ => True) N k fs bs
 few:fs.length ≤ k
 seen:BRow W w.heap.size bs
 own:W.ownsRow (w.heap.size + 1) 22 1 vA fs.length vs
 fa:Vs W vs fs
 bel:Below w.heap.size w W
 far:Far w.heap.size vs
theorem Cys.below {w:World} {N:Nat} {f:Nat → Nat} {k:Nat} {fs:List (List Nat)} {bs:List Bool} {vs:List Value} {vA:Value} {W W':World} (h:Cys w N f k fs bs vs vA W) (hb:Below W.heap.size W W'):Cys w N f k fs bs vs vA W' :=
 ⟨h.fc,h.few,Row.below h.seen hb,own_keep h.own hb (Nat.le_refl _),h.fa.below hb,h.bel.trans (hb.mono h.bel.size),h.far⟩
def CyclesPost (f:Nat → Nat) (N:Nat) (w:World) (e:Ending) (w':World):Prop :=
 ∃ (A:Option Addr) (c:Nat) (fs:List (List Nat)) (bs:List Bool) (vs:List Value),e = .returned (.slice A fs.length c) ∧ Pl.Fcs f (fun _ => True) N N fs bs ∧ fs.length ≤ N ∧ RowT w' 22 A fs.length vs ∧ Vs w' vs fs ∧ Below w.heap.size w w' ∧ Far w.heap.size vs
set_option maxRecDepth 100000 in
set_option maxHeartbeats 3000000 in
theorem cycles_any (c:Value) (N:Nat) (S:Nat → Prop) (f:Nat → Nat) (w:World) (hst:Steps 126 c N f w) (hbij:Pl.Bij N S f) (hS:∀ x,x < N → S x) (hSN:∀ x,S x → x < N) (hN:N ≤ 1000) :
 Calls Try.prog 125 #[.int .i64 (N:Int),.func (.func 124) #[] #[],fv1 126 c] w (CyclesPost f N w) := by
 unfold fv1
 have HST:=hide hst
 have HBI:=hide hbij
 have HSS:=hide hS
 have HSN:=hide hSN
 have hmk:=fun W:World => run_bools N (by omega) W
 have HF:=hide (show ∀ x,x < N → f x < N from fun x hx => hSN _ (hbij.maps x (hS x hx)))
 have H0:=hide (show Cys w N f 0 [] (List.replicate N false) [] (.slice none 0 0) (w.alloc (.cells (Array.replicate N (Value.bool false)) 4)) from
  ⟨Pl.Fcs.start f _ N,Nat.le_refl _,BRow.made w N,World.ownsRow_nil _ _ _ _,Vs.nil _,(Below.refl _ _).alloc (Nat.le_refl _) _,fun v hv => by simp at hv⟩)
 clear hst hbij hS hSN
 go_enter Try.func125,Try.ntmps125
 go_wp2
 clear hmk
 go_loopg [7,16] N (fun g v i wx => ∃ (k:Nat) (fs:List (List Nat)) (bs:List Bool) (vs:List Value),k + g = N ∧ i = .int .i64 k ∧ Cys w N f k fs bs vs v wx)
 case atStart => exact ⟨0,_,_,_,by omega,rfl,H0.out⟩
 case round =>
  clear H0
  obtain ⟨k,fs,bs,vs,hkg,rfl,hk⟩:=hrel
  have HKG:=hide hkg
  have hkN:k ≤ N:=by omega
  have HK:=hide hk
  clear hkg hk
  obtain ⟨go,rfl⟩:∃ go,go = gk := ⟨_,rfl⟩
  obtain ⟨A7,c7,rfl⟩:=owns_slice HK.out.own
  by_cases hlt:k < N
  ·have hbl:k < bs.length:=by rw [HK.out.fc.len]; exact hlt
   have hc:=HK.out.seen.cell hbl
   have ik:(0:Int) ≤ (k:Int):=by omega
   have jk:(k:Int) < (N:Int):=by omega
   cases hg:Pl.gb bs k with
   | true =>
     have HGB:=hide hg
     have hc':wr.cell? ⟨w.heap.size,k,none⟩ = some (.bool true):=by rw [hc]; unfold Pl.gb at hg; rw [hg]
     clear hc hg
     go_wp2
     go_roundg (go - 1)
     case measure => have := HKG.out; omega
     case rel => exact ⟨k + 1,fs,bs,vs,by have := HKG.out; omega,by go_num,HK.out.fc.skip (.inl HGB.out),by have := HK.out.few; omega,HK.out.seen,HK.out.own,HK.out.fa,HK.out.bel,HK.out.far⟩
   | false =>
     have HGB:=hide hg
     have hc':wr.cell? ⟨w.heap.size,k,none⟩ = some (.bool false):=by rw [hc]; unfold Pl.gb at hg; rw [hg]
     clear hc hg
     go_wp2_with fail
     refine (every_any _ _).mono ?_
     rintro e w1 ⟨rfl,rfl⟩
     go_wp2_with fail
     obtain ⟨p,hpN,hper⟩:=HBI.out.per (HSS.out k hlt)
     have HPER:=hide hper
     clear hper
     refine (cycle_any c N f k p _ (HST.out.keep HK.out.bel) HF.out hlt HPER.out hpN hN).mono ?_
     rintro e w2 ⟨A5,c5,rfl,own5,hb5⟩
     have HK2:=hide (HK.out.below hb5)
     have FA2:=hide (show FaceAt w2 (.slice A5 p c5) (Pl.cyc f k p) from ⟨A5,c5,by rw [Pl.cyc_len],by rw [Pl.cyc_len]; exact own_rowT own5⟩)
     have HFR:=hide (show ∀ g,(Value.slice A5 p c5).ownBlock = some g → w.heap.size ≤ g from fun g hg => by have := (own5.lt g hg).1; have := HK.out.bel.size; omega)
     have HFA0:=hide HK.out.far
     clear own5 hb5
     have hp0:=HPER.out.1
     obtain ⟨b5,o5,rfl,_⟩:=nats_at FA2.out.ints.2 (k := 0) hp0
     have HFC:=hide HK.out.fc
     have hfew:=HK.out.few
     have HM0:=hide (show BRow w2 w.heap.size (Pl.mark bs ((Pl.cyc f k p).take 0)) from HK2.out.seen)
     go_wp2_with fail
     go_loopg [34] p (fun g i wx => ∃ j:Nat,j + g = p ∧ i = .int .i64 j ∧ BRow wx w.heap.size (Pl.mark bs ((Pl.cyc f k p).take j)) ∧ wx.ownsRow (w.heap.size + 1) 22 1 (.slice A7 fs.length c7) fs.length vs ∧ Vs wx vs fs ∧ FaceAt wx (.slice (some ⟨b5,o5,none⟩) p c5) (Pl.cyc f k p) ∧ Below w.heap.size w wx)
     case atStart => exact ⟨0,by omega,rfl,HM0.out,HK2.out.own,HK2.out.fa,FA2.out,HK2.out.bel⟩
     case round =>
      clear HM0 FA2 HK2 HK
      obtain ⟨j,hjg,rfl,hbr,hown,hvs,hfa,hbel⟩:=hrel
      have HJG:=hide hjg
      have hjp:j ≤ p:=by omega
      have HBR:=hide hbr
      have HOWN:=hide hown
      have HVS:=hide hvs
      have HFA:=hide hfa
      have HBEL:=hide hbel
      have hsz:=hbr.lt
      clear hjg hbr hown hvs hfa hbel
      by_cases hlj:j < p
      ·obtain ⟨b',o',e',hcj⟩:=nats_at HFA.out.ints.2 (k := j) hlj
       injection e' with e'
       injection e' with e1 e2
       subst e1
       subst e2
       rw [Pl.cyc_get hlj] at hcj
       obtain ⟨y,hy⟩:∃ y,y = Pl.it f j k := ⟨_,rfl⟩
       have hyN:y < N:=by rw [hy]; exact it_lt HF.out hlt j
       rw [← hy] at hcj
       have HY:=hide hy
       clear hy
       have hyl:y < (Pl.mark bs ((Pl.cyc f k p).take j)).length:=by rw [Pl.mark_len,HFC.out.len]; exact hyN
       have cy:=HBR.out.cell hyl
       have fy:=Row.free HBR.out y
       have iy:(0:Int) ≤ (y:Int):=by omega
       have jy:(y:Int) < (N:Int):=by omega
       go_wp2_with fail
       go_roundg (gk - 1)
       case measure => have := HJG.out; omega
       case rel =>
        refine ⟨j + 1,by have := HJG.out; omega,by go_num,?_,?_,HVS.out.store HBR.out (by decide) _,HFA.out.store HBR.out (by decide) _,HBEL.out.setCell (Nat.le_refl _) _⟩
        ·have h1:=HBR.out.set y true
         have h2:(Pl.cyc f k p).take (j + 1) = (Pl.cyc f k p).take j ++ [y]:=by
          rw [List.take_succ_eq_append_getElem (by rw [Pl.cyc_len]; exact hlj)]
          congr 2
          have:=Pl.cyc_get (f := f) (x := k) hlj
          rw [List.getD_eq_getElem?_getD,List.getElem?_eq_getElem (by rw [Pl.cyc_len]; exact hlj)] at this
          rw [HY.out]
          exact this
         rw [h2,Pl.mark_append]
         exact h1
        ·exact ownsRow_setCell_below HOWN.out (by show w.heap.size < w.heap.size + 1; omega) _
      ·have hjj:j = p:=by omega
       subst hjj
       obtain ⟨i0,hi0,hz0,hz1,hz2⟩:=info_parts rowInfo
       have P1:∀ u ∈ [Value.slice (some ⟨b5,o5,none⟩) j c5],u.oneCell' = true:=by simp [Value.oneCell']
       go_wp2_with (at_builtin; refine wpList_append_lies _ (by rfl) _ _ 57 (by rfl) (w.heap.size + 1) 22 i0 (.slice none 0 0) 1 24 Try.underlying57 hi0 hz0 hz1 hz2 rfl (by omega) _ fs.length vs (by rfl) (HOWN.out.alloc _) ⟨wr.heap.size,0,none⟩ 1 1 [.slice (some ⟨b5,o5,none⟩) j c5] (by rfl) (by rfl) (World.news_of_block (cs := #[.slice (some ⟨b5,o5,none⟩) j c5]) (t := 22) (fr := (0,0)) (heap_alloc_new wr _)) P1 (by omega) (by unfold maxLen; omega) (by omega) (by simp; omega) (wr.heap.size + 1) (by simp) ?_; intro g3 c3 w3 own3 grow3 at3 lt3)
       go_roundg (go - 1)
       case measure => have := HKG.out; omega
       case rel =>
        have hbk:=fun g (hg:(Value.slice A7 fs.length c7).ownBlock = some g) => ownsRow_block (HOWN.out.alloc (.cells #[.slice (some ⟨b5,o5,none⟩) j c5] 22)) g hg
        have hba:Below wr.heap.size wr (wr.alloc (.cells #[.slice (some ⟨b5,o5,none⟩) j c5] 22)):=(Below.refl _ _).alloc (Nat.le_refl _) _
        refine ⟨k + 1,fs ++ [Pl.cyc f k j],Pl.mark bs (Pl.cyc f k j),vs ++ [.slice (some ⟨b5,o5,none⟩) j c5],by have := HKG.out; omega,by go_num,?_⟩
        refine ⟨HFC.out.add HBI.out HSS.out HSN.out hlt trivial HGB.out HPER.out,by simp; omega,?_,by simpa using own3,?_,?_,HFA0.out.add HFR.out⟩
        ·have h1:=HBR.out
         rw [List.take_of_length_le (by rw [Pl.cyc_len]; omega)] at h1
         refine Row.grown (Row.alloc h1 (.cells #[.slice (some ⟨b5,o5,none⟩) j c5] 22)) grow3 ?_
         intro e
         obtain ⟨cs,fr,h3⟩:=hbk _ e.symm
         have h4:=Row.alloc h1 (.cells #[.slice (some ⟨b5,o5,none⟩) j c5] 22)
         rw [h4] at h3
         injection h3 with h3
         injection h3 with _ h5
         exact absurd h5 (by decide)
        ·exact ((HVS.out.below hba).grown grow3 hbk (by decide)).add ((HFA.out.below hba).grown grow3 hbk (by decide))
        ·exact (HBEL.out.alloc (by omega) _).grown grow3 (by simp; omega) (fun k hk => by have := (HOWN.out.lt k hk).1; omega)
  ·go_wp2
   go_ret
   have:k = N:=by omega
   subst this
   exact ⟨A7,c7,fs,bs,vs,rfl,HK.out.fc,HK.out.few,own_rowT HK.out.own,HK.out.fa,HK.out.bel,HK.out.far⟩
end Go.Proofs.Ytobbepmlmbbamaa
end
section
namespace Go.Proofs.Ytobbepmlmbbamaa
open Go Go.RowKit
theorem mk_self (d:Pl.Dg):Pl.mk d.sg (nats d.mt) d.lp = d := by
 unfold Pl.mk nats
 rw [List.map_map]
 have:(Int.toNat ∘ fun m:Nat => (m:Int)) = id:=by funext x; rfl
 rw [this,List.map_id]
 rfl
theorem vl_of {d:Pl.Dg}:Pl.VL d.sg (nats d.mt) d.lp ↔ Pl.Valid d := by
 constructor
 ·intro h; have := h.1; rwa [mk_self] at this
 ·intro h; exact ⟨by rw [mk_self]; exact h,fun z hz => by unfold nats at hz; obtain ⟨m,_,rfl⟩:=List.mem_map.1 hz; omega,by omega⟩
theorem valid_yes (d:Pl.Dg) (hd:Pl.Valid d) (A B:Option Addr) (cp cq m:Nat) (w:World) (hm:m = 4 * d.n) (hg:DgAt w A B d) :
 Calls Try.prog 26 #[.agg #[.slice A d.n cp,.slice B m cq,.int .i64 d.lp]] w fun e w' => e = .returned (.bool true) ∧ Below w.heap.size w w' := by
 have hn:=hd.wf.few
 have hl:=hd.wf.lp
 refine (valid_any d.sg (nats d.mt) d.lp A B d.n m cp cq w hg.s (by rw [hm]; exact hg.m) (by unfold maxLen; omega) (by unfold maxLen; omega) (by omega)).mono ?_
 rintro e w' ⟨h1,h2⟩
 rw [Pl.vb_true (vl_of.2 hd)] at h1
 exact ⟨h1,h2⟩
def FacesPost (d:Pl.Dg) (w:World) (e:Ending) (w':World):Prop := CyclesPost (Pl.nx d) (4 * d.n) w e w'
set_option maxRecDepth 100000 in
set_option maxHeartbeats 1000000 in
theorem faces_any (d:Pl.Dg) (hd:Pl.Valid d) (A B:Option Addr) (cp cq m:Nat) (w:World) (hm:m = 4 * d.n) (hg:DgAt w A B d) :
 Calls Try.prog 90 #[.agg #[.slice A d.n cp,.slice B m cq,.int .i64 d.lp]] w (FacesPost d w) := by
 have hn:=hd.wf.few
 have HM:=hide hm
 have HG:=hide hg
 have B0:=hide (show Below w.heap.size w (w.alloc (.cells #[.slice A d.n cp,.slice B m cq,.int .i64 d.lp] 24)) from (Below.refl _ _).alloc (Nat.le_refl _) _)
 have X0:=hide (show Row (w.alloc (.cells #[.slice A d.n cp,.slice B m cq,.int .i64 d.lp] 24)) w.heap.size 24 [.slice A d.n cp,.slice B m cq,.int .i64 d.lp] from Row.new w _ [_,_,_])
 clear hm hg
 have hmf:∀ (fn:Fn) (first cap:Array Value) (w:World),(Instr.makeFunc fn first cap).run Try.prog w = .ok (.func fn first cap) w:=fun _ _ _ _ => rfl
 go_enter Try.func90,Try.ntmps90
 go_wp2_with fail
 refine (valid_yes d hd A B cp cq m _ HM.out (HG.out.keep B0.out)).mono ?_
 rintro e w1 ⟨rfl,hb1⟩
 have B1:=hide (B0.out.trans (hb1.mono B0.out.size))
 have X1:=hide (X0.out.below hb1)
 have ST:=hide (nextF_steps d B cq m w.heap.size _ _ w1 HM.out hd.wf X1.out (by rw [HM.out]; exact (HG.out.keep B1.out).m))
 obtain ⟨f0,f1,f2,f3⟩:=box3 X1.out
 clear hb1
 go_wp2_with fail
 have hcc:(m:Int) = ((4 * d.n:Nat):Int):=by rw [HM.out]
 refine (Calls.mono (P := Try.prog) (by rw [hcc]; exact cycles_any (.pointer (some ⟨w.heap.size,0,none⟩)) (4 * d.n) (Pl.dart d) (Pl.nx d) w1 ST.out hd.wf.nxb (fun _ h => h) (fun _ h => h) (by omega)) ?_)
 rintro e w2 ⟨A7,c7,fs,bs,vs,rfl,h1,h2,h3,h4,h5,h6⟩
 clear hcc
 have H1:=hide h1
 have H2:=hide h2
 have H3:=hide h3
 have H4:=hide h4
 have B2:=hide (B1.out.trans (h5.mono B1.out.size))
 have H6:=hide (show Far w.heap.size vs from fun v hv g hg => Nat.le_trans B1.out.size (h6 v hv g hg))
 clear h1 h2 h3 h4 h5 h6
 go_wp2
 go_ret
 exact ⟨A7,c7,fs,bs,vs,rfl,H1.out,H2.out,H3.out,H4.out,B2.out,H6.out⟩
end Go.Proofs.Ytobbepmlmbbamaa
end
section
namespace Go.Proofs.Ytobbepmlmbbamaa
open Go Go.RowKit
def DC (w:World) (dv:List Value) (w':World):Prop := Row w' w.heap.size 24 dv ∧ Below w.heap.size w w'
end Go.Proofs.Ytobbepmlmbbamaa
end
section
namespace Go.Proofs.Ytobbepmlmbbamaa
open Go Go.RowKit
theorem rturn_any (h k:Nat) (w:World) (hh:h ≤ 1000000) (hk:k ≤ 3) :
 Calls Try.prog 129 #[.int .i64 (h:Int),.int .i64 (k:Int)] w fun e w' => e = .returned (.int .i64 (Pl.tn h k:Nat)) ∧ w = w' := by
 go_enter Try.func129,Try.ntmps129
 go_wp2
 go_ret
 exact ⟨ret_int (by unfold Pl.tn; omega),rfl⟩
theorem rturn3 (h:Nat) (w:World) (hh:h ≤ 1000000) :
 Calls Try.prog 129 #[.int .i64 (h:Int),.int .i64 3] w fun e w' => e = .returned (.int .i64 (Pl.tn h 3:Nat)) ∧ w = w' := rturn_any h 3 w hh (by omega)
theorem ropp_any (h:Nat) (w:World) (hh:h ≤ 1000000) :
 Calls Try.prog 98 #[.int .i64 (h:Int)] w fun e w' => e = .returned (.int .i64 (Pl.tn h 2:Nat)) ∧ w = w' := by
 go_enter Try.func98,Try.ntmps98
 go_wp2_with fail
 refine (rturn_any h 2 _ hh (by omega)).mono ?_
 rintro e w1 ⟨rfl,rfl⟩
 go_wp2
 go_ret
 exact ⟨rfl,rfl⟩
theorem rout_any (d:Pl.Dg) (A B:Option Addr) (n cp q cq:Nat) (l:Value) (h:Nat) (w:World) (e:n = d.n) (hh:h < 4 * n) (hn:n ≤ 1000) (hs:IntsAt w A n d.sg) :
 Calls Try.prog 62 #[.agg #[.slice A n cp,.slice B q cq,l],.int .i64 (h:Int)] w fun e w' => e = .returned (.bool (Pl.out d h)) ∧ Below w.heap.size w w' := by
 subst e
 obtain ⟨b,o,rfl,hc⟩:=sign_at hs (c := h / 4) (by omega)
 have hb:Below w.heap.size w (w.alloc (.cells #[.slice (some ⟨b,o,none⟩) d.n cp,.slice B q cq,l] 24)):=(Below.refl _ _).alloc (Nat.le_refl _) _
 have hc2:=cell_below hc hb
 have h4:h % 4 = 0 ∨ h % 4 = 1 ∨ h % 4 = 2 ∨ h % 4 = 3:=by omega
 go_enter Try.func62,Try.ntmps62
 rcases h4 with h4 | h4 | h4 | h4
 ·have E:=out_zero (d := d) h4
  go_wp2
  all_goals
   go_ret
   refine ⟨ret_bool ?_,hb⟩
   rw [E]
   first
    | done
    | rfl
    | (simp; done)
    | (simp; omega)
    | simp_all
 ·have E:=out_one (d := d) h4
  go_wp2
  all_goals
   go_ret
   refine ⟨ret_bool ?_,hb⟩
   rw [E]
   first
    | done
    | rfl
    | (simp; done)
    | (simp; omega)
    | simp_all
 ·have E:=out_two (d := d) h4
  go_wp2
  all_goals
   go_ret
   refine ⟨ret_bool ?_,hb⟩
   rw [E]
   first
    | done
    | rfl
    | (simp; done)
    | (simp; omega)
    | simp_all
 ·have E:=out_three (d := d) h4
  go_wp2
  all_goals
   go_ret
   refine ⟨ret_bool ?_,hb⟩
   rw [E]
   first
    | done
    | rfl
    | (simp; done)
    | (simp; omega)
    | simp_all
theorem rnext_any (d:Pl.Dg) (hd:Pl.Wf d) (A B:Option Addr) (cp cq m:Nat) (l:Value) (h:Nat) (w:World) (hm:m = 4 * d.n) (hb:IntsAt w B m (nats d.mt)) (hh:h < 4 * d.n) :
 Calls Try.prog 104 #[.agg #[.slice A d.n cp,.slice B m cq,l],.int .i64 (h:Int)] w fun e w' => e = .returned (.int .i64 (Pl.nx d h:Nat)) ∧ Below w.heap.size w w' := by
 subst hm
 have hn:=hd.few
 have lt:=hd.lt h hh
 obtain ⟨b,o,rfl,hc⟩:=mate_at hb hh
 have hbw:Below w.heap.size w (w.alloc (.cells #[.slice A d.n cp,.slice (some ⟨b,o,none⟩) (4 * d.n) cq,l] 24)):=(Below.refl _ _).alloc (Nat.le_refl _) _
 have hc2:=cell_below hc hbw
 obtain ⟨u,hu⟩:∃ u,u = d.m h := ⟨_,rfl⟩
 have HU:=hide (show Pl.nx d h = Pl.tn u 3 by rw [hu]; rfl)
 rw [← hu] at hc2 lt
 clear hu hc
 go_enter Try.func104,Try.ntmps104
 go_wp2_with fail
 refine (rturn3 u _ (by omega)).mono ?_
 rintro e w1 ⟨rfl,rfl⟩
 go_wp2
 go_ret
 exact ⟨by rw [HU.out]; rfl,hbw⟩
theorem rin_any (A:Option Addr) (n c:Nat) (zs:List Int) (x:Int) (w:World) (hs:IntsAt w A n zs) (hn:n ≤ 1000000) :
 Calls Try.prog 130 #[.slice A n c,.int .i64 x] w fun e w' => e = .returned (.bool (decide (x ∈ zs))) ∧ w' = w := by
 have HS:=hide hs
 have HL:=hide hs.len
 go_enter Try.func130,Try.ntmps130
 go_wp2
 go_loopg [5] n (fun g i wx => ∃ k:Nat,k + g = n ∧ i = .int .i64 k ∧ (∀ j,j < k → Pl.pv zs j ≠ x) ∧ wx = w)
 case atStart => exact ⟨0,by omega,rfl,fun j hj => absurd hj (by omega),rfl⟩
 case round =>
  obtain ⟨k,hkg,rfl,hno,rfl⟩:=hrel
  have HG:=hide hkg
  have HN:=hide hno
  have hkn:k ≤ n:=by omega
  clear hkg hno
  by_cases hlt:k < n
  ·obtain ⟨b,o,rfl,hc⟩:=HS.out.at_ hlt
   obtain ⟨u,hu⟩:∃ u,u = Pl.pv zs k := ⟨_,rfl⟩
   rw [show zs.getD k 0 = u from hu.symm] at hc
   have HU:=hide hu
   clear hu
   by_cases he:u = x
   ·have E:=hide (show x ∈ zs by rw [← he,HU.out]; exact Pl.pv_mem (by have := HL.out; omega))
    go_wp2
    go_ret
    exact ⟨ret_bool (by simpa using E.out),rfl⟩
   ·have t1:(u == x) = false:=by simpa using he
    have HE:=hide he
    clear he
    go_wp2
    go_roundg (gk - 1)
    case measure => have := HG.out; omega
    case rel =>
     refine ⟨k + 1,by have := HG.out; omega,by go_num,fun j hj => ?_,rfl⟩
     by_cases e:j = k
     ·subst e; rw [← HU.out]; exact HE.out
     ·exact HN.out j (by omega)
  ·have E := hide (show x ∉ zs from fun hx => by
    obtain ⟨j,hj,e⟩:=Pl.mem_pv hx
    exact HN.out j (by have := HL.out; omega) e)
   go_wp2
   go_ret
   exact ⟨ret_bool (by simpa using E.out),rfl⟩
set_option maxRecDepth 100000 in
set_option maxHeartbeats 2000000 in
theorem rface_any (d:Pl.Dg) (hd:Pl.Wf d) (A B:Option Addr) (cp cq m:Nat) (l:Value) (h p:Nat) (w:World) (hm:m = 4 * d.n) (hb:IntsAt w B m (nats d.mt)) (hh:h < 4 * d.n) (hp:Pl.Per (Pl.nx d) h p) (hpN:p ≤ 4 * d.n) :
 Calls Try.prog 64 #[.agg #[.slice A d.n cp,.slice B m cq,l],.int .i64 (h:Int)] w (fun e w' => ∃ (A5:Option Addr) (c5:Nat),e = .returned (.slice A5 p c5) ∧ w'.ownsRow w.heap.size 3 1 (.slice A5 p c5) p ((Pl.cyc (Pl.nx d) h p).map (fun k:Nat => Value.int .i64 k)) ∧ Below w.heap.size w w') := by
 have hn:=hd.few
 have HD:=hide hd
 have HP:=hide hp
 have HM:=hide hm
 have HB:=hide hb
 have hp0:=hp.1
 have HPN:=hide hpN
 have hp4:p ≤ 256:=by omega
 have hm4:m ≤ 256:=by omega
 have hb1:Below w.heap.size w (w.alloc (.cells #[.slice A d.n cp,.slice B m cq,l] 24)):=(Below.refl _ _).alloc (Nat.le_refl _) _
 have B0:=hide hb1
 have X0:=hide (row_at (W := w) (g := w.heap.size) (t := 24) (vs := [.slice A d.n cp,.slice B m cq,l]) rfl)
 clear hp hm hb hd hb1 hpN
 obtain ⟨W1,hW1⟩:∃ W1:World,W1 = (w.alloc (.cells #[.slice A d.n cp,.slice B m cq,l] 24)).alloc (.cells #[.int .i64 (h:Int)] 3) := ⟨_,rfl⟩
 have B1:=hide (show Below w.heap.size w W1 by rw [hW1]; exact B0.out.alloc (by simp) _)
 have X1:=hide (show Row W1 w.heap.size 24 [.slice A d.n cp,.slice B m cq,l] by rw [hW1]; exact X0.out.alloc _)
 have O1:=hide (show W1.ownsRow (w.heap.size + 1) 3 1 (.slice (some ⟨w.heap.size + 1,0,none⟩) 1 1) 1 [.int .i64 (h:Int)] by
  rw [hW1]
  have:=own_one (w.alloc (.cells #[.slice A d.n cp,.slice B m cq,l] 24)) (.int .i64 (h:Int))
  simpa using this)
 obtain ⟨d0,d1,d2,_⟩:=box3 X1.out
 go_enter Try.func64,Try.ntmps64
 rw [hW1] at d0 d1 d2
 go_wp2_with fail
 rw [← hW1]
 clear hW1 d0 d1 d2
 refine (rnext_any d HD.out A B cp cq m l h _ HM.out (HB.out.keep B1.out) hh).mono ?_
 rintro e w2 ⟨rfl,hb2⟩
 have B2:=hide (B1.out.trans (hb2.mono B1.out.size))
 have O2:=hide (own_keep O1.out hb2 (Nat.le_refl _))
 have X2:=hide (X1.out.below hb2)
 clear hb2
 go_wp2_with fail
 go_loopg [5,6] (p - 1) (fun g v i wx => ∃ j:Nat,j + 1 + g = p ∧ i = .int .i64 (Pl.it (Pl.nx d) (j + 1) h:Nat) ∧ wx.ownsRow (w.heap.size + 1) 3 1 v (j + 1) ((Pl.cyc (Pl.nx d) h (j + 1)).map (fun k:Nat => Value.int .i64 k)) ∧ Below w.heap.size w wx ∧ Row wx w.heap.size 24 [.slice A d.n cp,.slice B m cq,l])
 case atStart => exact ⟨0,by omega,rfl,O2.out,B2.out,X2.out⟩
 case round =>
  clear O2 B2 B1 X2 X1 O1 X0 B0
  obtain ⟨j,hjg,rfl,own,hb,hx0⟩:=hrel
  have HJ:=hide hjg
  have hjp:j + 1 ≤ p:=by omega
  have OWN:=hide own
  have HBL:=hide hb
  have X:=hide hx0
  have hbs:=hb.size
  obtain ⟨x,hx⟩:∃ x,x = Pl.it (Pl.nx d) (j + 1) h := ⟨_,rfl⟩
  rw [← hx]
  have HX:=hide hx
  have hxN:x < 4 * d.n:=by rw [hx]; exact it_lt (fun y hy => HD.out.hm.pb.maps y hy) hh (j + 1)
  clear hjg own hb hx hx0
  by_cases he:x = h
  ·have hjj:¬ j + 1 < p:=fun hlt => HP.out.2.2 (j + 1) (by omega) hlt (by rw [← HX.out,he])
   have t1:((x:Int) != (h:Int)) = false:=by rw [bne_eq_false_iff_eq]; omega
   have HE:=hide he
   obtain rfl:j + 1 = p := by omega
   obtain ⟨A5,c5,rfl⟩:=owns_slice OWN.out
   clear he hjj
   go_wp2
   go_ret
   exact ⟨A5,c5,rfl,own_keep OWN.out (Below.refl _ _) (by omega),HBL.out⟩
  ·have t1:((x:Int) != (h:Int)) = true:=by rw [bne_iff_ne]; omega
   have hjj:j + 1 < p:=by
    rcases Nat.lt_or_ge (j + 1) p with h1 | h1
    ·exact h1
    ·have:j + 1 = p:=by omega
     exact absurd (by rw [HX.out,this]; exact HP.out.2.1) he
   clear he
   obtain ⟨i0,hi0,hz0,hz1,hz2⟩:=info_parts intInfo
   have hwz1:w.heap.size + 1 ≤ wr.heap.size:=X.out.lt
   go_wp2_with (at_builtin; refine wpList_append_lies _ (by rfl) _ _ 22 (by rfl) (w.heap.size + 1) 3 i0 (.int .i64 0) 1 8 Try.underlying22 hi0 hz0 hz1 hz2 rfl (by omega) _ (j + 1) _ (by rfl) (OWN.out.alloc _) ⟨wr.heap.size,0,none⟩ 1 1 [.int .i64 (x:Int)] (by rfl) (by rfl) (one_news wr (.int .i64 (x:Int))) (by simp [Value.oneCell']) (by omega) (by unfold maxLen; omega) (by omega) (by simp; omega) (wr.heap.size + 1) (by simp) ?_; intro g3 c3 w3 own3 grow3 at3 lt3; have OWN3 := hide own3; have GR3 := hide grow3; have X3 := hide (Row.grown (X.out.alloc (.cells #[.int .i64 (x:Int)] 3)) grow3 (fun e => by have := (OWN.out.lt _ e.symm).1; omega)); obtain ⟨d0,d1,d2,_⟩:=box3 X3.out; clear own3 grow3 at3)
   have B3:=hide ((HBL.out.alloc hbs (.cells #[.int .i64 (x:Int)] 3)).grown GR3.out (by simp; omega) (fun k hk => by have := (OWN.out.lt k hk).1; omega))
   clear d0 d1 d2
   refine (rnext_any d HD.out A B cp cq m l x _ HM.out (HB.out.keep B3.out) hxN).mono ?_
   rintro e w4 ⟨rfl,hb4⟩
   go_wp2_with fail
   go_roundg (gk - 1)
   case measure => have := HJ.out; omega
   case rel =>
    refine ⟨j + 1,by have := HJ.out; omega,?_,?_,B3.out.trans (hb4.mono B3.out.size),X3.out.below hb4⟩
    ·rw [HX.out]; rfl
    ·have:=own_keep OWN3.out hb4 (Nat.le_refl _)
     rw [Pl.cyc_succ,List.map_append,← HX.out]
     exact this
end Go.Proofs.Ytobbepmlmbbamaa
end
section
namespace Go.Proofs.Ytobbepmlmbbamaa
open Go Go.RowKit
structure VS (w:World) (vs:List Value) (gp gf gc gs:Nat) (ps fs cs:List Int) (bs:List Bool) (W:World):Prop where
 x:Row W w.heap.size 24 vs
 p:IRow W gp ps
 f:IRow W gf fs
 c:IRow W gc cs
 s:BRow W gs bs
 bel:Below w.heap.size w W
 lo:w.heap.size < gp ∧ w.heap.size < gf ∧ w.heap.size < gc ∧ w.heap.size < gs
 ne:gp ≠ gf ∧ gp ≠ gc ∧ gp ≠ gs ∧ gf ≠ gc ∧ gf ≠ gs ∧ gc ≠ gs
section
variable {w:World} {vs:List Value} {gp gf gc gs:Nat} {ps fs cs:List Int} {bs:List Bool} {W W':World}
theorem VS.below (h:VS w vs gp gf gc gs ps fs cs bs W) (hb:Below W.heap.size W W'):VS w vs gp gf gc gs ps fs cs bs W' :=
 ⟨h.x.below hb,Row.below h.p hb,Row.below h.f hb,Row.below h.c hb,Row.below h.s hb,h.bel.trans (hb.mono h.bel.size),h.lo,h.ne⟩
theorem VS.drewN (h:VS w vs gp gf gc gs ps fs cs bs W) (n:Nat):VS w vs gp gf gc gs ps fs cs bs (W.drewN n) := ⟨h.x,h.p,h.f,h.c,h.s,Below.drewN' h.bel n,h.lo,h.ne⟩
theorem VS.setF (h:VS w vs gp gf gc gs ps fs cs bs W) (i:Nat) (v:Int):VS w vs gp gf gc gs ps (fs.set i v) cs bs (W.setCell ⟨gf,i,none⟩ (.int .i64 v)) := by
 have a:=h.lo
 have b:=h.ne
 exact ⟨h.x.other (by show _ ≠ gf; omega) _,Row.other h.p (by show _ ≠ gf; omega) _,h.f.set i v,Row.other h.c (by show _ ≠ gf; omega) _,Row.other h.s (by show _ ≠ gf; omega) _,h.bel.setCell (by show _ ≤ gf; omega) _,h.lo,h.ne⟩
theorem VS.setC (h:VS w vs gp gf gc gs ps fs cs bs W) (i:Nat) (v:Int):VS w vs gp gf gc gs ps fs (cs.set i v) bs (W.setCell ⟨gc,i,none⟩ (.int .i64 v)) := by
 have a:=h.lo
 have b:=h.ne
 exact ⟨h.x.other (by show _ ≠ gc; omega) _,Row.other h.p (by show _ ≠ gc; omega) _,Row.other h.f (by show _ ≠ gc; omega) _,h.c.set i v,Row.other h.s (by show _ ≠ gc; omega) _,h.bel.setCell (by show _ ≤ gc; omega) _,h.lo,h.ne⟩
theorem VS.setS (h:VS w vs gp gf gc gs ps fs cs bs W) (i:Nat) (v:Bool):VS w vs gp gf gc gs ps fs cs (bs.set i v) (W.setCell ⟨gs,i,none⟩ (.bool v)) := by
 have a:=h.lo
 have b:=h.ne
 exact ⟨h.x.other (by show _ ≠ gs; omega) _,Row.other h.p (by show _ ≠ gs; omega) _,Row.other h.f (by show _ ≠ gs; omega) _,Row.other h.c (by show _ ≠ gs; omega) _,h.s.set i v,h.bel.setCell (by show _ ≤ gs; omega) _,h.lo,h.ne⟩
end
theorem map_ints (l:List Nat):l.map (fun k:Nat => Value.int .i64 k) = (nats l).map (Value.int .i64) := (map_nats l).symm
theorem nats_getD (l:List Nat) (j:Nat):(nats l).getD j 0 = (l.getD j 0:Nat) := by
 unfold nats
 rw [List.getD_eq_getElem?_getD,List.getD_eq_getElem?_getD,List.getElem?_map]
 cases l[j]? <;> rfl
theorem rpart_n (d:Pl.Dg) (hd:Pl.Wf d) (A B:Option Addr) (n q cp cq:Nat) (l:Value) (w:World) (e:n = d.n) (hm:q = 4 * d.n) (hs:IntsAt w A n d.sg) (hb:IntsAt w B q (nats d.mt)) :
 Calls Try.prog 63 #[.agg #[.slice A n cp,.slice B q cq,l]] w fun e w' =>
  ∃ (ps:List Int) (g:Nat),e = .returned (.slice (some ⟨g,0,none⟩) n n) ∧ Pl.PB d ps ∧ w.heap.size ≤ g ∧ IRow w' g ps ∧ Below w.heap.size w w' := by
 subst e
 exact rpart_any d hd A B cp cq q l w hm ⟨hs,by rw [← hm]; exact hb⟩
theorem rface_n (d:Pl.Dg) (hd:Pl.Wf d) (A B:Option Addr) (n q cp cq:Nat) (l:Value) (h p:Nat) (w:World) (e:n = d.n) (hm:q = 4 * d.n) (hb:IntsAt w B q (nats d.mt)) (hh:h < 4 * d.n) (hp:Pl.Per (Pl.nx d) h p) (hpN:p ≤ 4 * d.n) :
 Calls Try.prog 64 #[.agg #[.slice A n cp,.slice B q cq,l],.int .i64 (h:Int)] w (fun e w' => ∃ (A5:Option Addr) (c5:Nat),e = .returned (.slice A5 p c5) ∧ w'.ownsRow w.heap.size 3 1 (.slice A5 p c5) p ((Pl.cyc (Pl.nx d) h p).map (fun k:Nat => Value.int .i64 k)) ∧ Below w.heap.size w w') := by
 subst e
 exact rface_any d hd A B cp cq q l h p w hm (by rw [hm] at hb ⊢; exact hb) hh hp hpN
theorem two_rows (W:World) (n:Nat):IRow (((W.alloc (.cells (Array.replicate n (Value.int .i64 0)) 3)).alloc (.cells (Array.replicate n (Value.int .i64 0)) 3)).drew) W.heap.size (List.replicate n 0) ∧ IRow (((W.alloc (.cells (Array.replicate n (Value.int .i64 0)) 3)).alloc (.cells (Array.replicate n (Value.int .i64 0)) 3)).drew) (W.heap.size + 1) (List.replicate n 0) ∧ Below W.heap.size W (((W.alloc (.cells (Array.replicate n (Value.int .i64 0)) 3)).alloc (.cells (Array.replicate n (Value.int .i64 0)) 3)).drew) := by
 have:=IRow.made (W.alloc (.cells (Array.replicate n (Value.int .i64 0)) 3)) n
 rw [show (W.alloc (.cells (Array.replicate n (Value.int .i64 0)) 3)).heap.size = W.heap.size + 1 by simp] at this
 exact ⟨Row.drew (Row.alloc (IRow.made W n) _),Row.drew this,(((Below.refl _ _).alloc (Nat.le_refl _) _).alloc (by simp) _).drew⟩
theorem two_rows' (W:World) (n:Nat):IRow (((W.alloc (.cells (Array.replicate n (Value.int .i64 0)) 3)).alloc (.cells (Array.replicate n (Value.int .i64 0)) 3)).drew) (W.heap.size + 1) (List.replicate n 0) ∧ IRow (((W.alloc (.cells (Array.replicate n (Value.int .i64 0)) 3)).alloc (.cells (Array.replicate n (Value.int .i64 0)) 3)).drew) W.heap.size (List.replicate n 0) ∧ Below W.heap.size W (((W.alloc (.cells (Array.replicate n (Value.int .i64 0)) 3)).alloc (.cells (Array.replicate n (Value.int .i64 0)) 3)).drew) :=
 let ⟨a,b,c⟩:=two_rows W n; ⟨b,a,c⟩
set_option maxRecDepth 100000 in
set_option maxHeartbeats 4000000 in
theorem rvalid_any (sg mt:List Int) (lp:Int) (A B:Option Addr) (n q cp cq:Nat) (w:World) (hs:IntsAt w A n sg) (hm:IntsAt w B q mt) (hn:n ≤ maxLen) (hq:q ≤ maxLen) (hlp:-9223372036854775808 ≤ lp ∧ lp ≤ 9223372036854775807) :
 Calls Try.prog 29 #[.agg #[.slice A n cp,.slice B q cq,.int .i64 lp]] w fun e w' => e = .returned (.bool (Pl.vb (Pl.VL sg mt lp))) ∧ Below w.heap.size w w' := by
 unfold maxLen at hn hq
 have HLS:=hide hs.len
 have HLM:=hide hm.len
 have b0:Below w.heap.size w (w.alloc (.cells #[.slice A n cp,.slice B q cq,.int .i64 lp] 24)):=(Below.refl _ _).alloc (Nat.le_refl _) _
 by_cases h1:64 < n
 ·have HV:=hide (fun h:Pl.VL sg mt lp => show False by have := h.few; have := HLS.out; omega)
  go_enter Try.func29,Try.ntmps29
  go_wp2
  go_ret
  exact ⟨ret_bool (Pl.vb_false HV.out).symm,b0⟩
 ·have h1':decide (64 < (n:Int)) = false:=by simp; omega
  by_cases h2:q = 4 * n
  ·by_cases h3:0 ≤ lp ∧ lp ≤ 64
   ·have h2':(((q:Nat):Int) != 4 * (n:Int)) = false:=by simp; omega
    have h3a:decide (lp < 0) = false:=by simp; omega
    have h3b:decide (64 < lp) = false:=by simp; omega
    have HQ4:=hide h2
    have hq6:q ≤ 256:=by omega
    clear h2
    have x0:Row (w.alloc (.cells #[.slice A n cp,.slice B q cq,.int .i64 lp] 24)) w.heap.size 24 (boxV A B n cp q cq (.int .i64 lp)):=Row.new w _ _
    go_enter Try.func29,Try.ntmps29
    go_wp2
    have B0:=hide b0
    have X0:=hide x0
    clear b0 x0 h1' h2' h3a h3b
    go_loopg [4] n (fun g i wx => ∃ k:Nat,k + g = n ∧ i = .int .i64 k ∧ (∀ c,c < k → Pl.pv sg c = 1 ∨ Pl.pv sg c = -1) ∧ Below w.heap.size w wx ∧ Row wx w.heap.size 24 (boxV A B n cp q cq (.int .i64 lp)))
    case atStart => exact ⟨0,by omega,rfl,fun c hc => absurd hc (by omega),B0.out,X0.out⟩
    case round =>
     clear B0 X0
     obtain ⟨k,hkg,rfl,hsg,b1,x1⟩:=hrel
     have HG:=hide hkg
     have HSG:=hide hsg
     have hkn:k ≤ n:=by omega
     clear hkg hsg
     by_cases hlt:k < n
     ·obtain ⟨ab,ao,rfl,hc⟩:=ints_pv hs hlt
      have hc1:=cell_below hc b1
      obtain ⟨y0,y1,y2,_⟩:=box3 x1
      have B1:=hide b1
      have X1:=hide x1
      clear b1 x1 hc
      by_cases hz:Pl.pv sg k = 1
      ·have HZ:=hide hz
       rw [hz] at hc1
       clear hz
       go_wp2
       go_roundg (gk - 1)
       case measure => have := HG.out; omega
       case rel =>
        refine ⟨k + 1,by have := HG.out; omega,by go_num,fun c hc => ?_,B1.out,X1.out⟩
        by_cases e:c = k
        ·rw [e]; exact .inl HZ.out
        ·exact HSG.out c (by omega)
      ·by_cases hz2:Pl.pv sg k = -1
       ·have HZ:=hide hz2
        rw [hz2] at hc1
        clear hz hz2
        go_wp2
        go_roundg (gk - 1)
        case measure => have := HG.out; omega
        case rel =>
         refine ⟨k + 1,by have := HG.out; omega,by go_num,fun c hc => ?_,B1.out,X1.out⟩
         by_cases e:c = k
         ·rw [e]; exact .inr HZ.out
         ·exact HSG.out c (by omega)
       ·have HV := hide (fun h : Pl.VL sg mt lp => show False by
         rcases h.sign (c := k) (by have := HLS.out; omega) with e | e
         ·exact hz e
         ·exact hz2 e)
        have t1:(Pl.pv sg k != 1) = true:=by rw [bne_iff_ne]; exact hz
        have t2:(Pl.pv sg k != -1) = true:=by rw [bne_iff_ne]; exact hz2
        clear hz hz2
        go_wp2
        go_ret
        exact ⟨ret_bool (Pl.vb_false HV.out).symm,B1.out⟩
     ·have HSG':=hide (fun (c:Nat) (hc:c < sg.length) => HSG.out c (by have := HLS.out; omega))
      have B1:=hide b1
      have X1:=hide x1
      clear b1 x1 HSG HG
      go_wp2
      go_loopg [5] q (fun g i wx => ∃ k:Nat,k + g = q ∧ i = .int .i64 k ∧ (∀ h,h < k → 0 ≤ Pl.pv mt h ∧ Pl.pv mt h < mt.length ∧ Pl.pv mt h ≠ h ∧ Pl.pv mt (Pl.pv mt h).toNat = h ∧ Pl.out (Pl.mk sg mt lp) h ≠ Pl.out (Pl.mk sg mt lp) (Pl.pv mt h).toNat) ∧ Below w.heap.size w wx ∧ Row wx w.heap.size 24 (boxV A B n cp q cq (.int .i64 lp)))
      case atStart => exact ⟨0,by omega,rfl,fun c hc => absurd hc (by omega),B1.out,X1.out⟩
      case round =>
       clear B1 X1
       obtain ⟨j,hjg,rfl,hmo,b2,x2⟩:=hrel
       have HG:=hide hjg
       have HMO:=hide hmo
       have hjq:j ≤ q:=by omega
       clear hjg hmo
       obtain ⟨y0,y1,y2,_⟩:=box3 x2
       by_cases hlt2:j < q
       ·obtain ⟨bb,bo,rfl,hc⟩:=ints_pv hm hlt2
        have hj4n:(j:Int) < 4 * (n:Int):=by have := HQ4.out; omega
        have hc1:=cell_below hc b2
        have hjl:j < mt.length:=by have := HLM.out; omega
        have B2:=hide b2
        have X2:=hide x2
        clear b2 x2 hc
        by_cases hz0:Pl.pv mt j < 0
        ·have HV:=hide (fun h:Pl.VL sg mt lp => show False by have := (h.mate hjl).1; omega)
         have t1:decide (Pl.pv mt j < 0) = true:=by simpa using hz0
         clear hz0
         go_wp2
         go_quiet (fail)
         go_wp2
         go_ret
         exact ⟨ret_bool (Pl.vb_false HV.out).symm,Below.drewN' B2.out _⟩
        ·have t1:decide (Pl.pv mt j < 0) = false:=by simpa using hz0
         by_cases hz1:Pl.pv mt j < q
         ·obtain ⟨t,ht⟩:∃ t:Nat,Pl.pv mt j = t := ⟨(Pl.pv mt j).toNat,by omega⟩
          have htq:t < q:=by omega
          have t2:decide (4 * (n:Int) ≤ (t:Int)) = false:=by have := HQ4.out; simp; omega
          rw [ht] at hc1 t1
          have HT:=hide ht
          have hj4:j < 4 * n:=by have := HQ4.out; omega
          have ht4:t < 4 * n:=by have := HQ4.out; omega
          clear hz0 hz1 ht
          by_cases htj:t = j
          ·have HV:=hide (fun h:Pl.VL sg mt lp => show False by have := (h.mate hjl).2.2.1; rw [HT.out] at this; omega)
           have t3:(((t:Nat):Int) == (j:Int)) = true:=by simp; omega
           clear htj
           go_wp2
           go_quiet (fail)
           go_wp2
           go_ret
           exact ⟨ret_bool (Pl.vb_false HV.out).symm,Below.drewN' B2.out _⟩
          ·have t3:(((t:Nat):Int) == (j:Int)) = false:=by simp; omega
           obtain ⟨bb',bo',ebb,hcb⟩:=ints_pv hm htq
           injection ebb with ebb
           injection ebb with ebb1 ebb2
           subst ebb1; subst ebb2
           have hc2:=cell_below hcb B2.out
           clear hcb
           by_cases hinv:Pl.pv mt t = j
           ·have HI:=hide hinv
            rw [hinv] at hc2
            have t4:((j:Int) != (j:Int)) = false:=by simp
            clear hinv
            have HSS:=hide (fun (p:Cls (fun w' => Row w' w.heap.size 24 (boxV A (some ⟨bb,bo,none⟩) n cp q cq (.int .i64 lp)) ∧ Below w.heap.size w w' ∧ w'.cell? ⟨bb,bo + t,none⟩ = some (.int .i64 (j:Int)))) (h:Nat) (hh:h < 4 * n) =>
             calls_cls (C := fun w' => Row w' w.heap.size 24 (boxV A (some ⟨bb,bo,none⟩) n cp q cq (.int .i64 lp)) ∧ Below w.heap.size w w' ∧ w'.cell? ⟨bb,bo + t,none⟩ = some (.int .i64 (j:Int)))
              (rout_any (Pl.mk sg mt lp) A (some ⟨bb,bo,none⟩) n cp q cq (.int .i64 lp) h p.w HLS.out.symm hh (by omega) (hs.keep p.ok.2.1)) (fun e w' h => ⟨h.1,p.ok.1.below h.2,p.ok.2.1.trans (h.2.mono p.ok.2.1.size),cell_below p.ok.2.2 h.2⟩))
            have c30:∀ p:Cls (fun w' => Row w' w.heap.size 24 (boxV A (some ⟨bb,bo,none⟩) n cp q cq (.int .i64 lp)) ∧ Below w.heap.size w w' ∧ w'.cell? ⟨bb,bo + t,none⟩ = some (.int .i64 (j:Int))),p.w.cell? ⟨w.heap.size,0,none⟩ = some (.slice A n cp):=fun p => p.ok.1.cell (i := 0) (by show 0 < 3; omega)
            have c31:∀ p:Cls (fun w' => Row w' w.heap.size 24 (boxV A (some ⟨bb,bo,none⟩) n cp q cq (.int .i64 lp)) ∧ Below w.heap.size w w' ∧ w'.cell? ⟨bb,bo + t,none⟩ = some (.int .i64 (j:Int))),p.w.cell? ⟨w.heap.size,1,none⟩ = some (.slice (some ⟨bb,bo,none⟩) q cq):=fun p => p.ok.1.cell (i := 1) (by show 1 < 3; omega)
            have c32:∀ p:Cls (fun w' => Row w' w.heap.size 24 (boxV A (some ⟨bb,bo,none⟩) n cp q cq (.int .i64 lp)) ∧ Below w.heap.size w w' ∧ w'.cell? ⟨bb,bo + t,none⟩ = some (.int .i64 (j:Int))),p.w.cell? ⟨w.heap.size,2,none⟩ = some (.int .i64 lp):=fun p => p.ok.1.cell (i := 2) (by show 2 < 3; omega)
            have c33:∀ p:Cls (fun w' => Row w' w.heap.size 24 (boxV A (some ⟨bb,bo,none⟩) n cp q cq (.int .i64 lp)) ∧ Below w.heap.size w w' ∧ w'.cell? ⟨bb,bo + t,none⟩ = some (.int .i64 (j:Int))),p.w.cell? ⟨bb,bo + t,none⟩ = some (.int .i64 (j:Int)):=fun p => p.ok.2.2
            have HC2:=hide hc2
            go_wp2
            refine wp_region_cls (fun w' => Row w' w.heap.size 24 (boxV A (some ⟨bb,bo,none⟩) n cp q cq (.int .i64 lp)) ∧ Below w.heap.size w w' ∧ w'.cell? ⟨bb,bo + t,none⟩ = some (.int .i64 (j:Int))) (by kernel_rfl) (by kernel_rfl) ⟨X2.out.drew,B2.out.drew,HC2.out⟩ (fun hne => ?_)
            repeat (go_big_quiet_step ((go_at_call 62; exact HSS.out _ _ (by omega))))
            refine wpQuiet_nil ?_
            rintro _ ⟨p,rfl⟩
            have hp1:=hide p.ok.1
            have hp2:=hide p.ok.2.1
            clear HSS c30 c31 c32 c33
            go_wp2
            ·have t5:(Pl.out (Pl.mk sg mt lp) j == Pl.out (Pl.mk sg mt lp) t) = true:=by assumption
             go_ret
             refine ⟨ret_bool (Pl.vb_false fun h => ?_).symm,hp2.out⟩
             have h5:=(h.mate hjl).2.2.2.2
             rw [HT.out,Int.toNat_natCast] at h5
             exact h5 (beq_iff_eq.1 t5)
            ·have t5:(Pl.out (Pl.mk sg mt lp) j == Pl.out (Pl.mk sg mt lp) t) = false:=by assumption
             go_roundg (gk - 1)
             case measure => have := HG.out; omega
             case rel =>
              refine ⟨j + 1,by have := HG.out; omega,by go_num,fun h hh => ?_,hp2.out,hp1.out⟩
              by_cases e:h = j
              ·subst e
               rw [HT.out,Int.toNat_natCast]
               exact ⟨by omega,by have := HLM.out; omega,by omega,HI.out,beq_eq_false_iff_ne.1 t5⟩
              ·exact HMO.out h (by omega)
           ·have HV := hide (fun h : Pl.VL sg mt lp => show False by
             have:=(h.mate hjl).2.2.2.1
             rw [HT.out,Int.toNat_natCast] at this
             exact hinv this)
            have t4:(Pl.pv mt t != (j:Int)) = true:=by rw [bne_iff_ne]; exact hinv
            clear hinv
            go_wp2
            go_quiet (fail)
            go_wp2
            go_ret
            exact ⟨ret_bool (Pl.vb_false HV.out).symm,Below.drewN' B2.out _⟩
         ·have HV:=hide (fun h:Pl.VL sg mt lp => show False by have := (h.mate hjl).2.1; have := HLM.out; omega)
          have t2:decide (4 * (n:Int) ≤ Pl.pv mt j) = true:=by have := HQ4.out; simp; omega
          clear hz0 hz1
          go_wp2
          go_quiet (fail)
          go_wp2
          go_ret
          exact ⟨ret_bool (Pl.vb_false HV.out).symm,Below.drewN' B2.out _⟩
       ·have hjq':j = q:=by omega
        have hj4n:¬ ((j:Int) < 4 * (n:Int)):=by have := HQ4.out; omega
        have hw:=Pl.wf_of (sg := sg) (mt := mt) (lp := lp) (by have := HLS.out; omega) (by have := HLS.out; have := HLM.out; have := HQ4.out; omega) h3 HSG'.out (fun k hk => HMO.out k (by have := HLM.out; omega))
        have hpos:∀ z,z ∈ mt → 0 ≤ z:=fun z hz => by
         obtain ⟨k,hk,rfl⟩:=Pl.mem_pv hz
         exact (HMO.out k (by have := HLM.out; omega)).1
        have HW:=hide hw
        have HR:=hide (Pl.VL.of hw hpos h3.1)
        have HN:=hide (Pl.nats_mk (sg := sg) (lp := lp) hpos)
        have B2:=hide b2
        have X2:=hide x2
        clear b2 x2 hw hpos hjq'
        obtain ⟨d,hd⟩:∃ d,d = Pl.mk sg mt lp := ⟨_,rfl⟩
        have HD:=hide hd
        have HWd:=hide (show Pl.Wf d by rw [hd]; exact HW.out)
        have HNd:=hide (show n = d.n by rw [hd]; exact HLS.out.symm)
        have HQd:=hide (show q = 4 * d.n by have := HQ4.out; have := HNd.out; omega)
        have HSd:=hide (show IntsAt w A n d.sg by rw [hd]; exact hs)
        have HMd:=hide (show IntsAt w B q (nats d.mt) by rw [hd]; unfold nats; rw [HN.out]; exact hm)
        clear hd
        have hmk:=fun W:World => run_ints n (by omega) W
        have hmkb:∀ W:World,(Instr.makeSlice 69 (.int .i64 (4 * (n:Int))) (.int .i64 (4 * (n:Int)))).run Try.prog W = .ok (.slice (some ⟨W.heap.size,0,none⟩) q q) (W.alloc (.cells (Array.replicate q (Value.bool false)) 4)):=fun W => by
         have:=run_bools q (by omega) W
         rwa [show (q:Int) = 4 * (n:Int) by have := HQ4.out; omega] at this
        go_wp2_with fail
        refine (rpart_n d HWd.out A B n q cp cq (.int .i64 lp) _ HNd.out HQd.out (HSd.out.keep B2.out) (HMd.out.keep B2.out)).mono ?_
        rintro e w3 ⟨ps,gp,rfl,hpb,hgp,hpr,hb3⟩
        have HPB:=hide hpb
        have P3:=hide hpr
        have X3:=hide (X2.out.below hb3)
        have B3:=hide (B2.out.trans (hb3.mono B2.out.size))
        have hgpw:w.heap.size < gp:=by have := X2.out.lt; omega
        have hgp3:gp < w3.heap.size:=hpr.lt
        clear hpb hgp hpr hb3 y0 y1 y2
        go_upto_region 16 with fail
        go_cut [8,9] (fun s8 s9 wx => ∃ gf gc:Nat,s8 = .slice (some ⟨gf,0,none⟩) n n ∧ s9 = .slice (some ⟨gc,0,none⟩) n n ∧ gf ≠ gc ∧ w3.heap.size ≤ gf ∧ w3.heap.size ≤ gc ∧ IRow wx gf (List.replicate n 0) ∧ IRow wx gc (List.replicate n 0) ∧ Below w3.heap.size w3 wx)
        case first =>
         clear hmkb
         go_region
         all_goals (go_wp2_with fail; go_meet)
         all_goals
          first
           | exact ⟨w3.heap.size,w3.heap.size + 1,rfl,rfl,by omega,by omega,by omega,two_rows w3 n⟩
           | exact ⟨w3.heap.size + 1,w3.heap.size,rfl,rfl,by omega,by omega,by omega,two_rows' w3 n⟩
        case rest =>
         clear hmk
         obtain ⟨gf,gc,rfl,rfl,i1,i2,i3,hf,hc,hb4⟩:=hcut
         obtain ⟨W4,hW4⟩:∃ W4:World,W4 = wc.alloc (.cells (Array.replicate q (Value.bool false)) 4) := ⟨_,rfl⟩
         have V4:=hide (show VS w (boxV A B n cp q cq (.int .i64 lp)) gp gf gc wc.heap.size ps (List.replicate n 0) (List.replicate n 0) (List.replicate q false) W4 by
          have l1:=hf.lt
          have l2:=hc.lt
          have l3:=hb4.size
          rw [hW4]
          exact ⟨(X3.out.below hb4).alloc _,Row.alloc (Row.below P3.out hb4) _,Row.alloc hf _,Row.alloc hc _,BRow.made _ _,(B3.out.trans (hb4.mono B3.out.size)).alloc (by have := B3.out.size; omega) _,by omega,by omega⟩)
         obtain ⟨gs,hgs⟩:∃ gs,gs = wc.heap.size := ⟨_,rfl⟩
         rw [← hgs] at V4
         clear hf hc hb4 X3 B3 P3 X2 B2
         go_wp2
         rw [← hW4,← hgs]
         clear hW4 hgs hmkb
         have V4':=V4
         go_loopg [11] q (fun g i wx => ∃ (k:Nat) (fs:List Int) (bs:List Bool),k + g = q ∧ i = .int .i64 k ∧ Pl.Fx d ps fs k ∧ Pl.SQ d k bs ∧ VS w (boxV A B n cp q cq (.int .i64 lp)) gp gf gc gs ps fs (List.replicate n 0) bs wx)
         case atStart => exact ⟨0,_,_,by omega,rfl,by have := Pl.Fx.start d ps; rwa [← HNd.out] at this,by have := Pl.SQ.start d; rwa [← HQd.out] at this,V4.out⟩
         case round =>
          clear V4 V4'
          obtain ⟨k,fs,bs,hkg,rfl,hfx,hsq,hv⟩:=hrel
          have HK:=hide hkg
          have HFX:=hide hfx
          have HSQ:=hide hsq
          have V:=hide hv
          have hkq:k ≤ q:=by omega
          clear hkg hfx hsq hv
          by_cases hlt3:k < q
          ·have hj4n':(k:Int) < 4 * (n:Int):=by have := HQ4.out; omega
           have hkd:k < 4 * d.n:=by have := HQd.out; omega
           have c1:=V.out.s.cell (i := k) (by rw [HSQ.out.len]; exact hkd)
           by_cases hseen:Pl.gb bs k = true
           ·rw [show bs.getD k false = true from hseen] at c1
            have HS2:=hide (HSQ.out.seen HWd.out hkd hseen)
            clear hseen
            go_wp2
            go_roundg (q - (k + 1))
            case measure => have := HK.out; omega
            case rel => exact ⟨k + 1,fs,bs,by omega,by go_num,HFX.out.same HS2.out.2,HS2.out.1,V.out⟩
           ·have hseen':Pl.gb bs k = false:=by simpa using hseen
            rw [show bs.getD k false = false from hseen'] at c1
            have HSE:=hide (HSQ.out.enter HWd.out hkd hseen')
            obtain ⟨p,hp1,hp2⟩:=HWd.out.nxb.per hkd
            have HP:=hide hp2
            have hp0:=hp2.1
            have hp256:p ≤ 256:=by have := HQd.out; omega
            obtain ⟨y0,y1,y2,_⟩:=box3 V.out.x
            have hgsl:gs < wr.heap.size:=V.out.s.lt
            clear hp2 hseen hseen'
            go_wp2_with fail
            refine (rface_n d HWd.out A B n q cp cq (.int .i64 lp) k p _ HNd.out HQd.out (HMd.out.keep V.out.bel) hkd HP.out hp1).mono ?_
            rintro e w5 ⟨A5,c5,rfl,own,hb5⟩
            have V5:=hide (V.out.below hb5)
            rw [map_ints] at own
            have OWN:=hide own
            obtain ⟨bz,hbz⟩:∃ bz,bz = wr.heap.size := ⟨_,rfl⟩
            rw [← hbz] at OWN hgsl
            clear own hb5 y0 y1 y2 c1 hbz
            go_wp2_with fail
            go_loopg [13] p (fun g i wx => ∃ (j:Nat) (cs:List Bool),j + g = p ∧ i = .int .i64 j ∧ Pl.SI d k j cs ∧ VS w (boxV A B n cp q cq (.int .i64 lp)) gp gf gc gs ps fs (List.replicate n 0) cs wx ∧ wx.ownsRow bz 3 1 (.slice A5 p c5) p ((nats (Pl.cyc (Pl.nx d) k p)).map (Value.int .i64)))
            case atStart => exact ⟨0,bs,by omega,rfl,HSE.out.1,V5.out,OWN.out⟩
            case round =>
             clear V V5 OWN
             obtain ⟨j,cs,hjg,rfl,hsi,hv,own⟩:=hrel
             have HJ:=hide hjg
             have HSI:=hide hsi
             have V:=hide hv
             have OWN:=hide own
             have hjp:j ≤ p:=by omega
             clear hjg hsi hv own
             by_cases hlt4:j < p
             ·obtain ⟨b5,o5,hA5,hc5⟩:=(own_ints' OWN.out).at_ hlt4
              obtain ⟨x,hx⟩:∃ x,x = Pl.it (Pl.nx d) j k := ⟨_,rfl⟩
              have hxd:x < 4 * d.n:=by rw [hx]; exact HSI.out.lt HWd.out
              have hxq:x < q:=by rw [HQd.out]; exact hxd
              rw [nats_getD,Pl.cyc_get hlt4,← hx] at hc5
              have HX:=hide hx
              subst hA5
              have c2:=V.out.s.cell (i := x) (by rw [HSI.out.len]; exact hxd)
              have f2:=Row.free V.out.s x
              clear hx
              go_wp2
              go_roundg (p - (j + 1))
              case measure => have := HJ.out; omega
              case rel =>
               refine ⟨j + 1,cs.set x true,by omega,by go_num,by rw [HX.out]; exact HSI.out.step HWd.out,V.out.setS x true,ownsRow_setCell_below OWN.out (by show gs < bz; omega) _⟩
             ·have hjp':j = p:=by omega
              have HSQ2:=hide (show Pl.SQ d (k + 1) cs by subst hjp'; exact HSI.out.all HWd.out HP.out)
              have hk4:k / 4 < n:=by have := HNd.out; omega
              have c1:=V.out.p.cell (i := k / 4) (by rw [HPB.out.len,← HNd.out]; exact hk4)
              obtain ⟨u,hu1,hu2,_,_⟩:=HPB.out.root (c := k / 4) (by rw [← HNd.out]; exact hk4)
              rw [hu1] at c1
              have hun:u < n:=by rw [HNd.out]; exact hu2
              have c2:=V.out.f.cell (i := u) (by rw [HFX.out.1,← HNd.out]; exact hun)
              have f2:=Row.free V.out.f u
              have hfu:=HFX.out.2 u hu2
              have hfl:=Pl.nf_le d ps u k
              have hfr:0 ≤ Pl.pv fs u ∧ Pl.pv fs u ≤ 256:=by omega
              have HU:=hide hu1
              clear hjp' hu1 hfu hfl
              go_wp2
              go_roundg (q - (k + 1))
              case measure => have := HK.out; omega
              case rel =>
               exact ⟨k + 1,_,cs,by omega,by go_num,HFX.out.more hu2 HU.out HSE.out.2,HSQ2.out,V.out.setF u _⟩
          ·have hkq':k = q:=by omega
           have hj4n':¬ ((k:Int) < 4 * (n:Int)):=by have := HQ4.out; omega
           have HFX2:=hide (show Pl.Fx d ps fs (4 * d.n) by rw [← HQd.out,← hkq']; exact HFX.out)
           clear HFX HSQ HK hkq'
           go_wp2
           go_loopg [14] n (fun g i wx => ∃ (k:Nat) (cs:List Int),k + g = n ∧ i = .int .i64 k ∧ Pl.Cx d ps cs k ∧ VS w (boxV A B n cp q cq (.int .i64 lp)) gp gf gc gs ps fs cs bs wx)
           case atStart => exact ⟨0,_,by omega,rfl,by have := Pl.Cx.start d ps; rwa [← HNd.out] at this,V.out⟩
           case round =>
            clear V
            obtain ⟨j,cs,hjg,rfl,hcx,hv⟩:=hrel
            have HJ:=hide hjg
            have HCX:=hide hcx
            have V:=hide hv
            have hjn:j ≤ n:=by omega
            clear hjg hcx hv
            by_cases hlt5:j < n
            ·have c1:=V.out.p.cell (i := j) (by rw [HPB.out.len,← HNd.out]; exact hlt5)
             obtain ⟨u,hu1,hu2,_,_⟩:=HPB.out.root (c := j) (by rw [← HNd.out]; exact hlt5)
             rw [hu1] at c1
             have hun:u < n:=by rw [HNd.out]; exact hu2
             have c2:=V.out.c.cell (i := u) (by rw [HCX.out.1,← HNd.out]; exact hun)
             have f2:=Row.free V.out.c u
             have hfu:=HCX.out.2 u hu2
             have hfl:=Pl.nv_le ps u j
             have hfr:0 ≤ Pl.pv cs u ∧ Pl.pv cs u ≤ 256:=by omega
             have HU:=hide hu1
             clear hu1 hfu hfl
             go_wp2
             go_roundg (n - (j + 1))
             case measure => have := HJ.out; omega
             case rel => exact ⟨j + 1,_,by omega,by go_num,HCX.out.more hu2 HU.out,V.out.setC u _⟩
            ·have hjn':j = n:=by omega
             have HCX2:=hide (show Pl.Cx d ps cs d.n by rw [← HNd.out,← hjn']; exact HCX.out)
             clear HCX HJ hjn'
             go_wp2
             go_loopg [15] n (fun g i wx => ∃ k:Nat,k + g = n ∧ i = .int .i64 k ∧ (∀ c,c < k → Pl.pv ps c = c → Pl.nf d ps c (4 * d.n) = Pl.nv ps c d.n + 2) ∧ VS w (boxV A B n cp q cq (.int .i64 lp)) gp gf gc gs ps fs cs bs wx)
             case atStart => exact ⟨0,by omega,rfl,fun c hc => absurd hc (by omega),V.out⟩
             case round =>
              clear V
              obtain ⟨i,hig,rfl,hok,hv⟩:=hrel
              have HI:=hide hig
              have HOK:=hide hok
              have V:=hide hv
              have hin:i ≤ n:=by omega
              clear hig hok hv
              have HRU:=hide (HPB.out.rule HWd.out)
              by_cases hlt6:i < n
              ·have hid:i < d.n:=by rw [← HNd.out]; exact hlt6
               have c1:=V.out.p.cell (i := i) (by rw [HPB.out.len]; exact hid)
               have c2:=V.out.f.cell (i := i) (by rw [HFX2.out.1]; exact hid)
               have c3:=V.out.c.cell (i := i) (by rw [HCX2.out.1]; exact hid)
               have E2:=hide (HFX2.out.2 i hid)
               have E3:=hide (HCX2.out.2 i hid)
               have hfl:=Pl.nf_le d ps i (4 * d.n)
               have hcl:=Pl.nv_le ps i d.n
               have hfr:0 ≤ Pl.pv cs i ∧ Pl.pv cs i ≤ 256:=by have := E3.out; have := HNd.out; omega
               clear hfl hcl
               obtain ⟨z,hz⟩:∃ z,z = Pl.pv ps i := ⟨_,rfl⟩
               rw [← hz] at c1
               by_cases hzi:z = i
               ·have t1:(z == (i:Int)) = true:=by simpa using hzi
                have HZ:=hide (show Pl.pv ps i = i by rw [← hz]; exact hzi)
                clear hz hzi
                by_cases hbad:Pl.pv fs i = Pl.pv cs i + 2
                ·have t2:(Pl.pv fs i != Pl.pv cs i + 2) = false:=by simpa using hbad
                 have HBAD:=hide hbad
                 clear hbad
                 go_wp2
                 go_quiet (fail)
                 go_wp2
                 go_roundg (n - (i + 1))
                 case measure => have := HI.out; omega
                 case rel =>
                  refine ⟨i + 1,by omega,by go_num,fun c hc e => ?_,V.out.drewN _⟩
                  by_cases e2:c = i
                  ·subst e2; have := HBAD.out; have := E2.out; have := E3.out; omega
                  ·exact HOK.out c (by omega) e
                ·have t2:(Pl.pv fs i != Pl.pv cs i + 2) = true:=by simpa using hbad
                 have HV:=hide (show ¬ Pl.VL sg mt lp from fun h => hbad (by
                  have h2:=HR.out.1 h
                  rw [← HD.out] at h2
                  have h3:=HRU.out.2 h2 i hid HZ.out
                  have:=E2.out
                  have:=E3.out
                  omega))
                 clear hbad
                 go_wp2
                 go_quiet (fail)
                 go_wp2
                 go_ret
                 exact ⟨ret_bool (Pl.vb_false HV.out).symm,Below.drewN' V.out.bel _⟩
               ·have t1:(z == (i:Int)) = false:=by simpa using hzi
                have HZ:=hide (show ¬ Pl.pv ps i = i by rw [← hz]; exact hzi)
                clear hz hzi
                go_wp2
                go_quiet (fail)
                go_wp2
                go_roundg (n - (i + 1))
                case measure => have := HI.out; omega
                case rel =>
                 refine ⟨i + 1,by omega,by go_num,fun c hc e => ?_,V.out.drewN _⟩
                 by_cases e2:c = i
                 ·subst e2; exact absurd e HZ.out
                 ·exact HOK.out c (by omega) e
              ·have HV := hide (show Pl.VL sg mt lp from HR.out.2 (by
                rw [← HD.out]
                exact HRU.out.1 (fun c hc e => HOK.out c (by rw [← HNd.out] at hc; omega) e)))
               go_wp2
               go_ret
               exact ⟨ret_bool (Pl.vb_true HV.out).symm,V.out.bel⟩
   ·have HV:=hide (fun h:Pl.VL sg mt lp => show False by have := h.loops; omega)
    have h2':(((q:Nat):Int) != 4 * (n:Int)) = false:=by simp; omega
    have HQ2:=hide h2
    clear h2
    by_cases h3a:lp < 0
    ·have t1:decide (lp < 0) = true:=by simpa using h3a
     go_enter Try.func29,Try.ntmps29
     go_wp2
     go_ret
     exact ⟨ret_bool (Pl.vb_false HV.out).symm,b0⟩
    ·have t1:decide (lp < 0) = false:=by simpa using h3a
     have t2:decide (64 < lp) = true:=by simp; omega
     go_enter Try.func29,Try.ntmps29
     go_wp2
     go_ret
     exact ⟨ret_bool (Pl.vb_false HV.out).symm,b0⟩
  ·have HV:=hide (fun h:Pl.VL sg mt lp => show False by have := h.len; have := HLS.out; have := HLM.out; omega)
   have h2':(((q:Nat):Int) != 4 * (n:Int)) = true:=by simp; omega
   go_enter Try.func29,Try.ntmps29
   go_wp2
   go_ret
   exact ⟨ret_bool (Pl.vb_false HV.out).symm,b0⟩
end Go.Proofs.Ytobbepmlmbbamaa
end
section
namespace Go.Proofs.Ytobbepmlmbbamaa
open Go Go.RowKit
theorem next_i (d:Pl.Dg) (hd:Pl.Wf d) (B:Option Addr) (cq m:Nat) (h:Int) (w:World) (e:m = 4 * d.n) (hh:0 ≤ h ∧ h < (m:Int)) (hm:IntsAt w B m (nats d.mt)) :
 Calls Try.prog 95 #[.slice B m cq,.int .i64 h] w fun e w' => e = .returned (.int .i64 (Pl.nx d h.toNat:Nat)) ∧ w' = w := by
 subst e
 obtain ⟨k,rfl⟩:=Int.eq_ofNat_of_zero_le hh.1
 have hk:k < 4 * d.n:=by omega
 refine (next_any d B cq k w hk (by have := hd.few; omega) hm (hd.lt k hk)).mono ?_
 rintro e w' ⟨rfl,rfl⟩
 exact ⟨rfl,rfl⟩
def lnH (x y i:Nat):Nat := if i < 4 then 4 * x + i else 4 * y + i - 4
def lnO (x y i:Nat):Nat := if i < 4 then y else x
def isL (d:Pl.Dg) (x y i:Nat):Prop := Pl.nx d (lnH x y i) / 4 = lnO x y i ∧ Pl.nx d (Pl.nx d (lnH x y i)) = lnH x y i ∧ lnH x y i % 2 = d.m (lnH x y i) % 2
instance (d:Pl.Dg) (x y i:Nat):Decidable (isL d x y i) := by unfold isL; infer_instance
def lensI (d:Pl.Dg) (x y:Nat):Option Nat := (List.range 8).find? (fun i => decide (isL d x y i))
def lensV (d:Pl.Dg) (h:Nat):Value :=
 .agg #[.int .i64 (h:Int),.int .i64 (d.m (Pl.nx d h):Int),.int .i64 (Pl.tn h 2:Int),.int .i64 (Pl.tn (d.m (Pl.nx d h)) 2:Int),.int .i64 (Pl.tn (d.m h) 2:Int),.int .i64 (Pl.nx d h:Int),.int .i64 (d.m h:Int),.int .i64 (Pl.tn (Pl.nx d h) 2:Int)]
def noLens:Value := .agg #[.int .i64 0,.int .i64 0,.int .i64 0,.int .i64 0,.int .i64 0,.int .i64 0,.int .i64 0,.int .i64 0]
def findE (d:Pl.Dg) (x y:Nat):Option Nat → Ending
 | some i => .returned (.tuple #[lensV d (lnH x y i),.bool true])
 | none => .returned (.tuple #[noLens,.bool false])
def FindPost (d:Pl.Dg) (x y:Nat) (w:World) (e:Ending) (w':World):Prop := e = findE d x y (lensI d x y) ∧ Below w.heap.size w w'
theorem find_some {p:Nat → Bool} {k:Nat}:∀ n,k < n → p k = true → (∀ j,j < k → p j = false) → (List.range n).find? p = some k := by
 intro n
 induction n with
 | zero => intro h; omega
 | succ n ih =>
   intro hk hp hn
   rw [List.range_succ,List.find?_append]
   rcases Nat.lt_or_ge k n with h | h
   ·rw [ih h hp hn]; rfl
   ·have:k = n:=by omega
    subst this
    have h0:(List.range k).find? p = none:=by
     rw [List.find?_eq_none]
     intro x hx
     rw [hn x (List.mem_range.1 hx)]; decide
    rw [h0]
    simp [hp]
theorem find_none {p:Nat → Bool} {n:Nat} (hn:∀ j,j < n → p j = false):(List.range n).find? p = none := by
 rw [List.find?_eq_none]
 intro x hx
 rw [hn x (List.mem_range.1 hx)]; decide
theorem lens_at {d:Pl.Dg} {x y k:Nat} (hk:k < 8) (hp:isL d x y k) (hn:∀ j,j < k → ¬ isL d x y j):lensI d x y = some k :=
 find_some 8 hk (by simpa using hp) (fun j hj => by simpa using hn j hj)
theorem lens_no {d:Pl.Dg} {x y:Nat} (hn:∀ j,j < 8 → ¬ isL d x y j):lensI d x y = none := find_none (fun j hj => by simpa using hn j hj)
theorem find_more {p:Nat → Prop} {k:Nat} (h:∀ j,j < k → ¬ p j) (hk:¬ p k):∀ j,j < k + 1 → ¬ p j := fun j hj => by
 rcases Nat.lt_or_ge j k with h1 | h1
 ·exact h j h1
 ·have:j = k:=by omega
  subst this; exact hk
theorem row8 {W:World} {g:Nat} {t:TypeId} {vs:List Value} (h:Row W g t vs) (l:vs.length = 8) (y0 y1 y2 y3 y4 y5 y6 y7:Value) :
 Row ((((((((W.setCell ⟨g,0,none⟩ y0).setCell ⟨g,1,none⟩ y1).setCell ⟨g,2,none⟩ y2).setCell ⟨g,3,none⟩ y3).setCell ⟨g,4,none⟩ y4).setCell ⟨g,5,none⟩ y5).setCell ⟨g,6,none⟩ y6).setCell ⟨g,7,none⟩ y7) g t [y0,y1,y2,y3,y4,y5,y6,y7] := by
 obtain ⟨a,b,c,d,e,f,g',h',rfl⟩:∃ a b c d e f g h,vs = [a,b,c,d,e,f,g,h] := by
  match vs,l with
  | [a,b,c,d,e,f,g,h],_ => exact ⟨a,b,c,d,e,f,g,h,rfl⟩
 exact (((((((h.set 0 y0).set 1 y1).set 2 y2).set 3 y3).set 4 y4).set 5 y5).set 6 y6).set 7 y7
theorem box8 {W:World} {g:Nat} {t:TypeId} {a b c d e f p q:Value} (h:Row W g t [a,b,c,d,e,f,p,q]):W.cell? ⟨g,0,none⟩ = some a ∧ W.cell? ⟨g,1,none⟩ = some b ∧ W.cell? ⟨g,2,none⟩ = some c ∧ W.cell? ⟨g,3,none⟩ = some d ∧ W.cell? ⟨g,4,none⟩ = some e ∧ W.cell? ⟨g,5,none⟩ = some f ∧ W.cell? ⟨g,6,none⟩ = some p ∧ W.cell? ⟨g,7,none⟩ = some q ∧ ∀ o,W.frozen? ⟨g,o,none⟩ = false :=
 ⟨h.cell (i := 0) (by simp),h.cell (i := 1) (by simp),h.cell (i := 2) (by simp),h.cell (i := 3) (by simp),h.cell (i := 4) (by simp),h.cell (i := 5) (by simp),h.cell (i := 6) (by simp),h.cell (i := 7) (by simp),h.free⟩
theorem below_set8 {w W:World} {g:Nat} (h:Below w.heap.size w W) (hg:w.heap.size ≤ g) (y0 y1 y2 y3 y4 y5 y6 y7:Value) :
 Below w.heap.size w ((((((((W.setCell ⟨g,0,none⟩ y0).setCell ⟨g,1,none⟩ y1).setCell ⟨g,2,none⟩ y2).setCell ⟨g,3,none⟩ y3).setCell ⟨g,4,none⟩ y4).setCell ⟨g,5,none⟩ y5).setCell ⟨g,6,none⟩ y6).setCell ⟨g,7,none⟩ y7) :=
 (((((((h.setCell hg _).setCell hg _).setCell hg _).setCell hg _).setCell hg _).setCell hg _).setCell hg _).setCell hg _
set_option maxRecDepth 100000 in
set_option maxHeartbeats 4000000 in
theorem find_any (d:Pl.Dg) (hd:Pl.Wf d) (A B:Option Addr) (cp cq m x y:Nat) (w:World) (hm:m = 4 * d.n) (hg:DgAt w A B d) (hx:x < d.n) (hy:y < d.n) :
 Calls Try.prog 92 #[.agg #[.slice A d.n cp,.slice B m cq,.int .i64 d.lp],.int .i64 (x:Int),.int .i64 (y:Int)] w (FindPost d x y w) := by
 have hn:=hd.few
 have HM:=hide hm
 have HG:=hide hg
 have hm2:m ≤ 256:=by omega
 clear hm hg
 have X0:=hide (show Row ((w.alloc (.cells #[.slice A d.n cp,.slice B m cq,.int .i64 d.lp] 24)).alloc (.cells #[.int .i64 0,.int .i64 0,.int .i64 0,.int .i64 0,.int .i64 0,.int .i64 0,.int .i64 0,.int .i64 0] 93)) w.heap.size 24 [.slice A d.n cp,.slice B m cq,.int .i64 d.lp] from Row.alloc (Row.new w _ [_,_,_]) _)
 have R0:=hide (show Row ((w.alloc (.cells #[.slice A d.n cp,.slice B m cq,.int .i64 d.lp] 24)).alloc (.cells #[.int .i64 0,.int .i64 0,.int .i64 0,.int .i64 0,.int .i64 0,.int .i64 0,.int .i64 0,.int .i64 0] 93)) (w.heap.size + 1) 93 [.int .i64 0,.int .i64 0,.int .i64 0,.int .i64 0,.int .i64 0,.int .i64 0,.int .i64 0,.int .i64 0] from row_at (vs := [_,_,_,_,_,_,_,_]) (by simp))
 have B0:=hide (show Below w.heap.size w ((w.alloc (.cells #[.slice A d.n cp,.slice B m cq,.int .i64 d.lp] 24)).alloc (.cells #[.int .i64 0,.int .i64 0,.int .i64 0,.int .i64 0,.int .i64 0,.int .i64 0,.int .i64 0,.int .i64 0] 93)) from ((Below.refl _ _).alloc (Nat.le_refl _) _).alloc (by simp) _)
 go_enter Try.func92,Try.ntmps92
 go_wp2
 go_loopg [15] 8 (fun g i wx => ∃ k:Nat,k + g = 8 ∧ i = .int .i64 k ∧ (∀ j,j < k → ¬ isL d x y j) ∧ Below w.heap.size w wx ∧ Row wx w.heap.size 24 [.slice A d.n cp,.slice B m cq,.int .i64 d.lp] ∧ Row wx (w.heap.size + 1) 93 [.int .i64 0,.int .i64 0,.int .i64 0,.int .i64 0,.int .i64 0,.int .i64 0,.int .i64 0,.int .i64 0])
 case atStart => exact ⟨0,rfl,rfl,fun j h => absurd h (by omega),B0.out,X0.out,R0.out⟩
 case round =>
  clear B0 X0 R0
  obtain ⟨k,hkg,rfl,hno,b1,x1,r1⟩:=hrel
  have HKG:=hide hkg
  have HNO:=hide hno
  have B1:=hide b1
  have X1:=hide x1
  have R1:=hide r1
  clear hno b1 x1 r1
  by_cases hk:k = 8
  ·subst hk
   clear hkg
   obtain ⟨p0,p1,p2,p3,p4,p5,p6,p7,p8⟩:=box8 R1.out
   go_wp2
   refine bodyPost_ret (v := .tuple #[noLens,.bool false]) ?_ rfl ?_
   ·obtain ⟨e0,e1,e2,e3,e4,e5,e6,e7,_⟩:=box8 (row8 R1.out rfl (.int .i64 0) (.int .i64 0) (.int .i64 0) (.int .i64 0) (.int .i64 0) (.int .i64 0) (.int .i64 0) (.int .i64 0))
    unfold noLens
    simp [results,Try.results92,go_sem,e0,e1,e2,e3,e4,e5,e6,e7]
   ·refine ⟨?_,below_set8 B1.out (by omega) _ _ _ _ _ _ _ _⟩
    rw [lens_no HNO.out]
    rfl
  ·have hk8:k < 8:=by omega
   have HK8:=hide hk8
   clear hkg hk
   obtain ⟨f0,f1,f2,f3⟩:=box3 X1.out
   go_upto_if 24 with fail
   go_cut [9,10] (fun s9 s10 wx => s9 = .int .i64 (lnH x y k:Nat) ∧ s10 = .int .i64 (lnO x y k:Nat) ∧ wx = wr)
   case first =>
    by_cases h4:k < 4
    ·have e1:((lnH x y k:Nat):Int) = 4 * (x:Int) + (k:Int):=by unfold lnH; rw [if_pos h4]; omega
     have e2:lnO x y k = y:=by unfold lnO; rw [if_pos h4]
     have E1:=hide e1
     have E2:=hide e2
     clear e1 e2
     go_wp2_with fail
     go_meet
     exact ⟨by rw [E1.out],by rw [E2.out],rfl⟩
    ·have e1:((lnH x y k:Nat):Int) = 4 * (y:Int) + (k:Int) - 4:=by unfold lnH; rw [if_neg h4]; omega
     have e2:lnO x y k = x:=by unfold lnO; rw [if_neg h4]
     have E1:=hide e1
     have E2:=hide e2
     clear e1 e2
     go_wp2_with fail
     go_meet
     exact ⟨by rw [E1.out],by rw [E2.out],rfl⟩
   case rest =>
    obtain ⟨rfl,rfl,rfl⟩:=hcut
    have hh:lnH x y k < 4 * d.n:=by unfold lnH; split <;> omega
    have ho:lnO x y k < d.n:=by unfold lnO; split <;> omega
    obtain ⟨h,hH⟩:∃ h,h = lnH x y k := ⟨_,rfl⟩
    obtain ⟨o,hO⟩:∃ o,o = lnO x y k := ⟨_,rfl⟩
    rw [← hH] at hh ⊢
    rw [← hO] at ho ⊢
    have HH:=hide hH
    have HO:=hide hO
    clear hH hO
    have hmh:h < m:=by have := HM.out; omega
    have ih0:(0:Int) ≤ (h:Int):=by omega
    have ih1:(h:Int) < (m:Int):=by omega
    have HGc:=hide (HG.out.keep B1.out)
    have HGM:=hide (show IntsAt wc B m (nats d.mt) by rw [HM.out]; exact HGc.out.m)
    obtain ⟨mb,mo,rfl,cm⟩:=mate_at HGc.out.m hh
    have hmm:=hd.lt h hh
    have hgg:Pl.nx d h < 4 * d.n:=Pl.tn_lt (hd.lt h hh)
    obtain ⟨u,hu⟩:∃ u,u = d.m h := ⟨_,rfl⟩
    rw [← hu] at cm hmm
    obtain ⟨g,hgx⟩:∃ g,g = Pl.nx d h := ⟨_,rfl⟩
    rw [← hgx] at hgg
    have HU:=hide hu
    have HGX:=hide hgx
    clear hu hgx
    have hg2:Pl.nx d g < 4 * d.n:=Pl.tn_lt (hd.lt g hgg)
    have hgm:g < m:=by have := HM.out; omega
    have ig0:(0:Int) ≤ (g:Int):=by omega
    have ig1:(g:Int) < (m:Int):=by omega
    go_wp2_with fail
    refine (next_i d hd (some ⟨mb,mo,none⟩) cq m (h:Int) _ HM.out (by omega) HGM.out).mono ?_
    rintro e w2 ⟨rfl,rfl⟩
    rw [Int.toNat_natCast,← HGX.out]
    have HL:=hide (show isL d x y k ↔ (g / 4 = o ∧ Pl.nx d g = h ∧ h % 2 = u % 2) by unfold isL; rw [← HH.out,← HO.out,← HGX.out,← HU.out])
    obtain ⟨v,hv⟩:∃ v,v = Pl.nx d g := ⟨_,rfl⟩
    have HV:=hide hv
    clear hv cm
    by_cases c1:g / 4 = o
    ·have t1:((g:Int) / 4 != (o:Int)) = false:=by rw [bne_eq_false_iff_eq]; omega
     have C1:=hide c1
     clear c1
     go_wp2_with fail
     refine (next_i d hd (some ⟨mb,mo,none⟩) cq m (g:Int) _ HM.out (by omega) HGM.out).mono ?_
     rintro e w3 ⟨rfl,rfl⟩
     rw [Int.toNat_natCast,← HV.out]
     by_cases c2:v = h
     ·have t2:((v:Int) != (h:Int)) = false:=by rw [bne_eq_false_iff_eq]; omega
      by_cases c3:h % 2 = u % 2
      ·have t3:((h:Int) % 2 != (u:Int) % 2) = false:=by rw [bne_eq_false_iff_eq]; omega
       have E:=hide (lens_at HK8.out (HL.out.2 ⟨C1.out,by rw [← HV.out]; exact c2,c3⟩) HNO.out)
       have C2:=hide c2
       clear c2 c3
       have HGn:=hide (HG.out.keep B1.out)
       obtain ⟨mb',mo',hmb',cn⟩:=mate_at HGn.out.m hgg
       injection hmb' with hmb'
       injection hmb' with hmb1 hmb2
       subst hmb1
       subst hmb2
       have hmg:=hd.lt g hgg
       obtain ⟨up,hup⟩:∃ up,up = d.m g := ⟨_,rfl⟩
       rw [← hup] at cn hmg
       have HUP:=hide hup
       clear hup
       obtain ⟨p0,p1,p2,p3,p4,p5,p6,p7,p8⟩:=box8 R1.out
       go_wp2_with fail
       refine (opp_i (h:Int) _ (by omega)).mono ?_
       rintro e w4 ⟨rfl,rfl⟩
       go_wp2_with fail
       refine (opp_i (up:Int) _ (by omega)).mono ?_
       rintro e w5 ⟨rfl,rfl⟩
       go_wp2_with fail
       refine (opp_i (u:Int) _ (by omega)).mono ?_
       rintro e w6 ⟨rfl,rfl⟩
       go_wp2_with fail
       refine (opp_i (g:Int) _ (by omega)).mono ?_
       rintro e w7 ⟨rfl,rfl⟩
       have hlt:=R1.out.lt
       go_wp2
       refine bodyPost_ret (v := .tuple #[lensV d h,.bool true]) ?_ rfl ?_
       ·obtain ⟨e0,e1,e2,e3,e4,e5,e6,e7,_⟩:=box8 ((row8 R1.out rfl (.int .i64 (h:Int)) (.int .i64 (up:Int)) (.int .i64 (Pl.tn h 2:Int)) (.int .i64 (Pl.tn up 2:Int)) (.int .i64 (Pl.tn u 2:Int)) (.int .i64 (g:Int)) (.int .i64 (u:Int)) (.int .i64 (Pl.tn g 2:Int))).alloc (.cells #[.int .i64 (h:Int),.int .i64 (up:Int),.int .i64 (Pl.tn h 2:Int),.int .i64 (Pl.tn up 2:Int),.int .i64 (Pl.tn u 2:Int),.int .i64 (g:Int),.int .i64 (u:Int),.int .i64 (Pl.tn g 2:Int)] 93))
        unfold lensV
        rw [← HGX.out,← HU.out,← HUP.out]
        simp [results,Try.results92,go_sem,e0,e1,e2,e3,e4,e5,e6,e7]
       ·refine ⟨?_,Below.alloc (below_set8 B1.out (by omega) _ _ _ _ _ _ _ _) (below_set8 B1.out (by omega) _ _ _ _ _ _ _ _).size _⟩
        rw [E.out]
        show _ = Ending.returned (.tuple #[lensV d (lnH x y k),.bool true])
        rw [← HH.out]
      ·have t3:((h:Int) % 2 != (u:Int) % 2) = true:=by rw [bne_iff_ne]; omega
       have E:=hide (show ¬ isL d x y k from fun h => c3 (HL.out.1 h).2.2)
       clear c2 c3
       go_wp2_with fail
       go_roundg (gk - 1)
       case measure => have := HKG.out; have := HK8.out; omega
       case rel => exact ⟨k + 1,by have := HKG.out; have := HK8.out; omega,by go_num,find_more HNO.out E.out,B1.out,X1.out,R1.out⟩
     ·have t2:((v:Int) != (h:Int)) = true:=by rw [bne_iff_ne]; omega
      have E:=hide (show ¬ isL d x y k from fun h => c2 (by rw [HV.out]; exact (HL.out.1 h).2.1))
      clear c2
      go_wp2_with fail
      go_roundg (gk - 1)
      case measure => have := HKG.out; have := HK8.out; omega
      case rel => exact ⟨k + 1,by have := HKG.out; have := HK8.out; omega,by go_num,find_more HNO.out E.out,B1.out,X1.out,R1.out⟩
    ·have t1:((g:Int) / 4 != (o:Int)) = true:=by rw [bne_iff_ne]; omega
     have E:=hide (show ¬ isL d x y k from fun h => c1 (HL.out.1 h).1)
     clear c1
     go_wp2_with fail
     go_roundg (gk - 1)
     case measure => have := HKG.out; have := HK8.out; omega
     case rel => exact ⟨k + 1,by have := HKG.out; have := HK8.out; omega,by go_num,find_more HNO.out E.out,B1.out,X1.out,R1.out⟩
end Go.Proofs.Ytobbepmlmbbamaa
end
section
namespace Go.Proofs.Ytobbepmlmbbamaa
open Go Go.RowKit
attribute [local go_sem ↓] Go.wp_at_zero Go.wp_at_succ
def lnS (d:Pl.Dg) (y:Int):Nat := if fwd d y then 0 else 2
def th0 (d:Pl.Dg) (x:Int):Nat := if fwd d x then 3 else 1
def th1 (d:Pl.Dg) (x:Int):Nat := if fwd d x then 1 else 3
def un0 (d:Pl.Dg) (x y:Int) (ov:Bool):Nat := if ov then lnS d y else th0 d x
def un1 (d:Pl.Dg) (x y:Int) (ov:Bool):Nat := if ov then lnS d y else th1 d x
def ov0 (d:Pl.Dg) (x y:Int) (ov:Bool):Nat := if ov then th0 d x else lnS d y
def ov1 (d:Pl.Dg) (x y:Int) (ov:Bool):Nat := if ov then th1 d x else lnS d y
def sgn2 (u o:Nat):Int := if plc 0 u o = 3 then 1 else -1
theorem box2 {W:World} {g:Nat} {t:TypeId} {a b:Value} (h:Row W g t [a,b]):W.cell? ⟨g,0,none⟩ = some a ∧ W.cell? ⟨g,1,none⟩ = some b ∧ ∀ o,W.frozen? ⟨g,o,none⟩ = false :=
 ⟨h.cell (i := 0) (by simp),h.cell (i := 1) (by simp),h.free⟩
structure RS (w:World) (x0 x1 x2 y0 y1 y2 y3 y4:Value) (W:World):Prop where
 d:Row W w.heap.size 24 [x0,x1,x2]
 m:Row W (w.heap.size + 1) 28 [y0,y1,y2,y3,y4]
 rd:∃ vs,Row W (w.heap.size + 1 + 1) 24 vs ∧ vs.length = 3
 ra:∃ us,Row W (w.heap.size + 1 + 1 + 1) 86 us ∧ us.length = 2
 bel:Below w.heap.size w W
section
variable {w:World} {x0 x1 x2 y0 y1 y2 y3 y4:Value} {W W':World}
theorem RS.drew (h:RS w x0 x1 x2 y0 y1 y2 y3 y4 W):RS w x0 x1 x2 y0 y1 y2 y3 y4 W.drew := ⟨h.d,h.m,h.rd,h.ra,h.bel.drew⟩
theorem RS.below (h:RS w x0 x1 x2 y0 y1 y2 y3 y4 W) (hb:Below W.heap.size W W'):RS w x0 x1 x2 y0 y1 y2 y3 y4 W' :=
 let ⟨vs,r1,l1⟩:=h.rd
 let ⟨us,r2,l2⟩:=h.ra
 ⟨h.d.below hb,h.m.below hb,⟨vs,r1.below hb,l1⟩,⟨us,r2.below hb,l2⟩,h.bel.trans (hb.mono h.bel.size)⟩
theorem RS.alloc (h:RS w x0 x1 x2 y0 y1 y2 y3 y4 W) (o:Obj):RS w x0 x1 x2 y0 y1 y2 y3 y4 (W.alloc o) := h.below ((Below.refl _ _).alloc (Nat.le_refl _) o)
theorem RS.big (h:RS w x0 x1 x2 y0 y1 y2 y3 y4 W):w.heap.size + 1 + 1 + 1 < W.heap.size := let ⟨_,r2,_⟩:=h.ra; r2.lt
theorem RS.far (h:RS w x0 x1 x2 y0 y1 y2 y3 y4 W) {g:Nat} (hg:w.heap.size + 1 + 1 + 1 < g) (o:Nat) (v:Value):RS w x0 x1 x2 y0 y1 y2 y3 y4 (W.setCell ⟨g,o,none⟩ v) :=
 let ⟨vs,r1,l1⟩:=h.rd
 let ⟨us,r2,l2⟩:=h.ra
 ⟨h.d.other (by show _ ≠ g; omega) v,h.m.other (by show _ ≠ g; omega) v,⟨vs,r1.other (by show _ ≠ g; omega) v,l1⟩,⟨us,r2.other (by show _ ≠ g; omega) v,l2⟩,h.bel.setCell (by show _ ≤ g; omega) v⟩
end
theorem rs_start (w:World) (x0 x1 x2 y0 y1 y2 y3 y4:Value):RS w x0 x1 x2 y0 y1 y2 y3 y4 ((((w.alloc (.cells #[x0,x1,x2] 24)).alloc (.cells #[y0,y1,y2,y3,y4] 28)).alloc (.cells #[.slice none 0 0,.slice none 0 0,.int .i64 0] 24)).alloc (.cells #[.int .i64 0,.int .i64 0] 86)) := by
 refine ⟨(((row_at (vs := [x0,x1,x2]) rfl).alloc _).alloc _).alloc _,((row_at (vs := [y0,y1,y2,y3,y4]) (by simp)).alloc _).alloc _,⟨[.slice none 0 0,.slice none 0 0,.int .i64 0],(row_at (vs := [.slice none 0 0,.slice none 0 0,.int .i64 0]) (by simp)).alloc _,rfl⟩,⟨[.int .i64 0,.int .i64 0],row_at (vs := [.int .i64 0,.int .i64 0]) (by simp),rfl⟩,?_⟩
 exact ((((Below.refl _ _).alloc (Nat.le_refl _) _).alloc (by simp) _).alloc (by simp; omega) _).alloc (by simp; omega) _
theorem RS_drewN {w:World} {x0 x1 x2 y0 y1 y2 y3 y4:Value} {W:World} (h:RS w x0 x1 x2 y0 y1 y2 y3 y4 W) (n:Nat):RS w x0 x1 x2 y0 y1 y2 y3 y4 (W.drewN n) := ⟨h.d,h.m,h.rd,h.ra,below_drewN h.bel n⟩
theorem Row_drewN {w:World} {g:Nat} {t:TypeId} {vs:List Value} (h:Row w g t vs) (n:Nat):Row (w.drewN n) g t vs := h
structure RT (w:World) (x0 x1 x2 y0 y1 y2 y3 y4:Value) (gu gs:Nat) (p0 p1 q0 q1:Value) (W:World):Prop where
 rs:RS w x0 x1 x2 y0 y1 y2 y3 y4 W
 u:Row W gu 86 [p0,p1]
 s:Row W gs 86 [q0,q1]
 lu:w.heap.size + 1 + 1 + 1 < gu
 ls:w.heap.size + 1 + 1 + 1 < gs
section
variable {w:World} {x0 x1 x2 y0 y1 y2 y3 y4:Value} {gu gs:Nat} {p0 p1 q0 q1:Value} {W W':World}
theorem RT.drew (h:RT w x0 x1 x2 y0 y1 y2 y3 y4 gu gs p0 p1 q0 q1 W):RT w x0 x1 x2 y0 y1 y2 y3 y4 gu gs p0 p1 q0 q1 W.drew := ⟨h.rs.drew,h.u,h.s,h.lu,h.ls⟩
theorem RT.below (h:RT w x0 x1 x2 y0 y1 y2 y3 y4 gu gs p0 p1 q0 q1 W) (hb:Below W.heap.size W W'):RT w x0 x1 x2 y0 y1 y2 y3 y4 gu gs p0 p1 q0 q1 W' := ⟨h.rs.below hb,h.u.below hb,h.s.below hb,h.lu,h.ls⟩
theorem RT.alloc (h:RT w x0 x1 x2 y0 y1 y2 y3 y4 gu gs p0 p1 q0 q1 W) (o:Obj):RT w x0 x1 x2 y0 y1 y2 y3 y4 gu gs p0 p1 q0 q1 (W.alloc o) := h.below ((Below.refl _ _).alloc (Nat.le_refl _) o)
theorem RT.setD (h:RT w x0 x1 x2 y0 y1 y2 y3 y4 gu gs p0 p1 q0 q1 W) (o:Nat) (v:Value):RT w x0 x1 x2 y0 y1 y2 y3 y4 gu gs p0 p1 q0 q1 (W.setCell ⟨w.heap.size + 1 + 1,o,none⟩ v) :=
 let ⟨vs,r1,l1⟩:=h.rs.rd
 let ⟨us,r2,l2⟩:=h.rs.ra
 have a:=h.lu
 have b:=h.ls
 ⟨⟨h.rs.d.other (by show _ ≠ w.heap.size + 1 + 1; omega) v,h.rs.m.other (by show _ ≠ w.heap.size + 1 + 1; omega) v,⟨vs.set o v,r1.set o v,by rw [List.length_set,l1]⟩,⟨us,r2.other (by show _ ≠ w.heap.size + 1 + 1; omega) v,l2⟩,h.rs.bel.setCell (by show _ ≤ w.heap.size + 1 + 1; omega) v⟩,
  h.u.other (by show _ ≠ w.heap.size + 1 + 1; omega) v,h.s.other (by show _ ≠ w.heap.size + 1 + 1; omega) v,h.lu,h.ls⟩
theorem RT.setA (h:RT w x0 x1 x2 y0 y1 y2 y3 y4 gu gs p0 p1 q0 q1 W) (o:Nat) (v:Value):RT w x0 x1 x2 y0 y1 y2 y3 y4 gu gs p0 p1 q0 q1 (W.setCell ⟨w.heap.size + 1 + 1 + 1,o,none⟩ v) :=
 let ⟨vs,r1,l1⟩:=h.rs.rd
 let ⟨us,r2,l2⟩:=h.rs.ra
 have a:=h.lu
 have b:=h.ls
 ⟨⟨h.rs.d.other (by show _ ≠ w.heap.size + 1 + 1 + 1; omega) v,h.rs.m.other (by show _ ≠ w.heap.size + 1 + 1 + 1; omega) v,⟨vs,r1.other (by show _ ≠ w.heap.size + 1 + 1 + 1; omega) v,l1⟩,⟨us.set o v,r2.set o v,by rw [List.length_set,l2]⟩,h.rs.bel.setCell (by show _ ≤ w.heap.size + 1 + 1 + 1; omega) v⟩,
  h.u.other (by show _ ≠ w.heap.size + 1 + 1 + 1; omega) v,h.s.other (by show _ ≠ w.heap.size + 1 + 1 + 1; omega) v,h.lu,h.ls⟩
theorem RT.all (h:RT w x0 x1 x2 y0 y1 y2 y3 y4 gu gs p0 p1 q0 q1 W):W.cell? ⟨w.heap.size,0,none⟩ = some x0 ∧ W.cell? ⟨w.heap.size,1,none⟩ = some x1 ∧ W.cell? ⟨w.heap.size,2,none⟩ = some x2 ∧ W.cell? ⟨gs,0,none⟩ = some q0 ∧ W.cell? ⟨gs,1,none⟩ = some q1 ∧ W.cell? ⟨gu,0,none⟩ = some p0 ∧ W.cell? ⟨gu,1,none⟩ = some p1 ∧
 W.cell? ⟨w.heap.size + 1 + 1,0,none⟩ = some (cv W ⟨w.heap.size + 1 + 1,0,none⟩) ∧ W.cell? ⟨w.heap.size + 1 + 1,1,none⟩ = some (cv W ⟨w.heap.size + 1 + 1,1,none⟩) ∧ W.cell? ⟨w.heap.size + 1 + 1,2,none⟩ = some (cv W ⟨w.heap.size + 1 + 1,2,none⟩) ∧
 W.cell? ⟨w.heap.size + 1 + 1 + 1,0,none⟩ = some (cv W ⟨w.heap.size + 1 + 1 + 1,0,none⟩) ∧ W.cell? ⟨w.heap.size + 1 + 1 + 1,1,none⟩ = some (cv W ⟨w.heap.size + 1 + 1 + 1,1,none⟩) ∧
 (∀ o,W.frozen? ⟨w.heap.size + 1 + 1,o,none⟩ = false) ∧ (∀ o,W.frozen? ⟨w.heap.size + 1 + 1 + 1,o,none⟩ = false) ∧ RT w x0 x1 x2 y0 y1 y2 y3 y4 gu gs p0 p1 q0 q1 W := by
 obtain ⟨vs,r1,l1⟩:=h.rs.rd
 obtain ⟨us,r2,l2⟩:=h.rs.ra
 obtain ⟨d0,d1,d2,_⟩:=box3 h.rs.d
 obtain ⟨s0,s1,_⟩:=box2 h.s
 obtain ⟨u0,u1,_⟩:=box2 h.u
 exact ⟨d0,d1,d2,s0,s1,u0,u1,cv_some (r1.cell (i := 0) (by omega)),cv_some (r1.cell (i := 1) (by omega)),cv_some (r1.cell (i := 2) (by omega)),cv_some (r2.cell (i := 0) (by omega)),cv_some (r2.cell (i := 1) (by omega)),r1.free,r2.free,h⟩
end
theorem fin5 {W:World} {gd ga:Nat} {vs us:List Value} (h1:Row W gd 24 vs) (h2:Row W ga 86 us) (l1:vs.length = 3) (l2:us.length = 2) (hne:gd ≠ ga) (y0 y1 y2 z0 z1:Value) :
 (((((W.setCell ⟨gd,0,none⟩ y0).setCell ⟨gd,1,none⟩ y1).setCell ⟨gd,2,none⟩ y2).setCell ⟨ga,0,none⟩ z0).setCell ⟨ga,1,none⟩ z1).cell? ⟨gd,0,none⟩ = some y0 ∧ (((((W.setCell ⟨gd,0,none⟩ y0).setCell ⟨gd,1,none⟩ y1).setCell ⟨gd,2,none⟩ y2).setCell ⟨ga,0,none⟩ z0).setCell ⟨ga,1,none⟩ z1).cell? ⟨gd,1,none⟩ = some y1 ∧ (((((W.setCell ⟨gd,0,none⟩ y0).setCell ⟨gd,1,none⟩ y1).setCell ⟨gd,2,none⟩ y2).setCell ⟨ga,0,none⟩ z0).setCell ⟨ga,1,none⟩ z1).cell? ⟨gd,2,none⟩ = some y2 ∧
 (((((W.setCell ⟨gd,0,none⟩ y0).setCell ⟨gd,1,none⟩ y1).setCell ⟨gd,2,none⟩ y2).setCell ⟨ga,0,none⟩ z0).setCell ⟨ga,1,none⟩ z1).cell? ⟨ga,0,none⟩ = some z0 ∧ (((((W.setCell ⟨gd,0,none⟩ y0).setCell ⟨gd,1,none⟩ y1).setCell ⟨gd,2,none⟩ y2).setCell ⟨ga,0,none⟩ z0).setCell ⟨ga,1,none⟩ z1).cell? ⟨ga,1,none⟩ = some z1 := by
 obtain ⟨a,b,c,rfl⟩:∃ a b c,vs = [a,b,c] := by
  match vs,l1 with
  | [a,b,c],_ => exact ⟨a,b,c,rfl⟩
 obtain ⟨a',b',rfl⟩:∃ a b,us = [a,b] := by
  match us,l2 with
  | [a,b],_ => exact ⟨a,b,rfl⟩
 have r1:=((((h1.set 0 y0).set 1 y1).set 2 y2).other (a := ⟨ga,0,none⟩) hne z0).other (a := ⟨ga,1,none⟩) hne z1
 have r2:=((((h2.other (a := ⟨gd,0,none⟩) (Ne.symm hne) y0).other (a := ⟨gd,1,none⟩) (Ne.symm hne) y1).other (a := ⟨gd,2,none⟩) (Ne.symm hne) y2).set 0 z0).set 1 z1
 exact ⟨r1.cell (i := 0) (by simp),r1.cell (i := 1) (by simp),r1.cell (i := 2) (by simp),r2.cell (i := 0) (by simp),r2.cell (i := 1) (by simp)⟩
theorem own_base {w:World} {base base':Nat} {e:TypeId} {v:Value} {n:Nat} {xs:List Value} (h:w.ownsRow base e 1 v n xs) (hle:base' ≤ base):w.ownsRow base' e 1 v n xs := own_keep h (Below.refl _ _) hle
theorem two_ints (W:World) (a b:Int):IntsAt (W.alloc (.cells #[.int .i64 a,.int .i64 b] 3)).drew (some ⟨W.heap.size,0,none⟩) 2 [a,b] := by
 refine IntsAt.drew ⟨rfl,fun _ => ⟨_,0,rfl,fun j u hu => ?_⟩⟩
 have h:=heap_alloc_new W (.cells #[.int .i64 a,.int .i64 b] 3)
 match j,hu with
 | 0,hu => simp at hu; subst hu; exact (Lib.cell_of_heap h 0).trans rfl
 | 1,hu => simp at hu; subst hu; exact (Lib.cell_of_heap h 1).trans rfl
def RaisedPost (d:Pl.Dg) (x y:Int) (ov:Bool) (w:World) (e:Ending) (w':World):Prop :=
 ∃ g1 c1 g2 c2 : Nat, e = .returned (.tuple #[.agg #[.slice (some ⟨g1, 0, none⟩) (d.n + 2) c1, .slice (some ⟨g2, 0, none⟩) (4 * d.n + 8) c2, .int .i64 (d.lp : Int)], .agg #[.int .i64 (un0 d x y ov : Nat), .int .i64 (un1 d x y ov : Nat)]]) ∧
   w'.ownsRow w.heap.size 3 1 (.slice (some ⟨g1,0,none⟩) (d.n + 2) c1) (d.n + 2) ((d.sg ++ [sgn2 (un0 d x y ov) (ov0 d x y ov),sgn2 (un1 d x y ov) (ov1 d x y ov)]).map (.int .i64)) ∧ OwnN w' w.heap.size g2 (4 * d.n + 8) c2 (d.mt ++ List.replicate 8 0) ∧ g1 ≠ g2 ∧ Below w.heap.size w w'
set_option maxRecDepth 100000 in
set_option maxHeartbeats 4000000 in
theorem raised_any (d:Pl.Dg) (hd:Pl.Wf d) (A B:Option Addr) (cp cq m:Nat) (k x y sg:Int) (ov:Bool) (w:World) (hm:m = 4 * d.n) (hg:DgAt w A B d) (hx:x < 4 * (d.n:Int)) (hy:y < 4 * (d.n:Int)) :
 Calls Try.prog 85 #[.agg #[.slice A d.n cp,.slice B m cq,.int .i64 d.lp],.agg #[.int .i64 k,.int .i64 x,.int .i64 y,.int .i64 sg,.bool ov]] w (RaisedPost d x y ov w) := by
 have hn:=hd.few
 have HM:=hide hm
 have HG:=hide hg
 have hm2:m ≤ 256:=by omega
 clear hm hg
 have RS0:=hide (rs_start w (.slice A d.n cp) (.slice B m cq) (.int .i64 (d.lp:Int)) (.int .i64 k) (.int .i64 x) (.int .i64 y) (.int .i64 sg) (.bool ov))
 go_enter Try.func85,Try.ntmps85
 go_wp2_with fail
 refine (forward_any d A B cp m cq (.int .i64 (d.lp:Int)) y _ hy (by omega) ((HG.out.keep (RS0.out.alloc _).bel).s)).mono ?_
 rintro e w1 ⟨rfl,hb1⟩
 have RS1:=hide ((RS0.out.alloc (.cells #[.int .i64 0,.int .i64 0] 86)).below hb1)
 have L1:=hide (show Row w1 (w.heap.size + 1 + 1 + 1 + 1) 86 [.int .i64 0,.int .i64 0] from (row_at (vs := [.int .i64 0,.int .i64 0]) (by simp)).below hb1)
 clear hb1
 obtain ⟨l0,hl0⟩:∃ l0,l0 = lnS d y := ⟨_,rfl⟩
 obtain ⟨t0,ht0⟩:∃ t0,t0 = th0 d x := ⟨_,rfl⟩
 obtain ⟨t1,ht1⟩:∃ t1,t1 = th1 d x := ⟨_,rfl⟩
 have HL0:=hide hl0
 have HT0:=hide ht0
 have HT1:=hide ht1
 have bl0:l0 < 4:=by rw [hl0]; unfold lnS; split <;> omega
 have bt0:t0 < 4:=by rw [ht0]; unfold th0; split <;> omega
 have bt1:t1 < 4:=by rw [ht1]; unfold th1; split <;> omega
 clear hl0 ht0 ht1
 go_upto_if 17 with fail
 go_cut [18] (fun _ wx => RS w (.slice A d.n cp) (.slice B m cq) (.int .i64 (d.lp:Int)) (.int .i64 k) (.int .i64 x) (.int .i64 y) (.int .i64 sg) (.bool ov) wx ∧ Row wx (w.heap.size + 1 + 1 + 1 + 1) 86 [.int .i64 (l0:Int),.int .i64 (l0:Int)])
 case first =>
  have hbig:=RS1.out.big
  obtain ⟨a0,a1,a2⟩:=box2 L1.out
  cases hfy:fwd d y with
  | true =>
    have e0:l0 = 0:=by rw [HL0.out]; unfold lnS; rw [if_pos hfy]
    have E0:=hide e0
    clear e0 hfy
    go_wp2_with fail
    go_meet
    exact ⟨RS1.out,by rw [E0.out]; exact L1.out⟩
  | false =>
    have e0:l0 = 2:=by rw [HL0.out]; unfold lnS; rw [if_neg (by rw [hfy]; decide)]
    have E0:=hide e0
    clear e0 hfy
    go_wp2_with fail
    go_meet
    exact ⟨(RS1.out.far (by omega) _ _).far (by omega) _ _,by rw [E0.out]; exact (L1.out.set 0 (.int .i64 2)).set 1 (.int .i64 2)⟩
 case rest =>
  obtain ⟨hrs,hl⟩:=hcut
  have RS2:=hide hrs
  have L2:=hide hl
  clear hrs hl RS1 L1 RS0
  obtain ⟨f0,f1,f2,f3⟩:=box3 RS2.out.d
  obtain ⟨m0,m1,m2',m3,m4,m5⟩:=box5 RS2.out.m
  have hbg:=RS2.out.big
  have hlt:=L2.out.lt
  have q1:w.heap.size < wc.heap.size:=by omega
  have q2:w.heap.size + 1 < wc.heap.size:=by omega
  go_wp2_with fail
  refine (forward_any d A B cp m cq (.int .i64 (d.lp:Int)) x _ hx (by omega) ((HG.out.keep (RS2.out.alloc _).bel).s)).mono ?_
  rintro e w2 ⟨rfl,hb2⟩
  have RS3:=hide ((RS2.out.alloc (.cells #[.int .i64 3,.int .i64 1] 86)).below hb2)
  have L3:=hide ((L2.out.alloc (.cells #[.int .i64 3,.int .i64 1] 86)).below hb2)
  have T3:=hide (show Row w2 wc.heap.size 86 [.int .i64 3,.int .i64 1] from (row_at (vs := [.int .i64 3,.int .i64 1]) rfl).below hb2)
  clear hb2 f0 f1 f2 f3 m0 m1 m2' m3 m4 m5
  obtain ⟨gt,hgt⟩:∃ gt,gt = wc.heap.size := ⟨_,rfl⟩
  rw [← hgt] at T3 hbg hlt ⊢
  clear hgt q1 q2 RS2 L2
  go_upto_if 24 with fail
  go_cut [25] (fun _ wx => RS w (.slice A d.n cp) (.slice B m cq) (.int .i64 (d.lp:Int)) (.int .i64 k) (.int .i64 x) (.int .i64 y) (.int .i64 sg) (.bool ov) wx ∧ Row wx (w.heap.size + 1 + 1 + 1 + 1) 86 [.int .i64 (l0:Int),.int .i64 (l0:Int)] ∧ Row wx gt 86 [.int .i64 (t0:Int),.int .i64 (t1:Int)])
  case first =>
   obtain ⟨a0,a1,a2⟩:=box2 T3.out
   cases hfx:fwd d x with
   | true =>
     have e0:t0 = 3:=by rw [HT0.out]; unfold th0; rw [if_pos hfx]
     have e1:t1 = 1:=by rw [HT1.out]; unfold th1; rw [if_pos hfx]
     have E0:=hide e0
     have E1:=hide e1
     clear e0 e1 hfx
     go_wp2_with fail
     go_meet
     exact ⟨RS3.out,L3.out,by rw [E0.out,E1.out]; exact T3.out⟩
   | false =>
     have e0:t0 = 1:=by rw [HT0.out]; unfold th0; rw [if_neg (by rw [hfx]; decide)]
     have e1:t1 = 3:=by rw [HT1.out]; unfold th1; rw [if_neg (by rw [hfx]; decide)]
     have E0:=hide e0
     have E1:=hide e1
     clear e0 e1 hfx
     go_wp2_with fail
     go_meet
     exact ⟨(RS3.out.far (by omega) _ _).far (by omega) _ _,(L3.out.other (by show _ ≠ gt; omega) _).other (by show _ ≠ gt; omega) _,by rw [E0.out,E1.out]; exact (T3.out.set 0 (.int .i64 1)).set 1 (.int .i64 3)⟩
  case rest =>
   obtain ⟨hrs,hl,ht⟩:=hcut
   have RS4:=hide hrs
   have L4:=hide hl
   have T4:=hide ht
   clear hrs hl ht RS3 L3 T3
   go_upto_region 7 with fail
   obtain ⟨gl,hgl⟩:∃ gl,gl = w.heap.size + 1 + 1 + 1 + 1 := ⟨_,rfl⟩
   rw [← hgl] at L4 hlt ⊢
   have hgl2:w.heap.size + 1 + 1 + 1 < gl:=by omega
   have hgtl:gt ≠ gl:=by omega
   clear hgl
   obtain ⟨a0,a1,a2⟩:=box2 L4.out
   obtain ⟨b0,b1,b2⟩:=box2 T4.out
   have ll:=L4.out.lt
   have lt:=T4.out.lt
   go_cut [8,9] (fun s8 s9 wx => ∃ gu go:Nat,s8 = .pointer (some ⟨gu,0,none⟩) ∧ s9 = .pointer (some ⟨go,0,none⟩) ∧ RS w (.slice A d.n cp) (.slice B m cq) (.int .i64 (d.lp:Int)) (.int .i64 k) (.int .i64 x) (.int .i64 y) (.int .i64 sg) (.bool ov) wx ∧ Row wx gl 86 [.int .i64 (l0:Int),.int .i64 (l0:Int)] ∧ Row wx gt 86 [.int .i64 (t0:Int),.int .i64 (t1:Int)] ∧ Row wx gu 86 [.int .i64 (t0:Int),.int .i64 (t1:Int)] ∧ Row wx go 86 [.int .i64 (l0:Int),.int .i64 (l0:Int)] ∧ gl < gu ∧ gt < gu ∧ gl < go ∧ gt < go ∧ gu ≠ go)
   case first =>
    go_region
    all_goals (go_wp2_with fail; go_meet)
    ·exact ⟨wc.heap.size,wc.heap.size + 1,rfl,rfl,((RS4.out.alloc _).alloc _).drew,((L4.out.alloc _).alloc _).drew,((T4.out.alloc _).alloc _).drew,((row_at (vs := [.int .i64 (t0:Int),.int .i64 (t1:Int)]) rfl).alloc _).drew,(row_at (vs := [.int .i64 (l0:Int),.int .i64 (l0:Int)]) (by simp)).drew,by omega,by omega,by omega,by omega,by omega⟩
    ·exact ⟨wc.heap.size + 1,wc.heap.size,rfl,rfl,((RS4.out.alloc _).alloc _).drew,((L4.out.alloc _).alloc _).drew,((T4.out.alloc _).alloc _).drew,(row_at (vs := [.int .i64 (t0:Int),.int .i64 (t1:Int)]) (by simp)).drew,((row_at (vs := [.int .i64 (l0:Int),.int .i64 (l0:Int)]) rfl).alloc _).drew,by omega,by omega,by omega,by omega,by omega⟩
   case rest =>
    obtain ⟨gu,go,rfl,rfl,hrs,hl,ht,hu,ho,i1,i2,i3,i4,i5⟩:=hcut
    have RS5:=hide hrs
    have L5:=hide hl
    have T5:=hide ht
    have U5:=hide hu
    have O5:=hide ho
    clear hrs hl ht hu ho a0 a1 a2 b0 b1 b2 RS4 L4 T4
    obtain ⟨u0,hu0⟩:∃ u,u = un0 d x y ov := ⟨_,rfl⟩
    obtain ⟨u1,hu1⟩:∃ u,u = un1 d x y ov := ⟨_,rfl⟩
    obtain ⟨o0,ho0⟩:∃ u,u = ov0 d x y ov := ⟨_,rfl⟩
    obtain ⟨o1,ho1⟩:∃ u,u = ov1 d x y ov := ⟨_,rfl⟩
    have U0:=hide hu0
    have U1:=hide hu1
    have O0:=hide ho0
    have O1:=hide ho1
    clear hu0 hu1 ho0 ho1
    obtain ⟨m0,m1,m2',m3,m4,m5⟩:=box5 RS5.out.m
    go_upto_if 29 with fail
    go_cut [30,31] (fun _ _ wx => RS w (.slice A d.n cp) (.slice B m cq) (.int .i64 (d.lp:Int)) (.int .i64 k) (.int .i64 x) (.int .i64 y) (.int .i64 sg) (.bool ov) wx ∧ Row wx gu 86 [.int .i64 (u0:Int),.int .i64 (u1:Int)] ∧ Row wx go 86 [.int .i64 (o0:Int),.int .i64 (o1:Int)])
    case first =>
     clear m0 m1 m2' m3 m4 m5
     obtain ⟨a0,a1,a2⟩:=box2 L5.out
     obtain ⟨b0,b1,b2⟩:=box2 T5.out
     obtain ⟨c0,c1,c2⟩:=box2 U5.out
     obtain ⟨e0,e1,e2⟩:=box2 O5.out
     have z1:gl ≠ gu:=by omega
     have z2:gt ≠ gu:=by omega
     have z3:gl ≠ go:=by omega
     have z4:gt ≠ go:=by omega
     have z5:go ≠ gu:=by omega
     cases ov with
     | true =>
       have V:=hide (show u0 = l0 ∧ u1 = l0 ∧ o0 = t0 ∧ o1 = t1 from ⟨by rw [U0.out,HL0.out]; rfl,by rw [U1.out,HL0.out]; rfl,by rw [O0.out,HT0.out]; rfl,by rw [O1.out,HT1.out]; rfl⟩)
       go_wp2_with fail
       go_region
       all_goals (go_wp2_with fail; go_meet)
       all_goals exact ⟨((((RS5.out.far (by omega) _ _).far (by omega) _ _).far (by omega) _ _).far (by omega) _ _).drew,by rw [V.out.1,V.out.2.1]; exact ((((U5.out.set 0 (.int .i64 (l0:Int))).set 1 (.int .i64 (l0:Int))).other (by show _ ≠ go; omega) _).other (by show _ ≠ go; omega) _).drew,by rw [V.out.2.2.1,V.out.2.2.2]; exact ((((O5.out.other (by show _ ≠ gu; omega) _).other (by show _ ≠ gu; omega) _).set 0 (.int .i64 (t0:Int))).set 1 (.int .i64 (t1:Int))).drew⟩
     | false =>
       have V:=hide (show u0 = t0 ∧ u1 = t1 ∧ o0 = l0 ∧ o1 = l0 from ⟨by rw [U0.out,HT0.out]; rfl,by rw [U1.out,HT1.out]; rfl,by rw [O0.out,HL0.out]; rfl,by rw [O1.out,HL0.out]; rfl⟩)
       go_wp2_with fail
       go_meet
       exact ⟨RS5.out,by rw [V.out.1,V.out.2.1]; exact U5.out,by rw [V.out.2.2.1,V.out.2.2.2]; exact O5.out⟩
    case rest =>
     obtain ⟨hrs,hu,ho⟩:=hcut
     have RS6:=hide hrs
     have U6:=hide hu
     have O6:=hide ho
     clear hrs hu ho RS5 L5 T5 U5 O5
     have u4:u0 < 4 ∧ u1 < 4 ∧ o0 < 4 ∧ o1 < 4:=by
      rw [U0.out,U1.out,O0.out,O1.out]
      unfold un0 un1 ov0 ov1
      rw [← HL0.out,← HT0.out,← HT1.out]
      cases ov <;> simp <;> omega
     obtain ⟨v0,v1,v2,v3⟩:=u4
     have hbu:=U6.out.lt
     have hbo:=O6.out.lt
     have RS7:=hide (RS6.out.alloc (.cells #[.int .i64 0,.int .i64 0] 86))
     have U7:=hide (U6.out.alloc (.cells #[.int .i64 0,.int .i64 0] 86))
     have O7:=hide (O6.out.alloc (.cells #[.int .i64 0,.int .i64 0] 86))
     have S7:=hide (show Row (wc.alloc (.cells #[.int .i64 0,.int .i64 0] 86)) wc.heap.size 86 [.int .i64 0,.int .i64 0] from row_at (vs := [.int .i64 0,.int .i64 0]) rfl)
     go_wp2_with fail
     obtain ⟨gs,hgs⟩:∃ gs,gs = wc.heap.size := ⟨_,rfl⟩
     rw [← hgs] at S7 hbu hbo ⊢
     clear hgs RS6 U6 O6
     go_loopg [32] 2 (fun g i wx => ∃ k':Nat,k' + g = 2 ∧ i = .int .i64 k' ∧ RS w (.slice A d.n cp) (.slice B m cq) (.int .i64 (d.lp:Int)) (.int .i64 k) (.int .i64 x) (.int .i64 y) (.int .i64 sg) (.bool ov) wx ∧ Row wx gu 86 [.int .i64 (u0:Int),.int .i64 (u1:Int)] ∧ Row wx go 86 [.int .i64 (o0:Int),.int .i64 (o1:Int)] ∧ Row wx gs 86 [.int .i64 (if 0 < k' then sgn2 u0 o0 else 0),.int .i64 (if 1 < k' then sgn2 u1 o1 else 0)])
     case atStart => exact ⟨0,rfl,rfl,RS7.out,U7.out,O7.out,by simpa using S7.out⟩
     case round =>
      clear RS7 U7 O7 S7
      obtain ⟨k',hkg,rfl,hrs,hu,ho,hs⟩:=hrel
      have HKG:=hide hkg
      have RG:=hide hrs
      have UG:=hide hu
      have OG:=hide ho
      have hk4:k' = 0 ∨ k' = 1 ∨ k' = 2:=by omega
      clear hkg hrs hu ho
      rcases hk4 with rfl | rfl | rfl
      all_goals
       simp only [Nat.lt_irrefl,Nat.not_lt_zero,Nat.zero_lt_one,show (0:Nat) < 2 by omega,show (1:Nat) < 2 by omega,show ¬ (1:Nat) < 0 by omega,if_true,if_false] at hs
       have SG:=hide hs
       clear hs
      ·obtain ⟨s0,s1,s2⟩:=box2 SG.out
       obtain ⟨c0,c1,c2⟩:=box2 UG.out
       obtain ⟨e0,e1,e2⟩:=box2 OG.out
       have z6:gu ≠ gs:=by omega
       have z7:go ≠ gs:=by omega
       go_upto_region 15 with fail
       go_quiet ((go_at_call 87; exact Calls.quiet_of_same (place_i 0 (u0:Int) (o0:Int) _ (by omega) (by omega) (by omega))))
       have ep:(plc (0:Int).toNat (u0:Int).toNat (o0:Int).toNat) = plc 0 u0 o0:=by rw [Int.toNat_natCast,Int.toNat_natCast]; rfl
       rw [ep]
       have RSn:=hide (RS_drewN (RG.out.far (g := gs) (by omega) 0 (.int .i64 (-1))) nq)
       have Un:=hide (Row_drewN (UG.out.other (a := ⟨gs,0,none⟩) z6 (.int .i64 (-1))) nq)
       have On:=hide (Row_drewN (OG.out.other (a := ⟨gs,0,none⟩) z7 (.int .i64 (-1))) nq)
       have Sn:=hide (Row_drewN (SG.out.set 0 (.int .i64 (-1))) nq)
       clear ep s0 s1 s2 c0 c1 c2 e0 e1 e2 z6 z7
       obtain ⟨Wn,hWn⟩:∃ Wn,Wn = (wr.setCell ⟨gs,0,none⟩ (.int .i64 (-1))).drewN nq := ⟨_,rfl⟩
       rw [← hWn] at RSn Un On Sn ⊢
       clear hWn
       obtain ⟨pp,hpp⟩:∃ pp,pp = plc 0 u0 o0 := ⟨_,rfl⟩
       rw [← hpp]
       have HPP:=hide hpp
       clear hpp
       obtain ⟨s0,s1,s2⟩:=box2 Sn.out
       by_cases h3:pp = 3
       ·have t3:((pp:Int) == 3) = true:=by rw [beq_iff_eq]; omega
        have HS3:=hide (show sgn2 u0 o0 = 1 by unfold sgn2; rw [← HPP.out,if_pos h3])
        clear h3
        go_wp2_with fail
        go_roundg 1
        case measure => have := HKG.out; omega
        case rel => exact ⟨1,rfl,by go_num,RSn.out.far (by omega) _ _,Un.out.other (by show _ ≠ gs; omega) _,On.out.other (by show _ ≠ gs; omega) _,by simpa [HS3.out] using Sn.out.set 0 (.int .i64 1)⟩
       ·have t3:((pp:Int) == 3) = false:=by rw [beq_eq_false_iff_ne]; omega
        have HS3:=hide (show sgn2 u0 o0 = -1 by unfold sgn2; rw [← HPP.out,if_neg h3])
        clear h3
        go_wp2_with fail
        go_roundg 1
        case measure => have := HKG.out; omega
        case rel => exact ⟨1,rfl,by go_num,RSn.out,Un.out,On.out,by simpa [HS3.out] using Sn.out⟩
      ·obtain ⟨s0,s1,s2⟩:=box2 SG.out
       obtain ⟨c0,c1,c2⟩:=box2 UG.out
       obtain ⟨e0,e1,e2⟩:=box2 OG.out
       have z6:gu ≠ gs:=by omega
       have z7:go ≠ gs:=by omega
       go_upto_region 15 with fail
       go_quiet ((go_at_call 87; exact Calls.quiet_of_same (place_i 0 (u1:Int) (o1:Int) _ (by omega) (by omega) (by omega))))
       have ep:(plc (0:Int).toNat (u1:Int).toNat (o1:Int).toNat) = plc 0 u1 o1:=by rw [Int.toNat_natCast,Int.toNat_natCast]; rfl
       rw [ep]
       have RSn:=hide (RS_drewN (RG.out.far (g := gs) (by omega) 1 (.int .i64 (-1))) nq)
       have Un:=hide (Row_drewN (UG.out.other (a := ⟨gs,1,none⟩) z6 (.int .i64 (-1))) nq)
       have On:=hide (Row_drewN (OG.out.other (a := ⟨gs,1,none⟩) z7 (.int .i64 (-1))) nq)
       have Sn:=hide (Row_drewN (SG.out.set 1 (.int .i64 (-1))) nq)
       clear ep s0 s1 s2 c0 c1 c2 e0 e1 e2 z6 z7
       obtain ⟨Wn,hWn⟩:∃ Wn,Wn = (wr.setCell ⟨gs,1,none⟩ (.int .i64 (-1))).drewN nq := ⟨_,rfl⟩
       rw [← hWn] at RSn Un On Sn ⊢
       clear hWn
       obtain ⟨pp,hpp⟩:∃ pp,pp = plc 0 u1 o1 := ⟨_,rfl⟩
       rw [← hpp]
       have HPP:=hide hpp
       clear hpp
       obtain ⟨s0,s1,s2⟩:=box2 Sn.out
       by_cases h3:pp = 3
       ·have t3:((pp:Int) == 3) = true:=by rw [beq_iff_eq]; omega
        have HS3:=hide (show sgn2 u1 o1 = 1 by unfold sgn2; rw [← HPP.out,if_pos h3])
        clear h3
        go_wp2_with fail
        go_roundg 0
        case measure => have := HKG.out; omega
        case rel => exact ⟨2,rfl,by go_num,RSn.out.far (by omega) _ _,Un.out.other (by show _ ≠ gs; omega) _,On.out.other (by show _ ≠ gs; omega) _,by simpa [HS3.out] using Sn.out.set 1 (.int .i64 1)⟩
       ·have t3:((pp:Int) == 3) = false:=by rw [beq_eq_false_iff_ne]; omega
        have HS3:=hide (show sgn2 u1 o1 = -1 by unfold sgn2; rw [← HPP.out,if_neg h3])
        clear h3
        go_wp2_with fail
        go_roundg 0
        case measure => have := HKG.out; omega
        case rel => exact ⟨2,rfl,by go_num,RSn.out,Un.out,On.out,by simpa [HS3.out] using Sn.out⟩
      ·go_wp2_with fail
       obtain ⟨s0,hs0⟩:∃ s0,s0 = sgn2 u0 o0 := ⟨_,rfl⟩
       obtain ⟨s1,hs1⟩:∃ s1,s1 = sgn2 u1 o1 := ⟨_,rfl⟩
       rw [← hs0,← hs1] at SG
       have HS0:=hide hs0
       have HS1:=hide hs1
       clear hs0 hs1
       have RTG:=hide (show RT w (.slice A d.n cp) (.slice B m cq) (.int .i64 (d.lp:Int)) (.int .i64 k) (.int .i64 x) (.int .i64 y) (.int .i64 sg) (.bool ov) gu gs (.int .i64 (u0:Int)) (.int .i64 (u1:Int)) (.int .i64 s0) (.int .i64 s1) wr from ⟨RG.out,UG.out,SG.out,by omega,by omega⟩)
       have HGG:=hide (show DgAt (wr.alloc (.cells #[.int .i64 s0,.int .i64 s1] 3)).drew A B d from (HG.out.keep RG.out.bel).keep (((Below.refl _ _).alloc (Nat.le_refl _) _).drew))
       have HII:=hide (two_ints wr s0 s1)
       clear RG UG OG SG
       go_region_held3 (fun w' => w'.cell? ⟨w.heap.size,0,none⟩ = some (.slice A d.n cp) ∧ w'.cell? ⟨w.heap.size,1,none⟩ = some (.slice B m cq) ∧ w'.cell? ⟨w.heap.size,2,none⟩ = some (.int .i64 (d.lp:Int)) ∧ w'.cell? ⟨gs,0,none⟩ = some (.int .i64 s0) ∧ w'.cell? ⟨gs,1,none⟩ = some (.int .i64 s1) ∧ w'.cell? ⟨gu,0,none⟩ = some (.int .i64 (u0:Int)) ∧ w'.cell? ⟨gu,1,none⟩ = some (.int .i64 (u1:Int)) ∧
        w'.cell? ⟨w.heap.size + 1 + 1,0,none⟩ = some (cv w' ⟨w.heap.size + 1 + 1,0,none⟩) ∧ w'.cell? ⟨w.heap.size + 1 + 1,1,none⟩ = some (cv w' ⟨w.heap.size + 1 + 1,1,none⟩) ∧ w'.cell? ⟨w.heap.size + 1 + 1,2,none⟩ = some (cv w' ⟨w.heap.size + 1 + 1,2,none⟩) ∧
        w'.cell? ⟨w.heap.size + 1 + 1 + 1,0,none⟩ = some (cv w' ⟨w.heap.size + 1 + 1 + 1,0,none⟩) ∧ w'.cell? ⟨w.heap.size + 1 + 1 + 1,1,none⟩ = some (cv w' ⟨w.heap.size + 1 + 1 + 1,1,none⟩) ∧
        (∀ o,w'.frozen? ⟨w.heap.size + 1 + 1,o,none⟩ = false) ∧ (∀ o,w'.frozen? ⟨w.heap.size + 1 + 1 + 1,o,none⟩ = false) ∧ RT w (.slice A d.n cp) (.slice B m cq) (.int .i64 (d.lp:Int)) (.int .i64 k) (.int .i64 x) (.int .i64 y) (.int .i64 sg) (.bool ov) gu gs (.int .i64 (u0:Int)) (.int .i64 (u1:Int)) (.int .i64 s0) (.int .i64 s1) w')
        ((go_split_ands; refine RT.all ?_; (repeat (first | (with_reducible assumption) | (with_reducible exact RTG.out) | (with_reducible refine RT.setD ?_ _ _) | (with_reducible refine RT.setA ?_ _ _) | (with_reducible refine RT.alloc ?_ _) | (with_reducible refine RT.drew ?_) | (with_reducible refine RT.below ?_ hb6)))))
        (first
          | (go_at_call 78
             refine Calls.mono (grown_any d A B cp cq 2 2 wr.heap.size m 8 [s0,s1] _ HM.out rfl ?_ ?_ (by omega) (by omega) (by omega)) ?_
             ·exact HGG.out
             ·exact HII.out
             rintro e w6 ⟨g1,c1,g2,c2,rfl,own1,own2,hne,hb6⟩
             have OWN1:=hide own1
             have OWN2:=hide own2
             clear own1 own2))
       all_goals
        have RT6:=hide (show RT w (.slice A d.n cp) (.slice B m cq) (.int .i64 (d.lp:Int)) (.int .i64 k) (.int .i64 x) (.int .i64 y) (.int .i64 sg) (.bool ov) gu gs (.int .i64 (u0:Int)) (.int .i64 (u1:Int)) (.int .i64 s0) (.int .i64 s1) w6 from by
         repeat (first | (with_reducible assumption) | (with_reducible exact RTG.out) | (with_reducible refine RT.alloc ?_ _) | (with_reducible refine RT.drew ?_) | (with_reducible refine RT.below ?_ hb6)))
        go_wp2
        obtain ⟨vs6,r6,l6⟩:=RT6.out.rs.rd
        obtain ⟨us6,t6,k6⟩:=RT6.out.rs.ra
        have hbw:=RTG.out.rs.big
        refine bodyPost_ret (v := .tuple #[.agg #[.slice (some ⟨g1,0,none⟩) (d.n + 2) c1,.slice (some ⟨g2,0,none⟩) (m + 8) c2,.int .i64 (d.lp:Int)],.agg #[.int .i64 (u0:Int),.int .i64 (u1:Int)]]) ?_ rfl ?_
        ·obtain ⟨e0,e1,e2,e3,e4⟩:=fin5 r6 t6 l6 k6 (by omega) (.slice (some ⟨g1,0,none⟩) (d.n + 2) c1) (.slice (some ⟨g2,0,none⟩) (m + 8) c2) (.int .i64 (d.lp:Int)) (.int .i64 (u0:Int)) (.int .i64 (u1:Int))
         simp [results,Try.results85,go_sem,e0,e1,e2,e3,e4]
        ·have hbase:w.heap.size + 1 + 1 + 1 < (wr.alloc (.cells #[.int .i64 s0,.int .i64 s1] 3)).drew.heap.size:=by simp; omega
         refine ⟨g1,c1,g2,c2,?_,?_,?_,hne,?_⟩
         ·rw [← U0.out,← U1.out,HM.out]
         ·rw [← U0.out,← U1.out,← O0.out,← O1.out,← HS0.out,← HS1.out]
          exact own_base (ownsRow_setCell_below (ownsRow_setCell_below (ownsRow_setCell_below (ownsRow_setCell_below (ownsRow_setCell_below OWN1.out (by show w.heap.size + 1 + 1 < _; omega) _) (by show w.heap.size + 1 + 1 < _; omega) _) (by show w.heap.size + 1 + 1 < _; omega) _) (by show w.heap.size + 1 + 1 + 1 < _; omega) _) (by show w.heap.size + 1 + 1 + 1 < _; omega) _) (by omega)
         ·rw [← HM.out]
          exact own_base (ownsRow_setCell_below (ownsRow_setCell_below (ownsRow_setCell_below (ownsRow_setCell_below (ownsRow_setCell_below OWN2.out (by show w.heap.size + 1 + 1 < _; omega) _) (by show w.heap.size + 1 + 1 < _; omega) _) (by show w.heap.size + 1 + 1 < _; omega) _) (by show w.heap.size + 1 + 1 + 1 < _; omega) _) (by show w.heap.size + 1 + 1 + 1 < _; omega) _) (by omega)
         ·exact ((((RT6.out.rs.bel.setCell (by show _ ≤ w.heap.size + 1 + 1; omega) _).setCell (by show _ ≤ w.heap.size + 1 + 1; omega) _).setCell (by show _ ≤ w.heap.size + 1 + 1; omega) _).setCell (by show _ ≤ w.heap.size + 1 + 1 + 1; omega) _).setCell (by show _ ≤ w.heap.size + 1 + 1 + 1; omega) _
end Go.Proofs.Ytobbepmlmbbamaa
end
section
namespace Go.Proofs.Ytobbepmlmbbamaa
open Go Go.RowKit
def lpv (d:Pl.Dg) (h:Nat):Int := if Pl.out d h then -2 else -1
def oldv (d:Pl.Dg) (x y h:Nat):Int := (Pl.shf [x,y] (d.m h):Nat)
theorem loopF_any (d:Pl.Dg) (hd:Pl.Wf d) (A B:Option Addr) (cp cq m g h:Nat) (w:World) (hr:Row w g 24 [.slice A d.n cp,.slice B m cq,.int .i64 (d.lp:Int)]) (hg:DgAt w A B d) (hh:h < 4 * d.n) :
 Calls Try.prog 127 #[.int .i64 (h:Int),.pointer (some ⟨g,0,none⟩)] w fun e w' => e = .returned (.int .i64 (lpv d h)) ∧ Below w.heap.size w w' := by
 obtain ⟨d0,d1,d2,d3⟩:=box3 hr
 have hn:=hd.few
 go_enter Try.func127,Try.ntmps127
 go_wp2_with fail
 refine (out2_n d A B d.n cp m cq (.int .i64 (d.lp:Int)) h _ rfl hh (by omega) hg.s).mono ?_
 rintro e w1 ⟨rfl,hb1⟩
 cases ho:Pl.out d h with
 | true =>
   have E:=hide (show lpv d h = -2 by unfold lpv; rw [ho]; rfl)
   clear ho
   go_wp2
   go_ret
   exact ⟨ret_int E.out.symm,hb1⟩
 | false =>
   have E:=hide (show lpv d h = -1 by unfold lpv; rw [ho]; rfl)
   clear ho
   go_wp2
   go_ret
   exact ⟨ret_int E.out.symm,hb1⟩
set_option maxRecDepth 100000 in
set_option maxHeartbeats 1000000 in
theorem oldF_any (d:Pl.Dg) (hd:Pl.Wf d) (A B:Option Addr) (cp cq m g gm x y h:Nat) (k sg:Int) (ov:Bool) (w:World) (hm:m = 4 * d.n) (hr:Row w g 24 [.slice A d.n cp,.slice B m cq,.int .i64 (d.lp:Int)]) (hrm:Row w gm 28 [.int .i64 k,.int .i64 (x:Int),.int .i64 (y:Int),.int .i64 sg,.bool ov]) (hg:DgAt w A B d) (hh:h < 4 * d.n) (hxy:x < y) :
 Calls Try.prog 128 #[.int .i64 (h:Int),.pointer (some ⟨g,0,none⟩),.pointer (some ⟨gm,0,none⟩)] w fun e w' => e = .returned (.int .i64 (oldv d x y h)) ∧ Below w.heap.size w w' := by
 obtain ⟨d0,d1,d2,d3⟩:=box3 hr
 obtain ⟨m0,m1,m2,m3,m4,m5⟩:=box5 hrm
 have hn:=hd.few
 have l1:=hr.lt
 have l2:=hrm.lt
 have hmh:h < m:=by omega
 have ih0:(0:Int) ≤ (h:Int):=by omega
 have ih1:(h:Int) < (m:Int):=by omega
 obtain ⟨mb,mo,rfl,cm⟩:=mate_at hg.m hh
 have l3:mb < w.heap.size:=lt_of_cell cm
 have hmm:=hd.lt h hh
 have E:=hide (show oldv d x y h = (Pl.shf [x,y] (d.m h):Nat) from rfl)
 obtain ⟨u,hu⟩:∃ u,u = d.m h := ⟨_,rfl⟩
 rw [← hu] at cm hmm E
 clear hu
 have HM:=hide hm
 have HG:=hide hg
 clear hm hg hr hrm
 go_enter Try.func128,Try.ntmps128
 go_wp2_with fail
 go_region_held3 (fun w' => w'.cell? ⟨g,1,none⟩ = some (.slice (some ⟨mb,mo,none⟩) m cq) ∧ w'.cell? ⟨mb,mo + h,none⟩ = some (.int .i64 (u:Int)) ∧ w'.cell? ⟨gm,1,none⟩ = some (.int .i64 (x:Int)) ∧ w'.cell? ⟨gm,2,none⟩ = some (.int .i64 (y:Int)))
  (first | go_keep | assumption | (exact ⟨by simpa [l1] using d1,by simpa [l3] using cm,by simpa [l2] using m1,by simpa [l2] using m2⟩))
  (first
    | (go_at_call 82
       refine Calls.mono (shifted_any [x,y] (some ⟨w.heap.size,0,none⟩) 2 2 u _ (by exact two_ints w (x:Int) (y:Int)) (by omega) (by omega) (Pl.few_two hxy)) ?_
       rintro e w4 ⟨rfl,rfl⟩))
 all_goals
  go_wp2
  go_ret
  refine ⟨ret_int ?_,?_⟩
  ·rw [E.out]
  ·exact ((Below.refl _ _).alloc (Nat.le_refl _) _).drew
end Go.Proofs.Ytobbepmlmbbamaa
end
