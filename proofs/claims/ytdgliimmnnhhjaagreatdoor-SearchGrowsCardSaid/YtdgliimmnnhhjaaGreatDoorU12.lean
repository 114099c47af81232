/-
  The texts Wl.
-/
import Derived.Test.YtdgliimmnnhhjaaGreatDoorU09
import Derived.Test.YtdgliimmnnhhjaaGreatDoorU10
set_option linter.unusedVariables false
set_option linter.unusedSimpArgs false
section
namespace Go.Proofs.YtdgliimmnnhhjaaGreatDoor
open Go Go.RowKit
structure Shk (w:World) (vS vM:Value) (ss:List Int) (ms:List Nat) (lp:Int) (W:World):Prop where
 res:Row W w.heap.size 24 [.slice none 0 0,.slice none 0 0,.int .i64 0]
 box:Row W (w.heap.size+1) 24 [vS,vM,.int .i64 lp]
 s:W.ownsRow (w.heap.size+2) 3 1 vS ss.length (ss.map (.int .i64))
 m:W.ownsRow (w.heap.size+2) 3 1 vM ms.length (ms.map (fun k:Nat=>Value.int .i64 k))
 ne:∀g,vS.ownBlock=some g→vM.ownBlock≠some g
 bel:Below w.heap.size w W
theorem Shk.big {w:World}{vS vM:Value}{ss:List Int}{ms:List Nat}{lp:Int}{W:World}(h:Shk w vS vM ss ms lp W):w.heap.size+2≤W.heap.size:=by have:=h.box.lt;omega
theorem Shk.below {w:World}{vS vM:Value}{ss:List Int}{ms:List Nat}{lp:Int}{W W':World}(h:Shk w vS vM ss ms lp W)(hb:Below W.heap.size W W'):Shk w vS vM ss ms lp W' :=
 ⟨h.res.below hb,h.box.below hb,own_keep h.s hb (Nat.le_refl _),own_keep h.m hb (Nat.le_refl _),h.ne,h.bel.trans (hb.mono (by have:=h.big;omega))⟩
theorem Shk.alloc {w:World}{vS vM:Value}{ss:List Int}{ms:List Nat}{lp:Int}{W:World}(h:Shk w vS vM ss ms lp W)(o:Obj):Shk w vS vM ss ms lp (W.alloc o):=h.below ((Below.refl _ _).alloc (Nat.le_refl _) o)
theorem row_apart {W:World}{g:Nat}{vs:List Value}{base:Nat}{v:Value}{n:Nat}{xs:List Value}(h:Row W g 24 vs)(ho:W.ownsRow base 3 1 v n xs):some g≠v.ownBlock:=by
 intro e
 obtain ⟨cs,fr,h3⟩:=ownsRow_block ho g e.symm
 rw [h] at h3
 injection h3 with h3
 injection h3 with _ h4
 exact absurd h4 (by decide)
theorem Shk.appS {w:World}{vS vM v':Value}{ss:List Int}{ms:List Nat}{lp x:Int}{W W2:World}(h:Shk w vS vM ss ms lp W)(own:W2.ownsRow (w.heap.size+2) 3 1 v' (ss.length+1) (ss.map (.int .i64)++[.int .i64 x]))(gr:W.grownBy W2 vS.ownBlock){g':Nat}(hv:v'.ownBlock=some g')(hat0:vS.ownBlock=some g'∨g'=W.heap.size) :
 Shk w v' vM (ss++[x]) ms lp (W2.setCell ⟨w.heap.size+1,0,none⟩ v'):=by
 have hat:v'.ownBlock=vS.ownBlock∨v'.ownBlock=some W.heap.size:=by
  rcases hat0 with e | e
  ·exact .inl (hv.trans e.symm)
  ·exact .inr (hv.trans (congrArg some e))
 have hlt:=h.s.lt
 have hlm:=h.m.lt
 refine ⟨(h.res.grown gr (row_apart h.res h.s)).other (by simp) _,(h.box.grown gr (row_apart h.box h.s)).set 0 v',?_,?_,?_,?_⟩
 ·refine ownsRow_setCell_below ?_ (by simp) _
  simpa using own
 ·refine ownsRow_setCell_below (h.m.kept gr ?_) (by simp) _
  cases hm:vM.ownBlock with
  | none=>exact .inl rfl
  | some g=>exact .inr (fun e=>h.ne g e.symm hm)
 ·intro g hg hm
  rcases hat with e | e
  ·exact h.ne g (e ▸ hg) hm
  ·rw [e] at hg
   injection hg with hg
   have:=(hlm g hm).2
   omega
 ·exact (h.bel.grown gr h.bel.size (fun k hk=>by have:=(hlt k hk).1;omega)).setCell (by simp) _
theorem Shk.appM {w:World}{vS vM v':Value}{ss:List Int}{ms:List Nat}{lp:Int}{x:Nat}{W W2:World}(h:Shk w vS vM ss ms lp W)(own:W2.ownsRow (w.heap.size+2) 3 1 v' (ms.length+1) (ms.map (fun k:Nat=>Value.int .i64 k)++[.int .i64 x]))(gr:W.grownBy W2 vM.ownBlock){g':Nat}(hv:v'.ownBlock=some g')(hat0:vM.ownBlock=some g'∨g'=W.heap.size) :
 Shk w vS v' ss (ms++[x]) lp (W2.setCell ⟨w.heap.size+1,1,none⟩ v'):=by
 have hat:v'.ownBlock=vM.ownBlock∨v'.ownBlock=some W.heap.size:=by
  rcases hat0 with e | e
  ·exact .inl (hv.trans e.symm)
  ·exact .inr (hv.trans (congrArg some e))
 have hlt:=h.s.lt
 have hlm:=h.m.lt
 refine ⟨(h.res.grown gr (row_apart h.res h.m)).other (by simp) _,(h.box.grown gr (row_apart h.box h.m)).set 1 v',?_,?_,?_,?_⟩
 ·refine ownsRow_setCell_below (h.s.kept gr ?_) (by simp) _
  cases hm:vS.ownBlock with
  | none=>exact .inl rfl
  | some g=>exact .inr (fun e=>h.ne g hm e.symm)
 ·refine ownsRow_setCell_below ?_ (by simp) _
  simpa using own
 ·intro g hg hm
  rcases hat with e | e
  ·exact h.ne g hg (e ▸ hm)
  ·rw [e] at hm
   injection hm with hm
   have:=(hlt g hg).2
   omega
 ·exact (h.bel.grown gr h.bel.size (fun k hk=>by have:=(hlm k hk).1;omega)).setCell (by simp) _
theorem one_news (W:World)(x:Value):∀j u,[x][j]? = some u→(W.alloc (.cells #[x] 3)).cell? ((⟨W.heap.size,0,none⟩:Addr).add j)=some u:=by
 intro j u hu
 match j,hu with
 | 0,hu=>simp at hu;subst hu;exact (Lib.cell_of_heap (heap_alloc_new W _) 0).trans rfl
theorem contains_nats (gs:List Nat)(k:Nat):(gs.map (fun m:Nat=>(m:Int))).contains (k:Int)=gs.contains k:=by
 rw [Bool.eq_iff_iff]
 simp
 exact ⟨fun ⟨a,h,e⟩=>(show a=k by omega) ▸ h,fun h=>⟨k,h,rfl⟩⟩
theorem contains_any (gs:List Nat)(A:Option Addr)(n c k:Nat)(w:World)(hg:IntsAt w A n (nats gs))(hn:1≤n∧n≤100) :
 Calls Tryz.prog 102 #[.slice A n c,.int .i64 (k:Int)] w fun e w'=>e = .returned (.bool (gs.contains k))∧w'=w:=by
 have hl:=hg.len
 obtain ⟨b,o,rfl,hc⟩:=hg.2 (by omega)
 have:=Tryz.slices_Contains_int b o n c (nats gs) (k:Int) w (by omega) (by omega) (fun j hj=>hc j _ (by
  rw [List.getElem?_map,List.getElem?_eq_getElem hj,List.getD_eq_getElem?_getD,List.getElem?_eq_getElem hj];rfl))
 refine this.mono ?_
 rintro e w' ⟨rfl,rfl⟩
 refine ⟨?_,rfl⟩
 rw [List.take_of_length_le (by omega)]
 unfold nats
 rw [contains_nats]
def shM (gs:List Nat)(mt:List Nat)(k:Nat):List Nat:=(Pl.left k gs).flatMap (Pl.four (fun h=>Pl.shf gs (mt.getD h 0)))
def shS (gs:List Nat)(sg:List Int)(k:Nat):List Int:=(Pl.left k gs).map (fun c=>sg.getD c 0)
theorem shM_stay {gs:List Nat}{k:Nat}(h:gs.contains k=false)(mt:List Nat):shM gs mt (k+1)=shM gs mt k++[Pl.shf gs (mt.getD (4 * k) 0),Pl.shf gs (mt.getD (4 * k+1) 0),Pl.shf gs (mt.getD (4 * k+2) 0),Pl.shf gs (mt.getD (4 * k+3) 0)]:=by
 unfold shM
 rw [Pl.left_succ,h,List.flatMap_append]
 rfl
theorem shM_gone {gs:List Nat}{k:Nat}(h:gs.contains k=true)(mt:List Nat):shM gs mt (k+1)=shM gs mt k:=by
 unfold shM
 rw [Pl.left_succ,h]
 simp
theorem shS_stay {gs:List Nat}{k:Nat}(h:gs.contains k=false)(sg:List Int):shS gs sg (k+1)=shS gs sg k++[sg.getD k 0]:=by
 unfold shS
 rw [Pl.left_succ,h,List.map_append]
 rfl
theorem shS_gone {gs:List Nat}{k:Nat}(h:gs.contains k=true)(sg:List Int):shS gs sg (k+1)=shS gs sg k:=by
 unfold shS
 rw [Pl.left_succ,h]
 simp
theorem shS_len (gs:List Nat)(sg:List Int)(k:Nat):(shS gs sg k).length≤k:=by unfold shS;rw [List.length_map];exact Pl.left_le k gs
theorem shM_len (gs:List Nat)(mt:List Nat)(k:Nat):(shM gs mt k).length≤4 * k:=by unfold shM;rw [Pl.flat4];have:=Pl.left_le k gs;omega
theorem shr_fin {w:World}{vS vM:Value}{ss:List Int}{ms:List Nat}{lp:Int}{W:World}(h:Shk w vS vM ss ms lp W) :
 (((W.setCell ⟨w.heap.size,0,none⟩ vS).setCell ⟨w.heap.size,1,none⟩ vM).setCell ⟨w.heap.size,2,none⟩ (.int .i64 lp)).cell? ⟨w.heap.size,0,none⟩=some vS ∧
 (((W.setCell ⟨w.heap.size,0,none⟩ vS).setCell ⟨w.heap.size,1,none⟩ vM).setCell ⟨w.heap.size,2,none⟩ (.int .i64 lp)).cell? ⟨w.heap.size,1,none⟩=some vM ∧
 (((W.setCell ⟨w.heap.size,0,none⟩ vS).setCell ⟨w.heap.size,1,none⟩ vM).setCell ⟨w.heap.size,2,none⟩ (.int .i64 lp)).cell? ⟨w.heap.size,2,none⟩=some (.int .i64 lp):=by
 have r:=((h.res.set 0 vS).set 1 vM).set 2 (.int .i64 lp)
 exact ⟨r.cell (i:=0) (by simp),r.cell (i:=1) (by simp),r.cell (i:=2) (by simp)⟩
theorem four_take {f:Nat→Nat}(k:Nat){j:Nat}(hj:j<4):(Pl.four f k).take (j+1)=(Pl.four f k).take j++[f (4 * k+j)]:=by
 have h:j=0∨j=1∨j=2∨j=3:=by omega
 rcases h with rfl | rfl | rfl | rfl <;> rfl
def ShrPost (gs:List Nat)(sg:List Int)(mt:List Nat)(lp:Int)(w:World)(e:Ending)(w':World):Prop :=
 ∃vS vM:Value,e = .returned (.agg #[vS,vM,.int .i64 lp])∧w'.ownsRow (w.heap.size+2) 3 1 vS (Pl.left sg.length gs).length ((Pl.shrS gs sg).map (.int .i64))∧w'.ownsRow (w.heap.size+2) 3 1 vM (4 * (Pl.left sg.length gs).length) ((Pl.shrM gs sg.length mt).map (fun k:Nat=>Value.int .i64 k))∧Below w.heap.size w w'
set_option maxRecDepth 100000 in
set_option maxHeartbeats 2000000 in
theorem shrunk_any (gs:List Nat)(sg:List Int)(mt:List Nat)(lp:Int)(A B C:Option Addr)(n q r cp cq cr:Nat)(w:World)(hs:IntsAt w A n sg)(hm:IntsAt w B q (nats mt))(hg:IntsAt w C r (nats gs))(hf:Pl.Few gs)
 (hq:q=4 * n) (hcq:q≤cq) (hcq2:cq≤maxLen) (hn:n≤100) (hr:1≤r∧r≤100) (hmt:∀h,mt.getD h 0≤1000) :
 Calls Tryz.prog 75 #[.slice A n cp,.slice B q cq,.int .i64 lp,.slice C r cr] w (ShrPost gs sg mt lp w):=by
 unfold maxLen at hcq2
 have hls:=hs.len
 have HQ:=hide hq
 have HS:=hide hs
 have HMT:=hide hm
 have HG:=hide hg
 have HLS:=hide hls
 clear hq hs hm hg hls
 go_enter Tryz.func75,Tryz.ntmps75
 go_wp2
 have H0:=hide (show Shk w (.slice none 0 0) (.slice none 0 0) [] [] lp ((w.alloc (.cells #[.slice none 0 0,.slice none 0 0,.int .i64 0] 24)).alloc (.cells #[.slice none 0 0,.slice none 0 0,.int .i64 lp] 24)) from
  ⟨(Row.new w _ [_,_,_]).alloc _,by have:=Row.new (w.alloc (.cells #[.slice none 0 0,.slice none 0 0,.int .i64 0] 24)) 24 [.slice none 0 0,.slice none 0 0,.int .i64 lp];simpa using this,
   World.ownsRow_nil _ _ _ _,World.ownsRow_nil _ _ _ _,fun g h=>by simp [Value.ownBlock] at h,((Below.refl _ _).alloc (Nat.le_refl _) _).alloc (by simp) _⟩)
 go_loopg [18] n (fun g i wx=>∃(k:Nat) (vS vM:Value),k+g=n∧i = .int .i64 k∧Shk w vS vM (shS gs sg k) (shM gs mt k) lp wx)
 case atStart=>exact ⟨0,.slice none 0 0,.slice none 0 0,by omega,rfl,H0.out⟩
 case round =>
  clear H0
  obtain ⟨k,vS,vM,hkg,rfl,hk⟩:=hrel
  have HKG:=hide hkg
  have hkn:k≤n:=by omega
  have HK:=hide hk
  clear hkg hk
  obtain ⟨go,rfl⟩:∃go,go=gk:=⟨_,rfl⟩
  by_cases hlt:k<n
  ·obtain ⟨ab,ao,rfl,hca⟩:=ints_pv (HS.out.keep HK.out.bel) hlt
   obtain ⟨x,hx⟩:∃x,x=Pl.pv sg k:=⟨_,rfl⟩
   rw [←hx] at hca
   have HX:=hide hx
   clear hx
   go_wp2_with fail
   refine (contains_any gs C r cr k _ (HG.out.keep HK.out.bel) hr).mono ?_
   rintro e w1 ⟨rfl,rfl⟩
   cases hc:gs.contains k with
   | true =>
     have HC:=hide hc
     clear hc
     go_wp2
     go_roundg (go - 1)
     case measure=>have:=HKG.out;omega
     case rel=>exact ⟨k+1,vS,vM,by have:=HKG.out;omega,by go_num,by rw [shM_gone HC.out,shS_gone HC.out];exact HK.out⟩
   | false =>
     have HC:=hide hc
     clear hc
     obtain ⟨i0,hi0,hz0,hz1,hz2⟩:=info_parts intInfo
     obtain ⟨e0,e1,e2,e3⟩:=box3 HK.out.box
     have hbig:=HK.out.big
     have hsl:=shS_len gs sg k
     obtain ⟨mb,mo,rfl,_⟩:=nats_at HMT.out (k:=4 * k) (by have:=HQ.out;omega)
     have hq1:(4:Int) * (k:Int)+4≤(q:Int):=by have:=HQ.out;omega
     have hq2:(4:Int) * (k:Int)+4≤(cq:Int):=by omega
     have hq3:(q:Int)≤(cq:Int):=by omega
     go_wp2_with (at_builtin;refine wpList_append_lies _ (by rfl) _ _ 22 (by rfl) (w.heap.size+2) 3 i0 (.int .i64 0) 1 8 Tryz.underlying22 hi0 hz0 hz1 hz2 rfl (by omega) vS (shS gs sg k).length ((shS gs sg k).map (.int .i64)) (by rfl) (HK.out.s.alloc _) ⟨w1.heap.size,0,none⟩ 1 1 [.int .i64 x] (by rfl) (by rfl) (one_news w1 (.int .i64 x)) (by simp [Value.oneCell']) (by omega) (by unfold maxLen;omega) (by omega) (by simp;omega) (w1.heap.size+1) (by simp) ?_;intro g2 c2 w2 own2 grow2 at2 lt2;obtain ⟨q0,q1,q2,q3⟩:=box3 (Row.grown (Row.alloc HK.out.box (.cells #[.int .i64 x] 3)) grow2 (row_apart (Row.alloc HK.out.box (.cells #[.int .i64 x] 3)) (World.ownsRow.alloc HK.out.s (.cells #[.int .i64 x] 3))));have OWN2:=hide own2;have GR2:=hide grow2;have AT2:=hide at2;clear own2 grow2 at2)
     have H3:=hide (Shk.appS (HK.out.alloc (.cells #[.int .i64 x] 3)) OWN2.out GR2.out rfl (by simpa using AT2.out))
     clear q0 q1 q2 q3 e0 e1 e2 e3
     obtain ⟨vS',hvS'⟩:∃v,v=Value.slice (some ⟨g2,0,none⟩) ((shS gs sg k).length+1) c2:=⟨_,rfl⟩
     rw [←hvS'] at H3
     rw [HX.out,show Pl.pv sg k=sg.getD k 0 from rfl,←shS_stay HC.out] at H3
     have HV:=hide hvS'
     clear hvS'
     rw [show 4 * k+4 - 4 * k=4 from by omega]
     go_loopg [40] 4 (fun g i wx=>∃(j:Nat) (vN:Value),j+g=4∧i = .int .i64 j∧Shk w vS' vN (shS gs sg (k+1)) (shM gs mt k++(Pl.four (fun h=>Pl.shf gs (mt.getD h 0)) k).take j) lp wx)
     case atStart=>exact ⟨0,vM,by omega,rfl,by rw [←HV.out];simpa using H3.out⟩
     case round =>
      clear H3
      obtain ⟨j,vN,hjg,rfl,hj⟩:=hrel
      have HJG:=hide hjg
      have hj4:j≤4:=by omega
      have HJ:=hide hj
      clear hjg hj
      by_cases hlj:j<4
      ·obtain ⟨mb',mo',e',hcm⟩:=nats_at (HMT.out.keep HJ.out.bel) (k:=4 * k+j) (by have:=HQ.out;omega)
       injection e' with e'
       injection e' with e1' e2'
       subst e1'
       subst e2'
       obtain ⟨y,hy⟩:∃y,y=mt.getD (4 * k+j) 0:=⟨_,rfl⟩
       have hy1:=hmt (4 * k+j)
       rw [←hy,←Nat.add_assoc] at hcm
       rw [←hy] at hy1
       have HY:=hide hy
       clear hy
       obtain ⟨e0,e1,e2,e3⟩:=box3 HJ.out.box
       have hml:=shM_len gs mt k
       have htl:((Pl.four (fun h=>Pl.shf gs (mt.getD h 0)) k).take j).length≤4:=by have:=List.length_take_le j (Pl.four (fun h=>Pl.shf gs (mt.getD h 0)) k);omega
       have hll:(shM gs mt k++(Pl.four (fun h=>Pl.shf gs (mt.getD h 0)) k).take j).length≤404:=by rw [List.length_append];omega
       obtain ⟨l,hl⟩:∃l,l=shM gs mt k++(Pl.four (fun h=>Pl.shf gs (mt.getD h 0)) k).take j:=⟨_,rfl⟩
       rw [←hl] at hll HJ
       have HL:=hide hl
       clear hl hml htl
       have hbig2:=HJ.out.big
       go_wp2_with fail
       have P1:∀u ∈ [Value.int .i64 (Pl.shf gs y:Nat)],u.oneCell'=true:=by simp [Value.oneCell']
       have P2:l.length+1≤maxLen:=by unfold maxLen;omega
       have P3:(l.length+1) * 8≤140737488355328:=by omega
       have P4:w.heap.size+2≤(wr.alloc (.cells #[.int .i64 (Pl.shf gs y:Nat)] 3)).drew.heap.size:=by simp;omega
       have P5:(wr.alloc (.cells #[.int .i64 (Pl.shf gs y:Nat)] 3)).drew.heap.size=wr.heap.size+1:=by simp
       have PP:=hide P1
       have P5H:=hide P5
       have KB:=hide (show Row (wr.alloc (.cells #[.int .i64 (Pl.shf gs y:Nat)] 3)).drew (w.heap.size+1) 24 [vS',vN,.int .i64 lp] from Row.drew (Row.alloc HJ.out.box _))
       have KM:=hide (show (wr.alloc (.cells #[.int .i64 (Pl.shf gs y:Nat)] 3)).drew.ownsRow (w.heap.size+2) 3 1 vN l.length (l.map (fun k:Nat=>Value.int .i64 k)) from ((HJ.out.m.alloc _).drew))
       clear P1 P5
       have HGd:IntsAt wr.drew C r (nats gs):=IntsAt.drew (HG.out.keep HJ.out.bel)
       obtain ⟨_,kb1,_,kb3⟩:=box3 KB.out
       go_region_law
        (first
          | (refine step_append_lies _ ?_ (.tmp 45) (.tmp 49) 22 ?_ (w.heap.size + 2) 3 i0 (.int .i64 0) 1 8 Tryz.underlying22 hi0 hz0 hz1 hz2 rfl Nat.zero_lt_one vN l.length (l.map (fun k : Nat => Value.int .i64 k)) ?_ KM.out ⟨wr.heap.size, 0, none⟩ 1 1 [.int .i64 (Pl.shf gs y : Nat)] ?_ rfl (World.news_of_block (cs := #[.int .i64 (Pl.shf gs y : Nat)]) (t := 3) (fr := (0, 0)) (heap_alloc_new wr _)) PP.out Nat.zero_lt_one P2 P3 P4 (wr.heap.size + 1) P5H.out ?_
             ·rfl
             ·rfl
             ·rfl
             ·rfl
             intro g3 c3 w3 own3 grow3 at3 lt3
             obtain ⟨q0,q1,q2,q3⟩:=box3 (KB.out.grown grow3 (row_apart KB.out KM.out))
             have OWN3:=hide own3
             have GR3:=hide grow3
             have AT3:=hide at3
             clear own3 grow3 at3 q0 q2)
          | (go_simp
             go_wp2_with ((go_at_call 74);refine Calls.mono (shifted_any gs C r cr y _ ?_ (by omega) (by omega) hf) ?_;(focus (exact HGd));rintro e w5 ⟨rfl,rfl⟩)))
       all_goals
        go_wp2
        go_roundg (gk - 1)
        case measure=>have:=HJG.out;omega
        case rel =>
         refine ⟨j+1,.slice (some ⟨g3,0,none⟩) (l.length+1) c3,by have:=HJG.out;omega,by go_num,?_⟩
         have hh:=Shk.appM (x:=Pl.shf gs y) (Shk.below (HJ.out.alloc (.cells #[.int .i64 (Pl.shf gs y:Nat)] 3)) ((Below.refl _ _).drew)) OWN3.out GR3.out rfl (by simpa using AT3.out)
         rw [HL.out,HY.out,List.append_assoc,←four_take (f:=fun h=>Pl.shf gs (mt.getD h 0)) k hlj,←HL.out] at hh
         exact hh
      ·have hj44:j=4:=by omega
       subst hj44
       go_wp2
       go_roundg (go - 1)
       case measure=>have:=HKG.out;omega
       case rel =>
        refine ⟨k+1,vS',vN,by have:=HKG.out;omega,by go_num,?_⟩
        rw [shM_stay HC.out]
        exact HJ.out
  ·obtain ⟨A2,c2,rfl⟩:=owns_slice HK.out.s
   obtain ⟨A3,c3,rfl⟩:=owns_slice HK.out.m
   obtain ⟨e0,e1,e2,e3⟩:=box3 HK.out.box
   obtain ⟨f0,f1,f2,f3⟩:=box3 HK.out.res
   have HFIN:=hide (shr_fin HK.out)
   obtain rfl:k=n:=by omega
   go_wp2
   refine bodyPost_ret (v := .agg #[.slice A2 (shS gs sg k).length c2,.slice A3 (shM gs mt k).length c3,.int .i64 lp]) ?_ rfl ?_
   ·obtain ⟨r0,r1,r2⟩:=HFIN.out
    simp [results,Tryz.results75,go_sem,r0,r1,r2]
   ·have e1:shS gs sg k=Pl.shrS gs sg:=by unfold shS Pl.shrS;rw [HLS.out]
    have e2:shM gs mt k=Pl.shrM gs sg.length mt:=by unfold shM Pl.shrM;rw [HLS.out]
    refine ⟨.slice A2 (shS gs sg k).length c2,.slice A3 (shM gs mt k).length c3,rfl,?_,?_,?_⟩
    ·rw [←Pl.shrS_len,←e1]
     exact ownsRow_setCell_below (ownsRow_setCell_below (ownsRow_setCell_below HK.out.s (by simp) _) (by simp) _) (by simp) _
    ·rw [←Pl.shrM_len gs sg.length mt,←e2]
     exact ownsRow_setCell_below (ownsRow_setCell_below (ownsRow_setCell_below HK.out.m (by simp) _) (by simp) _) (by simp) _
    ·exact ((HK.out.bel.setCell (by simp) _).setCell (by simp) _).setCell (by simp) _
end Go.Proofs.YtdgliimmnnhhjaaGreatDoor
end
