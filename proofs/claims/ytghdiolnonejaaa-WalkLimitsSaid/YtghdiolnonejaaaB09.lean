/-
  The texts Wl, Wm, Wr, Ws, Wt, Wu, Dc, Fcl in one.
-/
import Derived.Test.YtghdiolnonejaaaB08
import Derived.Test.YtghdiolnonejaaaShelf
import Derived.Deep.AppendLies
import Derived.Maps.AppendAt
import Derived.Deep.RegionLaw
import Derived.StillTailTactics
import Derived.Deep.RegionHeld3
import Derived.Deep.DrawnRows
import Derived.Test.YtghdiolnonejaaaB05
import Derived.Laws.MakeOwn
set_option linter.unusedVariables false
set_option linter.unusedSimpArgs false

section
namespace Go.Proofs.Ytghdiolnonejaaa
open Go Go.RowKit
/-- A diagram that is being written: its box, and the two rows that it owns so far. -/
structure Shk (w : World) (vS vM : Value) (ss : List Int) (ms : List Nat) (lp : Int) (W : World) : Prop where
  res : Row W w.heap.size 24 [.slice none 0 0, .slice none 0 0, .int .i64 0]
  box : Row W (w.heap.size + 1) 24 [vS, vM, .int .i64 lp]
  s : W.ownsRow (w.heap.size + 2) 3 1 vS ss.length (ss.map (.int .i64))
  m : W.ownsRow (w.heap.size + 2) 3 1 vM ms.length (ms.map (fun k : Nat => Value.int .i64 k))
  ne : ∀ g, vS.ownBlock = some g → vM.ownBlock ≠ some g
  bel : Below w.heap.size w W
theorem Shk.big {w : World} {vS vM : Value} {ss : List Int} {ms : List Nat} {lp : Int} {W : World} (h : Shk w vS vM ss ms lp W) : w.heap.size + 2 ≤ W.heap.size := by have := h.box.lt; omega
theorem Shk.below {w : World} {vS vM : Value} {ss : List Int} {ms : List Nat} {lp : Int} {W W' : World} (h : Shk w vS vM ss ms lp W) (hb : Below W.heap.size W W') : Shk w vS vM ss ms lp W' :=
  ⟨h.res.below hb, h.box.below hb, own_keep h.s hb (Nat.le_refl _), own_keep h.m hb (Nat.le_refl _), h.ne, h.bel.trans (hb.mono (by have := h.big; omega))⟩
theorem Shk.alloc {w : World} {vS vM : Value} {ss : List Int} {ms : List Nat} {lp : Int} {W : World} (h : Shk w vS vM ss ms lp W) (o : Obj) : Shk w vS vM ss ms lp (W.alloc o) := h.below ((Below.refl _ _).alloc (Nat.le_refl _) o)
theorem row_apart {W : World} {g : Nat} {vs : List Value} {base : Nat} {v : Value} {n : Nat} {xs : List Value} (h : Row W g 24 vs) (ho : W.ownsRow base 3 1 v n xs) : some g ≠ v.ownBlock := by
  intro e
  obtain ⟨cs, fr, h3⟩ := ownsRow_block ho g e.symm
  rw [h] at h3
  injection h3 with h3
  injection h3 with _ h4
  exact absurd h4 (by decide)
theorem Shk.appS {w : World} {vS vM v' : Value} {ss : List Int} {ms : List Nat} {lp x : Int} {W W2 : World} (h : Shk w vS vM ss ms lp W) (own : W2.ownsRow (w.heap.size + 2) 3 1 v' (ss.length + 1) (ss.map (.int .i64) ++ [.int .i64 x])) (gr : W.grownBy W2 vS.ownBlock) {g' : Nat} (hv : v'.ownBlock = some g') (hat0 : vS.ownBlock = some g' ∨ g' = W.heap.size) :
    Shk w v' vM (ss ++ [x]) ms lp (W2.setCell ⟨w.heap.size + 1, 0, none⟩ v') := by
  have hat : v'.ownBlock = vS.ownBlock ∨ v'.ownBlock = some W.heap.size := by
    rcases hat0 with e | e
    · exact .inl (hv.trans e.symm)
    · exact .inr (hv.trans (congrArg some e))
  have hlt := h.s.lt
  have hlm := h.m.lt
  refine ⟨(h.res.grown gr (row_apart h.res h.s)).other (by simp) _, (h.box.grown gr (row_apart h.box h.s)).set 0 v', ?_, ?_, ?_, ?_⟩
  · refine ownsRow_setCell_below ?_ (by simp) _
    simpa using own
  · refine ownsRow_setCell_below (h.m.kept gr ?_) (by simp) _
    cases hm : vM.ownBlock with
    | none => exact .inl rfl
    | some g => exact .inr (fun e => h.ne g e.symm hm)
  · intro g hg hm
    rcases hat with e | e
    · exact h.ne g (e ▸ hg) hm
    · rw [e] at hg
      injection hg with hg
      have := (hlm g hm).2
      omega
  · exact (h.bel.grown gr h.bel.size (fun k hk => by have := (hlt k hk).1; omega)).setCell (by simp) _
theorem Shk.appM {w : World} {vS vM v' : Value} {ss : List Int} {ms : List Nat} {lp : Int} {x : Nat} {W W2 : World} (h : Shk w vS vM ss ms lp W) (own : W2.ownsRow (w.heap.size + 2) 3 1 v' (ms.length + 1) (ms.map (fun k : Nat => Value.int .i64 k) ++ [.int .i64 x])) (gr : W.grownBy W2 vM.ownBlock) {g' : Nat} (hv : v'.ownBlock = some g') (hat0 : vM.ownBlock = some g' ∨ g' = W.heap.size) :
    Shk w vS v' ss (ms ++ [x]) lp (W2.setCell ⟨w.heap.size + 1, 1, none⟩ v') := by
  have hat : v'.ownBlock = vM.ownBlock ∨ v'.ownBlock = some W.heap.size := by
    rcases hat0 with e | e
    · exact .inl (hv.trans e.symm)
    · exact .inr (hv.trans (congrArg some e))
  have hlt := h.s.lt
  have hlm := h.m.lt
  refine ⟨(h.res.grown gr (row_apart h.res h.m)).other (by simp) _, (h.box.grown gr (row_apart h.box h.m)).set 1 v', ?_, ?_, ?_, ?_⟩
  · refine ownsRow_setCell_below (h.s.kept gr ?_) (by simp) _
    cases hm : vS.ownBlock with
    | none => exact .inl rfl
    | some g => exact .inr (fun e => h.ne g hm e.symm)
  · refine ownsRow_setCell_below ?_ (by simp) _
    simpa using own
  · intro g hg hm
    rcases hat with e | e
    · exact h.ne g hg (e ▸ hm)
    · rw [e] at hm
      injection hm with hm
      have := (hlt g hg).2
      omega
  · exact (h.bel.grown gr h.bel.size (fun k hk => by have := (hlm k hk).1; omega)).setCell (by simp) _
theorem one_news (W : World) (x : Value) : ∀ j u, [x][j]? = some u → (W.alloc (.cells #[x] 3)).cell? ((⟨W.heap.size, 0, none⟩ : Addr).add j) = some u := by
  intro j u hu
  match j, hu with
  | 0, hu => simp at hu; subst hu; exact (Lib.cell_of_heap (heap_alloc_new W _) 0).trans rfl
theorem contains_nats (gs : List Nat) (k : Nat) : (gs.map (fun m : Nat => (m : Int))).contains (k : Int) = gs.contains k := by
  rw [Bool.eq_iff_iff]
  simp
  exact ⟨fun ⟨a, h, e⟩ => (show a = k by omega) ▸ h, fun h => ⟨k, h, rfl⟩⟩
theorem contains_any (gs : List Nat) (A : Option Addr) (n c k : Nat) (w : World) (hg : IntsAt w A n (nats gs)) (hn : 1 ≤ n ∧ n ≤ 100) :
    Calls Try.prog 131 #[.slice A n c, .int .i64 (k : Int)] w fun e w' => e = .returned (.bool (gs.contains k)) ∧ w' = w := by
  have hl := hg.len
  obtain ⟨b, o, rfl, hc⟩ := hg.2 (by omega)
  have := Try.slices_Contains_int b o n c (nats gs) (k : Int) w (by omega) (by omega) (fun j hj => hc j _ (by
    rw [List.getElem?_map, List.getElem?_eq_getElem hj, List.getD_eq_getElem?_getD, List.getElem?_eq_getElem hj]; rfl))
  refine this.mono ?_
  rintro e w' ⟨rfl, rfl⟩
  refine ⟨?_, rfl⟩
  rw [List.take_of_length_le (by omega)]
  unfold nats
  rw [contains_nats]
/-- The mates that stay, of the first k crossings. -/
def shM (gs : List Nat) (mt : List Nat) (k : Nat) : List Nat := (Pl.left k gs).flatMap (Pl.four (fun h => Pl.shf gs (mt.getD h 0)))
def shS (gs : List Nat) (sg : List Int) (k : Nat) : List Int := (Pl.left k gs).map (fun c => sg.getD c 0)
theorem shM_stay {gs : List Nat} {k : Nat} (h : gs.contains k = false) (mt : List Nat) : shM gs mt (k + 1) = shM gs mt k ++ [Pl.shf gs (mt.getD (4 * k) 0), Pl.shf gs (mt.getD (4 * k + 1) 0), Pl.shf gs (mt.getD (4 * k + 2) 0), Pl.shf gs (mt.getD (4 * k + 3) 0)] := by
  unfold shM
  rw [Pl.left_succ, h, List.flatMap_append]
  rfl
theorem shM_gone {gs : List Nat} {k : Nat} (h : gs.contains k = true) (mt : List Nat) : shM gs mt (k + 1) = shM gs mt k := by
  unfold shM
  rw [Pl.left_succ, h]
  simp
theorem shS_stay {gs : List Nat} {k : Nat} (h : gs.contains k = false) (sg : List Int) : shS gs sg (k + 1) = shS gs sg k ++ [sg.getD k 0] := by
  unfold shS
  rw [Pl.left_succ, h, List.map_append]
  rfl
theorem shS_gone {gs : List Nat} {k : Nat} (h : gs.contains k = true) (sg : List Int) : shS gs sg (k + 1) = shS gs sg k := by
  unfold shS
  rw [Pl.left_succ, h]
  simp
theorem shS_len (gs : List Nat) (sg : List Int) (k : Nat) : (shS gs sg k).length ≤ k := by unfold shS; rw [List.length_map]; exact Pl.left_le k gs
theorem shM_len (gs : List Nat) (mt : List Nat) (k : Nat) : (shM gs mt k).length ≤ 4 * k := by unfold shM; rw [Pl.flat4]; have := Pl.left_le k gs; omega
theorem shr_fin {w : World} {vS vM : Value} {ss : List Int} {ms : List Nat} {lp : Int} {W : World} (h : Shk w vS vM ss ms lp W) :
    (((W.setCell ⟨w.heap.size, 0, none⟩ vS).setCell ⟨w.heap.size, 1, none⟩ vM).setCell ⟨w.heap.size, 2, none⟩ (.int .i64 lp)).cell? ⟨w.heap.size, 0, none⟩ = some vS ∧
    (((W.setCell ⟨w.heap.size, 0, none⟩ vS).setCell ⟨w.heap.size, 1, none⟩ vM).setCell ⟨w.heap.size, 2, none⟩ (.int .i64 lp)).cell? ⟨w.heap.size, 1, none⟩ = some vM ∧
    (((W.setCell ⟨w.heap.size, 0, none⟩ vS).setCell ⟨w.heap.size, 1, none⟩ vM).setCell ⟨w.heap.size, 2, none⟩ (.int .i64 lp)).cell? ⟨w.heap.size, 2, none⟩ = some (.int .i64 lp) := by
  have r := ((h.res.set 0 vS).set 1 vM).set 2 (.int .i64 lp)
  exact ⟨r.cell (i := 0) (by simp), r.cell (i := 1) (by simp), r.cell (i := 2) (by simp)⟩
theorem four_take {f : Nat → Nat} (k : Nat) {j : Nat} (hj : j < 4) : (Pl.four f k).take (j + 1) = (Pl.four f k).take j ++ [f (4 * k + j)] := by
  have h : j = 0 ∨ j = 1 ∨ j = 2 ∨ j = 3 := by omega
  rcases h with rfl | rfl | rfl | rfl <;> rfl
/-- What shrunk answers. -/
def ShrPost (gs : List Nat) (sg : List Int) (mt : List Nat) (lp : Int) (w : World) (e : Ending) (w' : World) : Prop :=
  ∃ vS vM : Value, e = .returned (.agg #[vS, vM, .int .i64 lp]) ∧ w'.ownsRow (w.heap.size + 2) 3 1 vS (Pl.left sg.length gs).length ((Pl.shrS gs sg).map (.int .i64)) ∧ w'.ownsRow (w.heap.size + 2) 3 1 vM (4 * (Pl.left sg.length gs).length) ((Pl.shrM gs sg.length mt).map (fun k : Nat => Value.int .i64 k)) ∧ Below w.heap.size w w'
set_option maxRecDepth 100000 in
set_option maxHeartbeats 2000000 in
theorem shrunk_any (gs : List Nat) (sg : List Int) (mt : List Nat) (lp : Int) (A B C : Option Addr) (n q r cp cq cr : Nat) (w : World) (hs : IntsAt w A n sg) (hm : IntsAt w B q (nats mt)) (hg : IntsAt w C r (nats gs)) (hf : Pl.Few gs)
    (hq : q = 4 * n) (hcq : q ≤ cq) (hcq2 : cq ≤ maxLen) (hn : n ≤ 100) (hr : 1 ≤ r ∧ r ≤ 100) (hmt : ∀ h, mt.getD h 0 ≤ 1000) :
    Calls Try.prog 84 #[.slice A n cp, .slice B q cq, .int .i64 lp, .slice C r cr] w (ShrPost gs sg mt lp w) := by
  unfold maxLen at hcq2
  have hls := hs.len
  have HQ := hide hq
  have HS := hide hs
  have HMT := hide hm
  have HG := hide hg
  have HLS := hide hls
  clear hq hs hm hg hls
  go_enter Try.func84, Try.ntmps84
  go_wp2
  have H0 := hide (show Shk w (.slice none 0 0) (.slice none 0 0) [] [] lp ((w.alloc (.cells #[.slice none 0 0, .slice none 0 0, .int .i64 0] 24)).alloc (.cells #[.slice none 0 0, .slice none 0 0, .int .i64 lp] 24)) from
    ⟨(Row.new w _ [_, _, _]).alloc _, by have := Row.new (w.alloc (.cells #[.slice none 0 0, .slice none 0 0, .int .i64 0] 24)) 24 [.slice none 0 0, .slice none 0 0, .int .i64 lp]; simpa using this,
     World.ownsRow_nil _ _ _ _, World.ownsRow_nil _ _ _ _, fun g h => by simp [Value.ownBlock] at h, ((Below.refl _ _).alloc (Nat.le_refl _) _).alloc (by simp) _⟩)
  go_loopg [18] n (fun g i wx => ∃ (k : Nat) (vS vM : Value), k + g = n ∧ i = .int .i64 k ∧ Shk w vS vM (shS gs sg k) (shM gs mt k) lp wx)
  case atStart => exact ⟨0, .slice none 0 0, .slice none 0 0, by omega, rfl, H0.out⟩
  case round =>
    clear H0
    obtain ⟨k, vS, vM, hkg, rfl, hk⟩ := hrel
    have HKG := hide hkg
    have hkn : k ≤ n := by omega
    have HK := hide hk
    clear hkg hk
    obtain ⟨go, rfl⟩ : ∃ go, go = gk := ⟨_, rfl⟩
    by_cases hlt : k < n
    · obtain ⟨ab, ao, rfl, hca⟩ := ints_pv (HS.out.keep HK.out.bel) hlt
      obtain ⟨x, hx⟩ : ∃ x, x = Pl.pv sg k := ⟨_, rfl⟩
      rw [← hx] at hca
      have HX := hide hx
      clear hx
      go_wp2_with fail
      refine (contains_any gs C r cr k _ (HG.out.keep HK.out.bel) hr).mono ?_
      rintro e w1 ⟨rfl, rfl⟩
      cases hc : gs.contains k with
      | true =>
        have HC := hide hc
        clear hc
        go_wp2
        go_roundg (go - 1)
        case measure => have := HKG.out; omega
        case rel => exact ⟨k + 1, vS, vM, by have := HKG.out; omega, by go_num, by rw [shM_gone HC.out, shS_gone HC.out]; exact HK.out⟩
      | false =>
        have HC := hide hc
        clear hc
        obtain ⟨i0, hi0, hz0, hz1, hz2⟩ := info_parts intInfo
        obtain ⟨e0, e1, e2, e3⟩ := box3 HK.out.box
        have hbig := HK.out.big
        have hsl := shS_len gs sg k
        obtain ⟨mb, mo, rfl, _⟩ := nats_at HMT.out (k := 4 * k) (by have := HQ.out; omega)
        have hq1 : (4 : Int) * (k : Int) + 4 ≤ (q : Int) := by have := HQ.out; omega
        have hq2 : (4 : Int) * (k : Int) + 4 ≤ (cq : Int) := by omega
        have hq3 : (q : Int) ≤ (cq : Int) := by omega
        go_wp2_with (at_builtin; refine wpList_append_lies _ (by rfl) _ _ 22 (by rfl) (w.heap.size + 2) 3 i0 (.int .i64 0) 1 8 Try.underlying22 hi0 hz0 hz1 hz2 rfl (by omega) vS (shS gs sg k).length ((shS gs sg k).map (.int .i64)) (by rfl) (HK.out.s.alloc _) ⟨w1.heap.size, 0, none⟩ 1 1 [.int .i64 x] (by rfl) (by rfl) (one_news w1 (.int .i64 x)) (by simp [Value.oneCell']) (by omega) (by unfold maxLen; omega) (by omega) (by simp; omega) (w1.heap.size + 1) (by simp) ?_; intro g2 c2 w2 own2 grow2 at2 lt2; obtain ⟨q0, q1, q2, q3⟩ := box3 (Row.grown (Row.alloc HK.out.box (.cells #[.int .i64 x] 3)) grow2 (row_apart (Row.alloc HK.out.box (.cells #[.int .i64 x] 3)) (World.ownsRow.alloc HK.out.s (.cells #[.int .i64 x] 3)))); have OWN2 := hide own2; have GR2 := hide grow2; have AT2 := hide at2; clear own2 grow2 at2)
        have H3 := hide (Shk.appS (HK.out.alloc (.cells #[.int .i64 x] 3)) OWN2.out GR2.out rfl (by simpa using AT2.out))
        clear q0 q1 q2 q3 e0 e1 e2 e3
        obtain ⟨vS', hvS'⟩ : ∃ v, v = Value.slice (some ⟨g2, 0, none⟩) ((shS gs sg k).length + 1) c2 := ⟨_, rfl⟩
        rw [← hvS'] at H3
        rw [HX.out, show Pl.pv sg k = sg.getD k 0 from rfl, ← shS_stay HC.out] at H3
        have HV := hide hvS'
        clear hvS'
        rw [show 4 * k + 4 - 4 * k = 4 from by omega]
        go_loopg [40] 4 (fun g i wx => ∃ (j : Nat) (vN : Value), j + g = 4 ∧ i = .int .i64 j ∧ Shk w vS' vN (shS gs sg (k + 1)) (shM gs mt k ++ (Pl.four (fun h => Pl.shf gs (mt.getD h 0)) k).take j) lp wx)
        case atStart => exact ⟨0, vM, by omega, rfl, by rw [← HV.out]; simpa using H3.out⟩
        case round =>
          clear H3
          obtain ⟨j, vN, hjg, rfl, hj⟩ := hrel
          have HJG := hide hjg
          have hj4 : j ≤ 4 := by omega
          have HJ := hide hj
          clear hjg hj
          by_cases hlj : j < 4
          · obtain ⟨mb', mo', e', hcm⟩ := nats_at (HMT.out.keep HJ.out.bel) (k := 4 * k + j) (by have := HQ.out; omega)
            injection e' with e'
            injection e' with e1' e2'
            subst e1'
            subst e2'
            obtain ⟨y, hy⟩ : ∃ y, y = mt.getD (4 * k + j) 0 := ⟨_, rfl⟩
            have hy1 := hmt (4 * k + j)
            rw [← hy, ← Nat.add_assoc] at hcm
            rw [← hy] at hy1
            have HY := hide hy
            clear hy
            obtain ⟨e0, e1, e2, e3⟩ := box3 HJ.out.box
            have hml := shM_len gs mt k
            have htl : ((Pl.four (fun h => Pl.shf gs (mt.getD h 0)) k).take j).length ≤ 4 := by have := List.length_take_le j (Pl.four (fun h => Pl.shf gs (mt.getD h 0)) k); omega
            have hll : (shM gs mt k ++ (Pl.four (fun h => Pl.shf gs (mt.getD h 0)) k).take j).length ≤ 404 := by rw [List.length_append]; omega
            obtain ⟨l, hl⟩ : ∃ l, l = shM gs mt k ++ (Pl.four (fun h => Pl.shf gs (mt.getD h 0)) k).take j := ⟨_, rfl⟩
            rw [← hl] at hll HJ
            have HL := hide hl
            clear hl hml htl
            have hbig2 := HJ.out.big
            go_wp2_with fail
            have P1 : ∀ u ∈ [Value.int .i64 (Pl.shf gs y : Nat)], u.oneCell' = true := by simp [Value.oneCell']
            have P2 : l.length + 1 ≤ maxLen := by unfold maxLen; omega
            have P3 : (l.length + 1) * 8 ≤ 140737488355328 := by omega
            have P4 : w.heap.size + 2 ≤ (wr.alloc (.cells #[.int .i64 (Pl.shf gs y : Nat)] 3)).drew.heap.size := by simp; omega
            have P5 : (wr.alloc (.cells #[.int .i64 (Pl.shf gs y : Nat)] 3)).drew.heap.size = wr.heap.size + 1 := by simp
            have PP := hide P1
            have P5H := hide P5
            have KB := hide (show Row (wr.alloc (.cells #[.int .i64 (Pl.shf gs y : Nat)] 3)).drew (w.heap.size + 1) 24 [vS', vN, .int .i64 lp] from Row.drew (Row.alloc HJ.out.box _))
            have KM := hide (show (wr.alloc (.cells #[.int .i64 (Pl.shf gs y : Nat)] 3)).drew.ownsRow (w.heap.size + 2) 3 1 vN l.length (l.map (fun k : Nat => Value.int .i64 k)) from ((HJ.out.m.alloc _).drew))
            clear P1 P5
            have HGd : IntsAt wr.drew C r (nats gs) := IntsAt.drew (HG.out.keep HJ.out.bel)
            obtain ⟨_, kb1, _, kb3⟩ := box3 KB.out
            go_region_law
              (first
                | (refine step_append_lies _ ?_ (.tmp 45) (.tmp 49) 22 ?_ (w.heap.size + 2) 3 i0 (.int .i64 0) 1 8 Try.underlying22 hi0 hz0 hz1 hz2 rfl Nat.zero_lt_one vN l.length (l.map (fun k : Nat => Value.int .i64 k)) ?_ KM.out ⟨wr.heap.size, 0, none⟩ 1 1 [.int .i64 (Pl.shf gs y : Nat)] ?_ rfl (World.news_of_block (cs := #[.int .i64 (Pl.shf gs y : Nat)]) (t := 3) (fr := (0, 0)) (heap_alloc_new wr _)) PP.out Nat.zero_lt_one P2 P3 P4 (wr.heap.size + 1) P5H.out ?_
                   · rfl
                   · rfl
                   · rfl
                   · rfl
                   intro g3 c3 w3 own3 grow3 at3 lt3
                   obtain ⟨q0, q1, q2, q3⟩ := box3 (KB.out.grown grow3 (row_apart KB.out KM.out))
                   have OWN3 := hide own3
                   have GR3 := hide grow3
                   have AT3 := hide at3
                   clear own3 grow3 at3 q0 q2)
                | (go_simp
                   go_wp2_with ((go_at_call 83); refine Calls.mono (shifted_any gs C r cr y _ ?_ (by omega) (by omega) hf) ?_; (focus (exact HGd)); rintro e w5 ⟨rfl, rfl⟩)))
            all_goals
              go_wp2
              go_roundg (gk - 1)
              case measure => have := HJG.out; omega
              case rel =>
                refine ⟨j + 1, .slice (some ⟨g3, 0, none⟩) (l.length + 1) c3, by have := HJG.out; omega, by go_num, ?_⟩
                have hh := Shk.appM (x := Pl.shf gs y) (Shk.below (HJ.out.alloc (.cells #[.int .i64 (Pl.shf gs y : Nat)] 3)) ((Below.refl _ _).drew)) OWN3.out GR3.out rfl (by simpa using AT3.out)
                rw [HL.out, HY.out, List.append_assoc, ← four_take (f := fun h => Pl.shf gs (mt.getD h 0)) k hlj, ← HL.out] at hh
                exact hh
          · have hj44 : j = 4 := by omega
            subst hj44
            go_wp2
            go_roundg (go - 1)
            case measure => have := HKG.out; omega
            case rel =>
              refine ⟨k + 1, vS', vN, by have := HKG.out; omega, by go_num, ?_⟩
              rw [shM_stay HC.out]
              exact HJ.out
    · obtain ⟨A2, c2, rfl⟩ := owns_slice HK.out.s
      obtain ⟨A3, c3, rfl⟩ := owns_slice HK.out.m
      obtain ⟨e0, e1, e2, e3⟩ := box3 HK.out.box
      obtain ⟨f0, f1, f2, f3⟩ := box3 HK.out.res
      have HFIN := hide (shr_fin HK.out)
      obtain rfl : k = n := by omega
      go_wp2
      refine bodyPost_ret (v := .agg #[.slice A2 (shS gs sg k).length c2, .slice A3 (shM gs mt k).length c3, .int .i64 lp]) ?_ rfl ?_
      · obtain ⟨r0, r1, r2⟩ := HFIN.out
        simp [results, Try.results84, go_sem, r0, r1, r2]
      · have e1 : shS gs sg k = Pl.shrS gs sg := by unfold shS Pl.shrS; rw [HLS.out]
        have e2 : shM gs mt k = Pl.shrM gs sg.length mt := by unfold shM Pl.shrM; rw [HLS.out]
        refine ⟨.slice A2 (shS gs sg k).length c2, .slice A3 (shM gs mt k).length c3, rfl, ?_, ?_, ?_⟩
        · rw [← Pl.shrS_len, ← e1]
          exact ownsRow_setCell_below (ownsRow_setCell_below (ownsRow_setCell_below HK.out.s (by simp) _) (by simp) _) (by simp) _
        · rw [← Pl.shrM_len gs sg.length mt, ← e2]
          exact ownsRow_setCell_below (ownsRow_setCell_below (ownsRow_setCell_below HK.out.m (by simp) _) (by simp) _) (by simp) _
        · exact ((HK.out.bel.setCell (by simp) _).setCell (by simp) _).setCell (by simp) _
end Go.Proofs.Ytghdiolnonejaaa
end

section
namespace Go.Proofs.Ytghdiolnonejaaa
open Go Go.RowKit
/-- What stays while two results are written: the diagram's box b, the inverse move's box gi; the results' boxes. -/
structure UC (w : World) (gi : Nat) (x0 x1 x2 y0 y1 y2 y3 y4 : Value) (W : World) : Prop where
  d : Row W w.heap.size 24 [x0, x1, x2]
  i : Row W gi 37 [y0, y1, y2, y3, y4]
  rd : ∃ vs, Row W (w.heap.size + 1 + 1) 24 vs ∧ vs.length = 3
  rm : ∃ us, Row W (w.heap.size + 1 + 1 + 1) 37 us ∧ us.length = 5
  bel : Below w.heap.size w W
  lo : w.heap.size + 1 + 1 + 1 < gi
section
variable {w : World} {gi : Nat} {x0 x1 x2 y0 y1 y2 y3 y4 : Value} {W W' : World}
theorem UC.drew (h : UC w gi x0 x1 x2 y0 y1 y2 y3 y4 W) : UC w gi x0 x1 x2 y0 y1 y2 y3 y4 W.drew := ⟨h.d, h.i, h.rd, h.rm, h.bel.drew, h.lo⟩
theorem UC.below (h : UC w gi x0 x1 x2 y0 y1 y2 y3 y4 W) (hb : Below W.heap.size W W') : UC w gi x0 x1 x2 y0 y1 y2 y3 y4 W' :=
  let ⟨vs, r1, l1⟩ := h.rd
  let ⟨us, r2, l2⟩ := h.rm
  ⟨h.d.below hb, h.i.below hb, ⟨vs, r1.below hb, l1⟩, ⟨us, r2.below hb, l2⟩, h.bel.trans (hb.mono h.bel.size), h.lo⟩
theorem UC.alloc (h : UC w gi x0 x1 x2 y0 y1 y2 y3 y4 W) (o : Obj) : UC w gi x0 x1 x2 y0 y1 y2 y3 y4 (W.alloc o) := h.below ((Below.refl _ _).alloc (Nat.le_refl _) o)
theorem UC.setD (h : UC w gi x0 x1 x2 y0 y1 y2 y3 y4 W) (o : Nat) (v : Value) : UC w gi x0 x1 x2 y0 y1 y2 y3 y4 (W.setCell ⟨w.heap.size + 1 + 1, o, none⟩ v) :=
  let ⟨vs, r1, l1⟩ := h.rd
  let ⟨us, r2, l2⟩ := h.rm
  have hl := h.lo
  ⟨h.d.other (by show _ ≠ w.heap.size + 1 + 1; omega) v, h.i.other (by show _ ≠ w.heap.size + 1 + 1; omega) v, ⟨vs.set o v, r1.set o v, by rw [List.length_set, l1]⟩, ⟨us, r2.other (by show _ ≠ w.heap.size + 1 + 1; omega) v, l2⟩, h.bel.setCell (by show _ ≤ w.heap.size + 1 + 1; omega) v, h.lo⟩
theorem UC.setM (h : UC w gi x0 x1 x2 y0 y1 y2 y3 y4 W) (o : Nat) (v : Value) : UC w gi x0 x1 x2 y0 y1 y2 y3 y4 (W.setCell ⟨w.heap.size + 1 + 1 + 1, o, none⟩ v) :=
  let ⟨vs, r1, l1⟩ := h.rd
  let ⟨us, r2, l2⟩ := h.rm
  have hl := h.lo
  ⟨h.d.other (by show _ ≠ w.heap.size + 1 + 1 + 1; omega) v, h.i.other (by show _ ≠ w.heap.size + 1 + 1 + 1; omega) v, ⟨vs, r1.other (by show _ ≠ w.heap.size + 1 + 1 + 1; omega) v, l1⟩, ⟨us.set o v, r2.set o v, by rw [List.length_set, l2]⟩, h.bel.setCell (by show _ ≤ w.heap.size + 1 + 1 + 1; omega) v, h.lo⟩
theorem UC.all (h : UC w gi x0 x1 x2 y0 y1 y2 y3 y4 W) : W.cell? ⟨w.heap.size, 0, none⟩ = some x0 ∧ W.cell? ⟨gi, 0, none⟩ = some y0 ∧ W.cell? ⟨gi, 1, none⟩ = some y1 ∧ W.cell? ⟨gi, 2, none⟩ = some y2 ∧ W.cell? ⟨gi, 3, none⟩ = some y3 ∧ W.cell? ⟨gi, 4, none⟩ = some y4 ∧
    W.cell? ⟨w.heap.size + 1 + 1, 0, none⟩ = some (cv W ⟨w.heap.size + 1 + 1, 0, none⟩) ∧ W.cell? ⟨w.heap.size + 1 + 1, 1, none⟩ = some (cv W ⟨w.heap.size + 1 + 1, 1, none⟩) ∧ W.cell? ⟨w.heap.size + 1 + 1, 2, none⟩ = some (cv W ⟨w.heap.size + 1 + 1, 2, none⟩) ∧
    W.cell? ⟨w.heap.size + 1 + 1 + 1, 0, none⟩ = some (cv W ⟨w.heap.size + 1 + 1 + 1, 0, none⟩) ∧ W.cell? ⟨w.heap.size + 1 + 1 + 1, 1, none⟩ = some (cv W ⟨w.heap.size + 1 + 1 + 1, 1, none⟩) ∧ W.cell? ⟨w.heap.size + 1 + 1 + 1, 2, none⟩ = some (cv W ⟨w.heap.size + 1 + 1 + 1, 2, none⟩) ∧ W.cell? ⟨w.heap.size + 1 + 1 + 1, 3, none⟩ = some (cv W ⟨w.heap.size + 1 + 1 + 1, 3, none⟩) ∧ W.cell? ⟨w.heap.size + 1 + 1 + 1, 4, none⟩ = some (cv W ⟨w.heap.size + 1 + 1 + 1, 4, none⟩) ∧
    (∀ o, W.frozen? ⟨w.heap.size + 1 + 1, o, none⟩ = false) ∧ (∀ o, W.frozen? ⟨w.heap.size + 1 + 1 + 1, o, none⟩ = false) ∧ UC w gi x0 x1 x2 y0 y1 y2 y3 y4 W := by
  obtain ⟨vs, r1, l1⟩ := h.rd
  obtain ⟨us, r2, l2⟩ := h.rm
  obtain ⟨d0, _, _, _⟩ := box3 h.d
  obtain ⟨i0, i1, i2, i3, i4, _⟩ := box5 h.i
  exact ⟨d0, i0, i1, i2, i3, i4, cv_some (r1.cell (i := 0) (by omega)), cv_some (r1.cell (i := 1) (by omega)), cv_some (r1.cell (i := 2) (by omega)), cv_some (r2.cell (i := 0) (by omega)), cv_some (r2.cell (i := 1) (by omega)), cv_some (r2.cell (i := 2) (by omega)), cv_some (r2.cell (i := 3) (by omega)), cv_some (r2.cell (i := 4) (by omega)), r1.free, r2.free, h⟩
end
theorem map_nats (l : List Nat) : (nats l).map (Value.int .i64) = l.map (fun k : Nat => Value.int .i64 k) := by unfold nats; rw [List.map_map]; rfl
theorem getD_m {d : Pl.Dg} {k : Nat} (hk : k < d.mt.length) : d.mt.getD k 0 = d.m k := by
  unfold Pl.Dg.m
  rw [List.getD_eq_getElem?_getD, List.getD_eq_getElem?_getD, List.getElem?_eq_getElem hk]; rfl
theorem getD_le {d : Pl.Dg} (hd : Pl.Wf d) (h : Nat) : d.mt.getD h 0 ≤ 256 := by
  have hn := hd.few
  have hl := hd.len
  by_cases hh : h < d.mt.length
  · rw [getD_m hh]
    have := hd.lt h (by omega)
    omega
  · rw [List.getD_eq_getElem?_getD, List.getElem?_eq_none (by omega)]
    exact Nat.zero_le _
theorem set_le {l : List Nat} {N a b : Nat} (h : ∀ k, l.getD k 0 ≤ N) (hb : b ≤ N) : ∀ k, (l.set a b).getD k 0 ≤ N := by
  intro k
  have hk := h k
  rw [List.getD_eq_getElem?_getD] at hk ⊢
  rw [List.getElem?_set]
  split
  · split
    · simpa using hb
    · simp
  · exact hk
theorem jn_le {l : List Nat} {N a b : Nat} (h : ∀ k, l.getD k 0 ≤ N) (ha : a ≤ N) (hb : b ≤ N) : ∀ k, (jn l a b).getD k 0 ≤ N := set_le (set_le h hb) ha
/-- The outer ends of the kink; what uncurl answers. -/
def kA (d : Pl.Dg) (c : Nat) : Nat := Pl.tn (kk d c) 2
def kB (d : Pl.Dg) (c : Nat) : Nat := Pl.tn (d.m (kk d c)) 2
def uncC (d : Pl.Dg) (c : Nat) : Int := if d.m (kk d c) / 4 = c then (if d.m (kA d c) = kB d c then (if 64 < d.lp + 1 then 5 else 0) else 0) else 6
def unM (d : Pl.Dg) (c : Nat) : List Nat := if d.m (kA d c) = kB d c then d.mt else jn d.mt (d.m (kA d c)) (d.m (kB d c))
def unD (d : Pl.Dg) (c : Nat) : Pl.Dg := ⟨Pl.shrS [c] d.sg, Pl.shrM [c] d.n (unM d c), if d.m (kA d c) = kB d c then d.lp + 1 else d.lp⟩
def unI (d : Pl.Dg) (c : Nat) : Mv := ⟨1, if d.m (kA d c) = kB d c then -1 else (Pl.shf [c] (d.m (kA d c)) : Nat), 0, d.s c, decide (kA d c % 2 = 1)⟩
def UncPost (d : Pl.Dg) (c : Nat) (w : World) (e : Ending) (w' : World) : Prop := (uncC d c ≠ 0 → ResErr (uncC d c) e) ∧ (uncC d c = 0 → ResOk (unD d c) (unI d c) e w') ∧ Below w.heap.size w w'
theorem kk_lt {d : Pl.Dg} {c : Nat} (hc : c < d.n) : kk d c < 4 * d.n := by unfold kk; split <;> (try split) <;> omega
theorem kA_lt {d : Pl.Dg} {c : Nat} (hc : c < d.n) : kA d c < 4 * d.n := Pl.tn_lt (kk_lt hc)
theorem kB_lt {d : Pl.Dg} (hd : Pl.Wf d) {c : Nat} (hc : c < d.n) : kB d c < 4 * d.n := Pl.tn_lt (hd.lt _ (kk_lt hc))
theorem shrunk_sl (gs : List Nat) (sg : List Int) (mt : List Nat) (lp : Int) (A B C : Option Addr) (n q r cp cq cr : Nat) (w : World) (hs : IntsAt w A n sg) (hm : IntsAt w B q (nats mt)) (hg : IntsAt w C r (nats gs)) (hf : Pl.Few gs)
    (hq : q = 4 * n) (hcq : q ≤ cq) (hcq2 : cq ≤ maxLen) (hn : n ≤ 100) (hr : 1 ≤ r ∧ r ≤ 100) (hmt : ∀ h, mt.getD h 0 ≤ 1000) :
    Calls Try.prog 84 #[.slice A n cp, .slice B q cq, .int .i64 lp, .slice C r cr] w fun e w' => ∃ (A7 A8 : Option Addr) (c7 c8 : Nat), e = .returned (.agg #[.slice A7 (Pl.left sg.length gs).length c7, .slice A8 (4 * (Pl.left sg.length gs).length) c8, .int .i64 lp]) ∧
      w'.ownsRow (w.heap.size + 2) 3 1 (.slice A7 (Pl.left sg.length gs).length c7) (Pl.left sg.length gs).length ((Pl.shrS gs sg).map (.int .i64)) ∧ w'.ownsRow (w.heap.size + 2) 3 1 (.slice A8 (4 * (Pl.left sg.length gs).length) c8) (4 * (Pl.left sg.length gs).length) ((Pl.shrM gs sg.length mt).map (fun k : Nat => Value.int .i64 k)) ∧ Below w.heap.size w w' := by
  refine (shrunk_any gs sg mt lp A B C n q r cp cq cr w hs hm hg hf hq hcq hcq2 hn hr hmt).mono ?_
  rintro e w' ⟨vS, vM, rfl, o1, o2, hb⟩
  obtain ⟨A7, c7, rfl⟩ := owns_slice o1
  obtain ⟨A8, c8, rfl⟩ := owns_slice o2
  exact ⟨A7, A8, c7, c8, rfl, o1, o2, hb⟩
/-- The four boxes that a move's function begins with. -/
def W4 (w : World) (x0 x1 x2 y0 y1 y2 y3 y4 : Value) : World := ((((w.alloc (.cells #[x0, x1, x2] 24)).alloc (.cells #[y0, y1, y2, y3, y4] 37)).alloc (.cells #[.slice none 0 0, .slice none 0 0, .int .i64 0] 24)).alloc (.cells #[.int .i64 0, .int .i64 0, .int .i64 0, .int .i64 0, .bool false] 37))
theorem row_at {W : World} {t : TypeId} {vs : List Value} {g : Nat} (h : g = W.heap.size) : Row (W.alloc (.cells vs.toArray t)) g t vs := by subst h; exact Row.new W t vs
theorem boxes4 (w : World) (x0 x1 x2 y0 y1 y2 y3 y4 : Value) :
    Row (W4 w x0 x1 x2 y0 y1 y2 y3 y4) w.heap.size 24 [x0, x1, x2] ∧ Row (W4 w x0 x1 x2 y0 y1 y2 y3 y4) (w.heap.size + 1) 37 [y0, y1, y2, y3, y4] ∧ Row (W4 w x0 x1 x2 y0 y1 y2 y3 y4) (w.heap.size + 1 + 1) 24 [.slice none 0 0, .slice none 0 0, .int .i64 0] ∧
    Row (W4 w x0 x1 x2 y0 y1 y2 y3 y4) (w.heap.size + 1 + 1 + 1) 37 [.int .i64 0, .int .i64 0, .int .i64 0, .int .i64 0, .bool false] ∧ Below w.heap.size w (W4 w x0 x1 x2 y0 y1 y2 y3 y4) ∧ (W4 w x0 x1 x2 y0 y1 y2 y3 y4).heap.size = w.heap.size + 4 := by
  unfold W4
  refine ⟨(((row_at (vs := [x0, x1, x2]) rfl).alloc _).alloc _).alloc _, ((row_at (vs := [y0, y1, y2, y3, y4]) (by simp)).alloc _).alloc _, (row_at (vs := [.slice none 0 0, .slice none 0 0, .int .i64 0]) (by simp)).alloc _, row_at (vs := [.int .i64 0, .int .i64 0, .int .i64 0, .int .i64 0, .bool false]) (by simp), ?_, by simp⟩
  exact ((((Below.refl _ _).alloc (Nat.le_refl _) _).alloc (by simp) _).alloc (by simp; omega) _).alloc (by simp; omega) _
end Go.Proofs.Ytghdiolnonejaaa
end

section
namespace Go.Proofs.Ytghdiolnonejaaa
open Go Go.RowKit
/-- A function value of the program that captured one variable. -/
def fv1 (k : Nat) (c : Value) : Value := .func (.func k) #[] #[c]
/-- A step of a permutation, by a function value, in every world that has grown out of w. -/
def Steps (k : Nat) (c : Value) (N : Nat) (f : Nat → Nat) (w : World) : Prop := ∀ w' h, Below w.heap.size w w' → h < N → Calls Try.prog k #[.int .i64 (h : Int), c] w' fun e w'' => e = .returned (.int .i64 (f h : Nat)) ∧ Below w'.heap.size w' w''
theorem Steps.keep {k : Nat} {c : Value} {N : Nat} {f : Nat → Nat} {w W : World} (h : Steps k c N f w) (hb : Below w.heap.size w W) : Steps k c N f W :=
  fun w' x hb' hx => h w' x (hb.trans (hb'.mono hb.size)) hx
theorem nextF_any (d : Pl.Dg) (B : Option Addr) (cq m g h : Nat) (x0 x2 : Value) (w : World) (hm : m = 4 * d.n) (hd : Pl.Wf d) (hr : Row w g 24 [x0, .slice B m cq, x2]) (hb : IntsAt w B m (nats d.mt)) (hh : h < 4 * d.n) :
    Calls Try.prog 134 #[.int .i64 (h : Int), .pointer (some ⟨g, 0, none⟩)] w fun e w' => e = .returned (.int .i64 (Pl.nx d h : Nat)) ∧ w' = w := by
  have hn := hd.few
  have lt := hd.lt h hh
  obtain ⟨b, o, rfl, hc⟩ := mate_at (by rw [← hm]; exact hb) hh
  obtain ⟨f0, f1, f2, f3⟩ := box3 hr
  have hhm : h < m := by omega
  have HM := hide hm
  clear hm
  obtain ⟨u, hu⟩ : ∃ u, u = d.m h := ⟨_, rfl⟩
  have HU := hide (show Pl.nx d h = Pl.tn u 3 by rw [hu]; rfl)
  rw [← hu] at hc lt
  clear hu
  go_enter Try.func134, Try.ntmps134
  go_wp2_with fail
  refine (turn_back u _ (by omega)).mono ?_
  rintro e w1 ⟨rfl, rfl⟩
  go_wp2
  go_ret
  exact ⟨by rw [HU.out]; rfl, rfl⟩
theorem nextF_steps (d : Pl.Dg) (B : Option Addr) (cq m g : Nat) (x0 x2 : Value) (w : World) (hm : m = 4 * d.n) (hd : Pl.Wf d) (hr : Row w g 24 [x0, .slice B m cq, x2]) (hb : IntsAt w B m (nats d.mt)) :
    Steps 134 (.pointer (some ⟨g, 0, none⟩)) (4 * d.n) (Pl.nx d) w := fun w' h hbl hh =>
  (nextF_any d B cq m g h x0 x2 w' hm hd (hr.below hbl) (hb.keep hbl) hh).mono fun _ _ ⟨he, hw⟩ => ⟨he, by rw [hw]; exact Below.refl _ _⟩
theorem own_one (W : World) (x : Value) : (W.alloc (.cells #[x] 3)).ownsRow W.heap.size 3 1 (.slice (some ⟨W.heap.size, 0, none⟩) 1 1) 1 [x] :=
  ⟨rfl, .inr ⟨W.heap.size, 1, #[x], rfl, Nat.le_refl _, heap_alloc_new W _, Nat.le_refl _, by unfold maxLen; omega, rfl, rfl⟩⟩
theorem it_lt {f : Nat → Nat} {N : Nat} (hf : ∀ x, x < N → f x < N) {h : Nat} (hh : h < N) : ∀ k, Pl.it f k h < N
  | 0 => hh
  | k + 1 => hf _ (it_lt hf hh k)
def CycPost (f : Nat → Nat) (h p : Nat) (w : World) (e : Ending) (w' : World) : Prop :=
  ∃ (A : Option Addr) (c : Nat), e = .returned (.slice A p c) ∧ w'.ownsRow w.heap.size 3 1 (.slice A p c) p ((Pl.cyc f h p).map (fun k : Nat => Value.int .i64 k)) ∧ Below w.heap.size w w'
set_option maxRecDepth 100000 in
set_option maxHeartbeats 2000000 in
theorem cycle_any (c : Value) (N : Nat) (f : Nat → Nat) (h p : Nat) (w : World) (hst : Steps 134 c N f w) (hf : ∀ x, x < N → f x < N) (hh : h < N) (hp : Pl.Per f h p) (hpN : p ≤ N) (hN : N ≤ 1000) :
    Calls Try.prog 137 #[.int .i64 (h : Int), fv1 134 c] w (CycPost f h p w) := by
  unfold fv1
  have HST := hide hst
  have HF := hide hf
  have HP := hide hp
  have hp0 := hp.1
  clear hst hf hp
  have B1 := hide (show Below w.heap.size w (w.alloc (.cells #[.int .i64 (h : Int)] 3)) from (Below.refl _ _).alloc (Nat.le_refl _) _)
  go_enter Try.func137, Try.ntmps137
  go_wp2_with fail
  refine (HST.out _ h B1.out hh).mono ?_
  rintro e w2 ⟨rfl, hb2⟩
  have B2 := hide (B1.out.trans (hb2.mono B1.out.size))
  have O2 := hide (own_keep (own_one w (.int .i64 (h : Int))) hb2 (Nat.le_refl _))
  clear hb2
  go_wp2_with fail
  go_loopg [5, 6] (p - 1) (fun g v i wx => ∃ j : Nat, j + 1 + g = p ∧ i = .int .i64 (Pl.it f (j + 1) h : Nat) ∧ wx.ownsRow w.heap.size 3 1 v (j + 1) ((Pl.cyc f h (j + 1)).map (fun k : Nat => Value.int .i64 k)) ∧ Below w.heap.size w wx)
  case atStart => exact ⟨0, by omega, rfl, O2.out, B2.out⟩
  case round =>
    clear O2 B2 B1
    obtain ⟨j, hjg, rfl, own, hb⟩ := hrel
    have HJ := hide hjg
    have hjp : j + 1 ≤ p := by omega
    have OWN := hide own
    have HB := hide hb
    have hbs := hb.size
    obtain ⟨x, hx⟩ : ∃ x, x = Pl.it f (j + 1) h := ⟨_, rfl⟩
    rw [← hx]
    have HX := hide hx
    have hxN : x < N := by rw [hx]; exact it_lt HF.out hh (j + 1)
    clear hjg own hb hx
    by_cases he : x = h
    · have hjj : ¬ j + 1 < p := fun hlt => HP.out.2.2 (j + 1) (by omega) hlt (by rw [← HX.out, he])
      have t1 : ((x : Int) != (h : Int)) = false := by rw [bne_eq_false_iff_eq]; omega
      have HE := hide he
      obtain rfl : j + 1 = p := by omega
      obtain ⟨A5, c5, rfl⟩ := owns_slice OWN.out
      clear he hjj
      go_wp2
      go_ret
      exact ⟨A5, c5, rfl, OWN.out, HB.out⟩
    · have t1 : ((x : Int) != (h : Int)) = true := by rw [bne_iff_ne]; omega
      have hjj : j + 1 < p := by
        rcases Nat.lt_or_ge (j + 1) p with h1 | h1
        · exact h1
        · have : j + 1 = p := by omega
          exact absurd (by rw [HX.out, this]; exact HP.out.2.1) he
      clear he
      obtain ⟨i0, hi0, hz0, hz1, hz2⟩ := info_parts intInfo
      go_wp2_with (at_builtin; refine wpList_append_lies _ (by rfl) _ _ 22 (by rfl) w.heap.size 3 i0 (.int .i64 0) 1 8 Try.underlying22 hi0 hz0 hz1 hz2 rfl (by omega) _ (j + 1) _ (by rfl) (OWN.out.alloc _) ⟨wr.heap.size, 0, none⟩ 1 1 [.int .i64 (x : Int)] (by rfl) (by rfl) (one_news wr (.int .i64 (x : Int))) (by simp [Value.oneCell']) (by omega) (by unfold maxLen; omega) (by omega) (by simp; omega) (wr.heap.size + 1) (by simp) ?_; intro g3 c3 w3 own3 grow3 at3 lt3; have OWN3 := hide own3; have GR3 := hide grow3; clear own3 grow3 at3)
      have B3 := hide ((HB.out.alloc hbs (.cells #[.int .i64 (x : Int)] 3)).grown GR3.out (by simp; omega) (fun k hk => (OWN.out.lt k hk).1))
      refine (HST.out _ x B3.out hxN).mono ?_
      rintro e w4 ⟨rfl, hb4⟩
      go_wp2_with fail
      go_roundg (gk - 1)
      case measure => have := HJ.out; omega
      case rel =>
        refine ⟨j + 1, by have := HJ.out; omega, ?_, ?_, B3.out.trans (hb4.mono B3.out.size)⟩
        · rw [HX.out]; rfl
        · have := own_keep OWN3.out hb4 (Nat.le_refl _)
          rw [Pl.cyc_succ, List.map_append, ← HX.out]
          exact this
end Go.Proofs.Ytghdiolnonejaaa
end

section
namespace Go.Proofs.Ytghdiolnonejaaa
open Go Go.RowKit
theorem RowT.store {w : World} {t t' : TypeId} {A : Option Addr} {n : Nat} {xs : List Value} {g i : Nat} {vs : List Value} (h : RowT w t A n xs) (hr : Row w g t' vs) (hne : t ≠ t') (v : Value) : RowT (w.setCell ⟨g, i, none⟩ v) t A n xs :=
  ⟨h.1, fun hn => let ⟨b, o, cs, fr, e, hb, hc⟩ := h.2 hn; ⟨b, o, cs, fr, e, (Below.heap_setCell w _ v b (fun he => by
      have hr' := hr
      unfold Row at hr'
      have he' : b = g := he
      rw [he', hr'] at hb
      injection hb with hb
      injection hb with _ h4
      exact hne h4.symm)).trans hb, hc⟩⟩
theorem own_rowT {w : World} {base : Nat} {t : TypeId} {A : Option Addr} {n c : Nat} {xs : List Value} (h : w.ownsRow base t 1 (.slice A n c) n xs) : RowT w t A n xs := by
  refine ⟨by simpa using h.1, fun hn => ?_⟩
  rcases h.2 with ⟨_, h2⟩ | ⟨g, cap, cur, h1, _, h3, _, _, _, h5⟩
  · omega
  · injection h1 with h1 _ _
    refine ⟨g, 0, cur, (0, 0), h1, h3, fun j u hu => ?_⟩
    rw [Nat.zero_add]
    have hj : j < n := by
      have := (List.getElem?_eq_some_iff.1 hu).1
      have := h.1
      omega
    rw [← h5, List.getElem?_take, if_pos (by omega)] at hu
    rw [← hu]
    simp
/-- A slice of numbers, its row's type known. -/
def FaceAt (w : World) (v : Value) (l : List Nat) : Prop := ∃ A c, v = .slice A l.length c ∧ RowT w 3 A l.length (l.map (fun k : Nat => Value.int .i64 k))
def Vs (w : World) (vs : List Value) (fs : List (List Nat)) : Prop := vs.length = fs.length ∧ ∀ (i : Nat) l, fs[i]? = some l → ∃ v, vs[i]? = some v ∧ FaceAt w v l
theorem Vs.below {w w' : World} {vs : List Value} {fs : List (List Nat)} (h : Vs w vs fs) (hb : Below w.heap.size w w') : Vs w' vs fs :=
  ⟨h.1, fun i l e => let ⟨v, h1, A, c, h2, h3⟩ := h.2 i l e; ⟨v, h1, A, c, h2, h3.keep hb⟩⟩
theorem Vs.grown {w w' : World} {vs : List Value} {fs : List (List Nat)} {row : Option Nat} {t' : TypeId} (h : Vs w vs fs) (hg : w.grownBy w' row) (hr : ∀ g, row = some g → ∃ cs fr, w.heap[g]? = some (.cells cs t' fr)) (hne : 3 ≠ t') : Vs w' vs fs :=
  ⟨h.1, fun i l e => let ⟨v, h1, A, c, h2, h3⟩ := h.2 i l e; ⟨v, h1, A, c, h2, h3.grown hg hr hne⟩⟩
theorem Vs.store {w : World} {vs : List Value} {fs : List (List Nat)} {g i : Nat} {us : List Value} {t' : TypeId} (h : Vs w vs fs) (hr : Row w g t' us) (hne : 3 ≠ t') (v : Value) : Vs (w.setCell ⟨g, i, none⟩ v) vs fs :=
  ⟨h.1, fun i l e => let ⟨v, h1, A, c, h2, h3⟩ := h.2 i l e; ⟨v, h1, A, c, h2, h3.store hr hne _⟩⟩
theorem Vs.add {w : World} {vs : List Value} {fs : List (List Nat)} {v : Value} {l : List Nat} (h : Vs w vs fs) (hv : FaceAt w v l) : Vs w (vs ++ [v]) (fs ++ [l]) := by
  refine ⟨by simp [h.1], fun i m e => ?_⟩
  rw [List.getElem?_append] at e ⊢
  by_cases hi : i < fs.length
  · rw [if_pos hi] at e
    rw [if_pos (by rw [h.1]; exact hi)]
    exact h.2 i m e
  · rw [if_neg hi] at e
    rw [if_neg (by rw [h.1]; exact hi), h.1]
    have h1 := (List.getElem?_eq_some_iff.1 e).1
    simp only [List.length_singleton] at h1
    have h0 : i - fs.length = 0 := by omega
    rw [h0] at e ⊢
    simp only [List.getElem?_cons_zero, Option.some.injEq] at e
    subst e
    exact ⟨v, rfl, hv⟩
theorem Vs.nil (w : World) : Vs w [] [] := ⟨rfl, fun i l e => by simp at e⟩
theorem FaceAt.below {w w' : World} {v : Value} {l : List Nat} (h : FaceAt w v l) (hb : Below w.heap.size w w') : FaceAt w' v l := let ⟨A, c, h2, h3⟩ := h; ⟨A, c, h2, h3.keep hb⟩
theorem FaceAt.store {w : World} {v : Value} {l : List Nat} {g i : Nat} {us : List Value} {t' : TypeId} (h : FaceAt w v l) (hr : Row w g t' us) (hne : 3 ≠ t') (u : Value) : FaceAt (w.setCell ⟨g, i, none⟩ u) v l := let ⟨A, c, h2, h3⟩ := h; ⟨A, c, h2, h3.store hr hne _⟩
theorem FaceAt.grown {w w' : World} {v : Value} {l : List Nat} {row : Option Nat} {t' : TypeId} (h : FaceAt w v l) (hg : w.grownBy w' row) (hr : ∀ g, row = some g → ∃ cs fr, w.heap[g]? = some (.cells cs t' fr)) (hne : 3 ≠ t') : FaceAt w' v l := let ⟨A, c, h2, h3⟩ := h; ⟨A, c, h2, h3.grown hg hr hne⟩
theorem FaceAt.ints {w : World} {A : Option Addr} {n c : Nat} {l : List Nat} (h : FaceAt w (.slice A n c) l) : n = l.length ∧ IntsAt w A n (nats l) := by
  obtain ⟨A', c', h1, h2⟩ := h
  injection h1 with h1 h3 h4
  subst h1 h3
  refine ⟨rfl, ?_⟩
  unfold IntsAt
  rw [map_nats]
  exact h2.row
/-- Slices that lie from a block on. -/
def Far (base : Nat) (vs : List Value) : Prop := ∀ v, v ∈ vs → ∀ g, v.ownBlock = some g → base ≤ g
theorem FaceAt.far {w : World} {v : Value} {l : List Nat} {base g i : Nat} (h : FaceAt w v l) (hf : ∀ b, v.ownBlock = some b → base ≤ b) (hg : g < base) (u : Value) : FaceAt (w.setCell ⟨g, i, none⟩ u) v l := by
  obtain ⟨A, c, rfl, h1, h2⟩ := h
  refine ⟨A, c, rfl, h1, fun hn => ?_⟩
  obtain ⟨b, o, cs, fr, rfl, hb, hc⟩ := h2 hn
  have := hf b rfl
  exact ⟨b, o, cs, fr, rfl, (Below.heap_setCell w _ u b (by show b ≠ g; omega)).trans hb, hc⟩
theorem Vs.far {w : World} {vs : List Value} {fs : List (List Nat)} {base g i : Nat} (h : Vs w vs fs) (hf : Far base vs) (hg : g < base) (u : Value) : Vs (w.setCell ⟨g, i, none⟩ u) vs fs :=
  ⟨h.1, fun i l e => let ⟨v, h1, h2⟩ := h.2 i l e; ⟨v, h1, h2.far (hf v (List.mem_of_getElem? h1)) hg u⟩⟩
theorem Far.add {base : Nat} {vs : List Value} {v : Value} (h : Far base vs) (hv : ∀ g, v.ownBlock = some g → base ≤ g) : Far base (vs ++ [v]) := fun u hu => by
  rcases List.mem_append.1 hu with hu | hu
  · exact h u hu
  · rw [List.mem_singleton] at hu; subst hu; exact hv
theorem rowInfo : (Try.prog.info? 22).map (fun i => (i.zero, i.size, i.bytes)) = some (some (.slice none 0 0), 1, 24) := by kernel_rfl
theorem every_any (h : Int) (w : World) : Calls Try.prog 133 #[.int .i64 h] w fun e w' => e = .returned (.bool true) ∧ w' = w := by
  go_enter Try.func133, Try.ntmps133
  go_wp2
  go_ret
  exact ⟨rfl, rfl⟩
end Go.Proofs.Ytghdiolnonejaaa
end

section
namespace Go.Proofs.Ytghdiolnonejaaa
open Go Go.RowKit
structure Cys (w : World) (N : Nat) (f : Nat → Nat) (k : Nat) (fs : List (List Nat)) (bs : List Bool) (vs : List Value) (vA : Value) (W : World) : Prop where
  fc : Pl.Fcs f (fun _ => True) N k fs bs
  few : fs.length ≤ k
  seen : BRow W w.heap.size bs
  own : W.ownsRow (w.heap.size + 1) 22 1 vA fs.length vs
  fa : Vs W vs fs
  bel : Below w.heap.size w W
  far : Far w.heap.size vs
theorem Cys.below {w : World} {N : Nat} {f : Nat → Nat} {k : Nat} {fs : List (List Nat)} {bs : List Bool} {vs : List Value} {vA : Value} {W W' : World} (h : Cys w N f k fs bs vs vA W) (hb : Below W.heap.size W W') : Cys w N f k fs bs vs vA W' :=
  ⟨h.fc, h.few, Row.below h.seen hb, own_keep h.own hb (Nat.le_refl _), h.fa.below hb, h.bel.trans (hb.mono h.bel.size), h.far⟩
def CyclesPost (f : Nat → Nat) (N : Nat) (w : World) (e : Ending) (w' : World) : Prop :=
  ∃ (A : Option Addr) (c : Nat) (fs : List (List Nat)) (bs : List Bool) (vs : List Value), e = .returned (.slice A fs.length c) ∧ Pl.Fcs f (fun _ => True) N N fs bs ∧ fs.length ≤ N ∧ RowT w' 22 A fs.length vs ∧ Vs w' vs fs ∧ Below w.heap.size w w' ∧ Far w.heap.size vs
set_option maxRecDepth 100000 in
set_option maxHeartbeats 3000000 in
theorem cycles_any (c : Value) (N : Nat) (S : Nat → Prop) (f : Nat → Nat) (w : World) (hst : Steps 134 c N f w) (hbij : Pl.Bij N S f) (hS : ∀ x, x < N → S x) (hSN : ∀ x, S x → x < N) (hN : N ≤ 1000) :
    Calls Try.prog 98 #[.int .i64 (N : Int), .func (.func 133) #[] #[], fv1 134 c] w (CyclesPost f N w) := by
  unfold fv1
  have HST := hide hst
  have HBI := hide hbij
  have HSS := hide hS
  have HSN := hide hSN
  have hmk := fun W : World => run_bools N (by omega) W
  have HF := hide (show ∀ x, x < N → f x < N from fun x hx => hSN _ (hbij.maps x (hS x hx)))
  have H0 := hide (show Cys w N f 0 [] (List.replicate N false) [] (.slice none 0 0) (w.alloc (.cells (Array.replicate N (Value.bool false)) 4)) from
    ⟨Pl.Fcs.start f _ N, Nat.le_refl _, BRow.made w N, World.ownsRow_nil _ _ _ _, Vs.nil _, (Below.refl _ _).alloc (Nat.le_refl _) _, fun v hv => by simp at hv⟩)
  clear hst hbij hS hSN
  go_enter Try.func98, Try.ntmps98
  go_wp2
  clear hmk
  go_loopg [7, 16] N (fun g v i wx => ∃ (k : Nat) (fs : List (List Nat)) (bs : List Bool) (vs : List Value), k + g = N ∧ i = .int .i64 k ∧ Cys w N f k fs bs vs v wx)
  case atStart => exact ⟨0, _, _, _, by omega, rfl, H0.out⟩
  case round =>
    clear H0
    obtain ⟨k, fs, bs, vs, hkg, rfl, hk⟩ := hrel
    have HKG := hide hkg
    have hkN : k ≤ N := by omega
    have HK := hide hk
    clear hkg hk
    obtain ⟨go, rfl⟩ : ∃ go, go = gk := ⟨_, rfl⟩
    obtain ⟨A7, c7, rfl⟩ := owns_slice HK.out.own
    by_cases hlt : k < N
    · have hbl : k < bs.length := by rw [HK.out.fc.len]; exact hlt
      have hc := HK.out.seen.cell hbl
      have ik : (0 : Int) ≤ (k : Int) := by omega
      have jk : (k : Int) < (N : Int) := by omega
      cases hg : Pl.gb bs k with
      | true =>
        have HGB := hide hg
        have hc' : wr.cell? ⟨w.heap.size, k, none⟩ = some (.bool true) := by rw [hc]; unfold Pl.gb at hg; rw [hg]
        clear hc hg
        go_wp2
        go_roundg (go - 1)
        case measure => have := HKG.out; omega
        case rel => exact ⟨k + 1, fs, bs, vs, by have := HKG.out; omega, by go_num, HK.out.fc.skip (.inl HGB.out), by have := HK.out.few; omega, HK.out.seen, HK.out.own, HK.out.fa, HK.out.bel, HK.out.far⟩
      | false =>
        have HGB := hide hg
        have hc' : wr.cell? ⟨w.heap.size, k, none⟩ = some (.bool false) := by rw [hc]; unfold Pl.gb at hg; rw [hg]
        clear hc hg
        go_wp2_with fail
        refine (every_any _ _).mono ?_
        rintro e w1 ⟨rfl, rfl⟩
        go_wp2_with fail
        obtain ⟨p, hpN, hper⟩ := HBI.out.per (HSS.out k hlt)
        have HPER := hide hper
        clear hper
        refine (cycle_any c N f k p _ (HST.out.keep HK.out.bel) HF.out hlt HPER.out hpN hN).mono ?_
        rintro e w2 ⟨A5, c5, rfl, own5, hb5⟩
        have HK2 := hide (HK.out.below hb5)
        have FA2 := hide (show FaceAt w2 (.slice A5 p c5) (Pl.cyc f k p) from ⟨A5, c5, by rw [Pl.cyc_len], by rw [Pl.cyc_len]; exact own_rowT own5⟩)
        have HFR := hide (show ∀ g, (Value.slice A5 p c5).ownBlock = some g → w.heap.size ≤ g from fun g hg => by have := (own5.lt g hg).1; have := HK.out.bel.size; omega)
        have HFA0 := hide HK.out.far
        clear own5 hb5
        have hp0 := HPER.out.1
        obtain ⟨b5, o5, rfl, _⟩ := nats_at FA2.out.ints.2 (k := 0) hp0
        have HFC := hide HK.out.fc
        have hfew := HK.out.few
        have HM0 := hide (show BRow w2 w.heap.size (Pl.mark bs ((Pl.cyc f k p).take 0)) from HK2.out.seen)
        go_wp2_with fail
        go_loopg [34] p (fun g i wx => ∃ j : Nat, j + g = p ∧ i = .int .i64 j ∧ BRow wx w.heap.size (Pl.mark bs ((Pl.cyc f k p).take j)) ∧ wx.ownsRow (w.heap.size + 1) 22 1 (.slice A7 fs.length c7) fs.length vs ∧ Vs wx vs fs ∧ FaceAt wx (.slice (some ⟨b5, o5, none⟩) p c5) (Pl.cyc f k p) ∧ Below w.heap.size w wx)
        case atStart => exact ⟨0, by omega, rfl, HM0.out, HK2.out.own, HK2.out.fa, FA2.out, HK2.out.bel⟩
        case round =>
          clear HM0 FA2 HK2 HK
          obtain ⟨j, hjg, rfl, hbr, hown, hvs, hfa, hbel⟩ := hrel
          have HJG := hide hjg
          have hjp : j ≤ p := by omega
          have HBR := hide hbr
          have HOWN := hide hown
          have HVS := hide hvs
          have HFA := hide hfa
          have HBEL := hide hbel
          have hsz := hbr.lt
          clear hjg hbr hown hvs hfa hbel
          by_cases hlj : j < p
          · obtain ⟨b', o', e', hcj⟩ := nats_at HFA.out.ints.2 (k := j) hlj
            injection e' with e'
            injection e' with e1 e2
            subst e1
            subst e2
            rw [Pl.cyc_get hlj] at hcj
            obtain ⟨y, hy⟩ : ∃ y, y = Pl.it f j k := ⟨_, rfl⟩
            have hyN : y < N := by rw [hy]; exact it_lt HF.out hlt j
            rw [← hy] at hcj
            have HY := hide hy
            clear hy
            have hyl : y < (Pl.mark bs ((Pl.cyc f k p).take j)).length := by rw [Pl.mark_len, HFC.out.len]; exact hyN
            have cy := HBR.out.cell hyl
            have fy := Row.free HBR.out y
            have iy : (0 : Int) ≤ (y : Int) := by omega
            have jy : (y : Int) < (N : Int) := by omega
            go_wp2_with fail
            go_roundg (gk - 1)
            case measure => have := HJG.out; omega
            case rel =>
              refine ⟨j + 1, by have := HJG.out; omega, by go_num, ?_, ?_, HVS.out.store HBR.out (by decide) _, HFA.out.store HBR.out (by decide) _, HBEL.out.setCell (Nat.le_refl _) _⟩
              · have h1 := HBR.out.set y true
                have h2 : (Pl.cyc f k p).take (j + 1) = (Pl.cyc f k p).take j ++ [y] := by
                  rw [List.take_succ_eq_append_getElem (by rw [Pl.cyc_len]; exact hlj)]
                  congr 2
                  have := Pl.cyc_get (f := f) (x := k) hlj
                  rw [List.getD_eq_getElem?_getD, List.getElem?_eq_getElem (by rw [Pl.cyc_len]; exact hlj)] at this
                  rw [HY.out]
                  exact this
                rw [h2, Pl.mark_append]
                exact h1
              · exact ownsRow_setCell_below HOWN.out (by show w.heap.size < w.heap.size + 1; omega) _
          · have hjj : j = p := by omega
            subst hjj
            obtain ⟨i0, hi0, hz0, hz1, hz2⟩ := info_parts rowInfo
            have P1 : ∀ u ∈ [Value.slice (some ⟨b5, o5, none⟩) j c5], u.oneCell' = true := by simp [Value.oneCell']
            go_wp2_with (at_builtin; refine wpList_append_lies _ (by rfl) _ _ 56 (by rfl) (w.heap.size + 1) 22 i0 (.slice none 0 0) 1 24 Try.underlying56 hi0 hz0 hz1 hz2 rfl (by omega) _ fs.length vs (by rfl) (HOWN.out.alloc _) ⟨wr.heap.size, 0, none⟩ 1 1 [.slice (some ⟨b5, o5, none⟩) j c5] (by rfl) (by rfl) (World.news_of_block (cs := #[.slice (some ⟨b5, o5, none⟩) j c5]) (t := 22) (fr := (0, 0)) (heap_alloc_new wr _)) P1 (by omega) (by unfold maxLen; omega) (by omega) (by simp; omega) (wr.heap.size + 1) (by simp) ?_; intro g3 c3 w3 own3 grow3 at3 lt3)
            go_roundg (go - 1)
            case measure => have := HKG.out; omega
            case rel =>
              have hbk := fun g (hg : (Value.slice A7 fs.length c7).ownBlock = some g) => ownsRow_block (HOWN.out.alloc (.cells #[.slice (some ⟨b5, o5, none⟩) j c5] 22)) g hg
              have hba : Below wr.heap.size wr (wr.alloc (.cells #[.slice (some ⟨b5, o5, none⟩) j c5] 22)) := (Below.refl _ _).alloc (Nat.le_refl _) _
              refine ⟨k + 1, fs ++ [Pl.cyc f k j], Pl.mark bs (Pl.cyc f k j), vs ++ [.slice (some ⟨b5, o5, none⟩) j c5], by have := HKG.out; omega, by go_num, ?_⟩
              refine ⟨HFC.out.add HBI.out HSS.out HSN.out hlt trivial HGB.out HPER.out, by simp; omega, ?_, by simpa using own3, ?_, ?_, HFA0.out.add HFR.out⟩
              · have h1 := HBR.out
                rw [List.take_of_length_le (by rw [Pl.cyc_len]; omega)] at h1
                refine Row.grown (Row.alloc h1 (.cells #[.slice (some ⟨b5, o5, none⟩) j c5] 22)) grow3 ?_
                intro e
                obtain ⟨cs, fr, h3⟩ := hbk _ e.symm
                have h4 := Row.alloc h1 (.cells #[.slice (some ⟨b5, o5, none⟩) j c5] 22)
                rw [h4] at h3
                injection h3 with h3
                injection h3 with _ h5
                exact absurd h5 (by decide)
              · exact ((HVS.out.below hba).grown grow3 hbk (by decide)).add ((HFA.out.below hba).grown grow3 hbk (by decide))
              · exact (HBEL.out.alloc (by omega) _).grown grow3 (by simp; omega) (fun k hk => by have := (HOWN.out.lt k hk).1; omega)
    · go_wp2
      go_ret
      have : k = N := by omega
      subst this
      exact ⟨A7, c7, fs, bs, vs, rfl, HK.out.fc, HK.out.few, own_rowT HK.out.own, HK.out.fa, HK.out.bel, HK.out.far⟩
end Go.Proofs.Ytghdiolnonejaaa
end

section
namespace Go.Proofs.Ytghdiolnonejaaa
open Go Go.RowKit
theorem mk_self (d : Pl.Dg) : Pl.mk d.sg (nats d.mt) d.lp = d := by
  unfold Pl.mk nats
  rw [List.map_map]
  have : (Int.toNat ∘ fun m : Nat => (m : Int)) = id := by funext x; rfl
  rw [this, List.map_id]
  rfl
theorem vl_of {d : Pl.Dg} : Pl.VL d.sg (nats d.mt) d.lp ↔ Pl.Valid d := by
  constructor
  · intro h; have := h.1; rwa [mk_self] at this
  · intro h; exact ⟨by rw [mk_self]; exact h, fun z hz => by unfold nats at hz; obtain ⟨m, _, rfl⟩ := List.mem_map.1 hz; omega, by omega⟩
theorem valid_yes (d : Pl.Dg) (hd : Pl.Valid d) (A B : Option Addr) (cp cq m : Nat) (w : World) (hm : m = 4 * d.n) (hg : DgAt w A B d) :
    Calls Try.prog 21 #[.agg #[.slice A d.n cp, .slice B m cq, .int .i64 d.lp]] w fun e w' => e = .returned (.bool true) ∧ Below w.heap.size w w' := by
  have hn := hd.wf.few
  have hl := hd.wf.lp
  refine (valid_any d.sg (nats d.mt) d.lp A B d.n m cp cq w hg.s (by rw [hm]; exact hg.m) (by unfold maxLen; omega) (by unfold maxLen; omega) (by omega)).mono ?_
  rintro e w' ⟨h1, h2⟩
  rw [Pl.vb_true (vl_of.2 hd)] at h1
  exact ⟨h1, h2⟩
def FacesPost (d : Pl.Dg) (w : World) (e : Ending) (w' : World) : Prop := CyclesPost (Pl.nx d) (4 * d.n) w e w'
set_option maxRecDepth 100000 in
set_option maxHeartbeats 1000000 in
theorem faces_any (d : Pl.Dg) (hd : Pl.Valid d) (A B : Option Addr) (cp cq m : Nat) (w : World) (hm : m = 4 * d.n) (hg : DgAt w A B d) :
    Calls Try.prog 91 #[.agg #[.slice A d.n cp, .slice B m cq, .int .i64 d.lp]] w (FacesPost d w) := by
  have hn := hd.wf.few
  have HM := hide hm
  have HG := hide hg
  have B0 := hide (show Below w.heap.size w (w.alloc (.cells #[.slice A d.n cp, .slice B m cq, .int .i64 d.lp] 24)) from (Below.refl _ _).alloc (Nat.le_refl _) _)
  have X0 := hide (show Row (w.alloc (.cells #[.slice A d.n cp, .slice B m cq, .int .i64 d.lp] 24)) w.heap.size 24 [.slice A d.n cp, .slice B m cq, .int .i64 d.lp] from Row.new w _ [_, _, _])
  clear hm hg
  have hmf : ∀ (fn : Fn) (first cap : Array Value) (w : World), (Instr.makeFunc fn first cap).run Try.prog w = .ok (.func fn first cap) w := fun _ _ _ _ => rfl
  go_enter Try.func91, Try.ntmps91
  go_wp2_with fail
  refine (valid_yes d hd A B cp cq m _ HM.out (HG.out.keep B0.out)).mono ?_
  rintro e w1 ⟨rfl, hb1⟩
  have B1 := hide (B0.out.trans (hb1.mono B0.out.size))
  have X1 := hide (X0.out.below hb1)
  have ST := hide (nextF_steps d B cq m w.heap.size _ _ w1 HM.out hd.wf X1.out (by rw [HM.out]; exact (HG.out.keep B1.out).m))
  obtain ⟨f0, f1, f2, f3⟩ := box3 X1.out
  clear hb1
  go_wp2_with fail
  have hcc : (m : Int) = ((4 * d.n : Nat) : Int) := by rw [HM.out]
  refine (Calls.mono (P := Try.prog) (by rw [hcc]; exact cycles_any (.pointer (some ⟨w.heap.size, 0, none⟩)) (4 * d.n) (Pl.dart d) (Pl.nx d) w1 ST.out hd.wf.nxb (fun _ h => h) (fun _ h => h) (by omega)) ?_)
  rintro e w2 ⟨A7, c7, fs, bs, vs, rfl, h1, h2, h3, h4, h5, h6⟩
  clear hcc
  have H1 := hide h1
  have H2 := hide h2
  have H3 := hide h3
  have H4 := hide h4
  have B2 := hide (B1.out.trans (h5.mono B1.out.size))
  have H6 := hide (show Far w.heap.size vs from fun v hv g hg => Nat.le_trans B1.out.size (h6 v hv g hg))
  clear h1 h2 h3 h4 h5 h6
  go_wp2
  go_ret
  exact ⟨A7, c7, fs, bs, vs, rfl, H1.out, H2.out, H3.out, H4.out, B2.out, H6.out⟩
end Go.Proofs.Ytghdiolnonejaaa
end

section
namespace Go.Proofs.Ytghdiolnonejaaa
open Go Go.RowKit
/-- A world in which the box of a call is as it was. -/
def DC (w : World) (dv : List Value) (w' : World) : Prop := Row w' w.heap.size 24 dv ∧ Below w.heap.size w w'
theorem DC.below {w : World} {dv : List Value} {W W' : World} (h : DC w dv W) (hb : Below W.heap.size W W') : DC w dv W' := ⟨h.1.below hb, h.2.trans (hb.mono h.2.size)⟩
theorem DC.drew {w : World} {dv : List Value} {W : World} (h : DC w dv W) : DC w dv W.drew := ⟨h.1, h.2.drew⟩
theorem DC.alloc {w : World} {dv : List Value} {W : World} (h : DC w dv W) (o : Obj) : DC w dv (W.alloc o) := h.below ((Below.refl _ _).alloc (Nat.le_refl _) o)
theorem DC.all {w : World} {a b c : Value} {W : World} (h : DC w [a, b, c] W) : W.cell? ⟨w.heap.size, 0, none⟩ = some a ∧ W.cell? ⟨w.heap.size, 1, none⟩ = some b ∧ W.cell? ⟨w.heap.size, 2, none⟩ = some c ∧ DC w [a, b, c] W :=
  ⟨h.1.cell (i := 0) (by simp), h.1.cell (i := 1) (by simp), h.1.cell (i := 2) (by simp), h⟩
theorem DC.start (w : World) (a b c : Value) : DC w [a, b, c] (w.alloc (.cells #[a, b, c] 24)) :=
  ⟨row_at (vs := [a, b, c]) rfl, (Below.refl _ _).alloc (Nat.le_refl _) _⟩
end Go.Proofs.Ytghdiolnonejaaa
end

section
namespace Go.Proofs.Ytghdiolnonejaaa.Pl
variable {N : Nat} {S : Nat → Prop} {f : Nat → Nat}
open Classical in
/-- The number of the cycle that holds x. -/
noncomputable def fcI (fs : List (List Nat)) (x : Nat) : Nat := if h : ∃ (i : Nat), ∃ (l : List Nat), fs[i]? = some l ∧ x ∈ l then h.choose else 0
theorem fcI_is {W : Nat → Prop} {fs : List (List Nat)} {bs : List Bool} (h : Fcs f W N N fs bs) {i x : Nat} {l : List Nat} (e : fs[i]? = some l) (hx : x ∈ l) : fcI fs x = i := by
  have hh : ∃ (i : Nat), ∃ (l : List Nat), fs[i]? = some l ∧ x ∈ l := ⟨i, l, e, hx⟩
  unfold fcI
  rw [dif_pos hh]
  obtain ⟨m, e2, h2⟩ := hh.choose_spec
  exact h.one _ _ m l x e2 e h2 hx
theorem Fcs.cls {W : Nat → Prop} (hb : Bij N S f) (hS : ∀ x, x < N → S x) {fs : List (List Nat)} {bs : List Bool} (h : Fcs f W N N fs bs) : Cls (fun x => x < N ∧ W x) (Orb f) fs.length := by
  have hin : ∀ x, x < N ∧ W x → ∃ (i : Nat) (l : List Nat), fs[i]? = some l ∧ x ∈ l := by
    intro x hx
    obtain ⟨l, h1, h2⟩ := (h.seen x hx.1).1 (h.all x hx.1 hx.2)
    obtain ⟨i, hi⟩ := List.getElem?_of_mem h1
    exact ⟨i, l, hi, h2⟩
  refine ⟨fcI fs, fun x hx => ?_, fun x y hx hy => ?_, fun i hi => ?_⟩
  · obtain ⟨i, l, e, hm⟩ := hin x hx
    rw [fcI_is h e hm]
    exact (List.getElem?_eq_some_iff.1 e).1
  · obtain ⟨i, l, e, hm⟩ := hin x hx
    obtain ⟨j, m, e2, hm2⟩ := hin y hy
    rw [fcI_is h e hm, fcI_is h e2 hm2]
    obtain ⟨a, p, a1, a2, a3, rfl⟩ := h.is l (List.mem_of_getElem? e)
    have ox := (mem_cyc a3).1 hm
    constructor
    · intro ee
      subst ee
      rw [e] at e2
      injection e2 with e2
      subst e2
      have oy := (mem_cyc a3).1 hm2
      exact (hb.symm (hS a a1) ox).trans oy
    · intro ee
      exact h.one i j _ m y e e2 ((mem_cyc a3).2 (ox.trans ee)) hm2
  · have e : fs[i]? = some fs[i] := List.getElem?_eq_getElem hi
    obtain ⟨a, p, a1, a2, a3, e2⟩ := h.is fs[i] (List.mem_of_getElem? e)
    refine ⟨a, ⟨a1, a2⟩, fcI_is h e ?_⟩
    rw [e2]
    exact (mem_cyc a3).2 (Orb.refl _ _)
end Go.Proofs.Ytghdiolnonejaaa.Pl
end
