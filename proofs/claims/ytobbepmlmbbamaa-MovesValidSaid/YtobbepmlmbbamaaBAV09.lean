/-
  The texts Wl, Wm, Cyc in one.
-/
import Derived.Test.YtobbepmlmbbamaaBAV08
import Derived.Test.YtobbepmlmbbamaaShelf
import Derived.Deep.AppendLies
import Derived.Maps.AppendAt
import Derived.Deep.RegionLaw
import Derived.StillTailTactics
import Derived.Deep.RegionHeld3
import Derived.Deep.DrawnRows
import Derived.Test.YtobbepmlmbbamaaBAV06
set_option linter.unusedVariables false
set_option linter.unusedSimpArgs false

section
/-
  Walks: shrunk.
-/
namespace Go.Proofs.Ytobbepmlmbbamaa
open Go Go.RowKit

/-- A diagram that is being written: its box, and the two rows that it owns so far. -/
structure Shk (w : World) (vS vM : Value) (ss : List Int) (ms : List Nat) (lp : Int) (W : World) : Prop where
  res : Row W w.heap.size 24 [.slice none 0 0, .slice none 0 0, .int .i64 0]
  box : Row W (w.heap.size + 1) 24 [vS, vM, .int .i64 lp]
  s : W.ownsRow (w.heap.size + 2) 3 1 vS ss.length (ss.map (.int .i64))
  m : W.ownsRow (w.heap.size + 2) 3 1 vM ms.length (ms.map (fun k : Nat => Value.int .i64 k))
  ne : ∀ g, vS.ownBlock = some g → vM.ownBlock ≠ some g
  bel : Below w.heap.size w W
theorem Shk.big {w : World} {vS vM : Value} {ss : List Int} {ms : List Nat} {lp : Int} {W : World} (h : Shk w vS vM ss ms lp W) : w.heap.size + 2 ≤ W.heap.size := by have := h.box.lt; omega
theorem Shk.below {w : World} {vS vM : Value} {ss : List Int} {ms : List Nat} {lp : Int} {W W' : World} (h : Shk w vS vM ss ms lp W) (hb : Below W.heap.size W W') : Shk w vS vM ss ms lp W' :=
  ⟨h.res.below hb, h.box.below hb, own_keep h.s hb (Nat.le_refl _), own_keep h.m hb (Nat.le_refl _), h.ne, h.bel.trans (hb.mono (by have := h.big; omega))⟩
theorem Shk.alloc {w : World} {vS vM : Value} {ss : List Int} {ms : List Nat} {lp : Int} {W : World} (h : Shk w vS vM ss ms lp W) (o : Obj) : Shk w vS vM ss ms lp (W.alloc o) := h.below ((Below.refl _ _).alloc (Nat.le_refl _) o)
theorem row_apart {W : World} {g : Nat} {vs : List Value} {base : Nat} {v : Value} {n : Nat} {xs : List Value} (h : Row W g 24 vs) (ho : W.ownsRow base 3 1 v n xs) : some g ≠ v.ownBlock := by
  intro e
  obtain ⟨cs, fr, h3⟩ := ownsRow_block ho g e.symm
  rw [h] at h3
  injection h3 with h3
  injection h3 with _ h4
  exact absurd h4 (by decide)
theorem Shk.appS {w : World} {vS vM v' : Value} {ss : List Int} {ms : List Nat} {lp x : Int} {W W2 : World} (h : Shk w vS vM ss ms lp W) (own : W2.ownsRow (w.heap.size + 2) 3 1 v' (ss.length + 1) (ss.map (.int .i64) ++ [.int .i64 x])) (gr : W.grownBy W2 vS.ownBlock) {g' : Nat} (hv : v'.ownBlock = some g') (hat0 : vS.ownBlock = some g' ∨ g' = W.heap.size) :
    Shk w v' vM (ss ++ [x]) ms lp (W2.setCell ⟨w.heap.size + 1, 0, none⟩ v') := by
  have hat : v'.ownBlock = vS.ownBlock ∨ v'.ownBlock = some W.heap.size := by
    rcases hat0 with e | e
    · exact .inl (hv.trans e.symm)
    · exact .inr (hv.trans (congrArg some e))
  have hlt := h.s.lt
  have hlm := h.m.lt
  refine ⟨(h.res.grown gr (row_apart h.res h.s)).other (by simp) _, (h.box.grown gr (row_apart h.box h.s)).set 0 v', ?_, ?_, ?_, ?_⟩
  · refine ownsRow_setCell_below ?_ (by simp) _
    simpa using own
  · refine ownsRow_setCell_below (h.m.kept gr ?_) (by simp) _
    cases hm : vM.ownBlock with
    | none => exact .inl rfl
    | some g => exact .inr (fun e => h.ne g e.symm hm)
  · intro g hg hm
    rcases hat with e | e
    · exact h.ne g (e ▸ hg) hm
    · rw [e] at hg
      injection hg with hg
      have := (hlm g hm).2
      omega
  · exact (h.bel.grown gr h.bel.size (fun k hk => by have := (hlt k hk).1; omega)).setCell (by simp) _
theorem Shk.appM {w : World} {vS vM v' : Value} {ss : List Int} {ms : List Nat} {lp : Int} {x : Nat} {W W2 : World} (h : Shk w vS vM ss ms lp W) (own : W2.ownsRow (w.heap.size + 2) 3 1 v' (ms.length + 1) (ms.map (fun k : Nat => Value.int .i64 k) ++ [.int .i64 x])) (gr : W.grownBy W2 vM.ownBlock) {g' : Nat} (hv : v'.ownBlock = some g') (hat0 : vM.ownBlock = some g' ∨ g' = W.heap.size) :
    Shk w vS v' ss (ms ++ [x]) lp (W2.setCell ⟨w.heap.size + 1, 1, none⟩ v') := by
  have hat : v'.ownBlock = vM.ownBlock ∨ v'.ownBlock = some W.heap.size := by
    rcases hat0 with e | e
    · exact .inl (hv.trans e.symm)
    · exact .inr (hv.trans (congrArg some e))
  have hlt := h.s.lt
  have hlm := h.m.lt
  refine ⟨(h.res.grown gr (row_apart h.res h.m)).other (by simp) _, (h.box.grown gr (row_apart h.box h.m)).set 1 v', ?_, ?_, ?_, ?_⟩
  · refine ownsRow_setCell_below (h.s.kept gr ?_) (by simp) _
    cases hm : vS.ownBlock with
    | none => exact .inl rfl
    | some g => exact .inr (fun e => h.ne g hm e.symm)
  · refine ownsRow_setCell_below ?_ (by simp) _
    simpa using own
  · intro g hg hm
    rcases hat with e | e
    · exact h.ne g hg (e ▸ hm)
    · rw [e] at hm
      injection hm with hm
      have := (hlt g hg).2
      omega
  · exact (h.bel.grown gr h.bel.size (fun k hk => by have := (hlm k hk).1; omega)).setCell (by simp) _
theorem one_news (W : World) (x : Value) : ∀ j u, [x][j]? = some u → (W.alloc (.cells #[x] 3)).cell? ((⟨W.heap.size, 0, none⟩ : Addr).add j) = some u := by
  intro j u hu
  match j, hu with
  | 0, hu => simp at hu; subst hu; exact (Lib.cell_of_heap (heap_alloc_new W _) 0).trans rfl
theorem contains_nats (gs : List Nat) (k : Nat) : (gs.map (fun m : Nat => (m : Int))).contains (k : Int) = gs.contains k := by
  rw [Bool.eq_iff_iff]
  simp
  exact ⟨fun ⟨a, h, e⟩ => (show a = k by omega) ▸ h, fun h => ⟨k, h, rfl⟩⟩
theorem contains_any (gs : List Nat) (A : Option Addr) (n c k : Nat) (w : World) (hg : IntsAt w A n (nats gs)) (hn : 1 ≤ n ∧ n ≤ 100) :
    Calls Try.prog 122 #[.slice A n c, .int .i64 (k : Int)] w fun e w' => e = .returned (.bool (gs.contains k)) ∧ w' = w := by
  have hl := hg.len
  obtain ⟨b, o, rfl, hc⟩ := hg.2 (by omega)
  have := Try.slices_Contains_int b o n c (nats gs) (k : Int) w (by omega) (by omega) (fun j hj => hc j _ (by
    rw [List.getElem?_map, List.getElem?_eq_getElem hj, List.getD_eq_getElem?_getD, List.getElem?_eq_getElem hj]; rfl))
  refine this.mono ?_
  rintro e w' ⟨rfl, rfl⟩
  refine ⟨?_, rfl⟩
  rw [List.take_of_length_le (by omega)]
  unfold nats
  rw [contains_nats]
/-- The mates that stay, of the first k crossings. -/
def shM (gs : List Nat) (mt : List Nat) (k : Nat) : List Nat := (Pl.left k gs).flatMap (Pl.four (fun h => Pl.shf gs (mt.getD h 0)))
def shS (gs : List Nat) (sg : List Int) (k : Nat) : List Int := (Pl.left k gs).map (fun c => sg.getD c 0)
theorem shM_stay {gs : List Nat} {k : Nat} (h : gs.contains k = false) (mt : List Nat) : shM gs mt (k + 1) = shM gs mt k ++ [Pl.shf gs (mt.getD (4 * k) 0), Pl.shf gs (mt.getD (4 * k + 1) 0), Pl.shf gs (mt.getD (4 * k + 2) 0), Pl.shf gs (mt.getD (4 * k + 3) 0)] := by
  unfold shM
  rw [Pl.left_succ, h, List.flatMap_append]
  rfl
theorem shM_gone {gs : List Nat} {k : Nat} (h : gs.contains k = true) (mt : List Nat) : shM gs mt (k + 1) = shM gs mt k := by
  unfold shM
  rw [Pl.left_succ, h]
  simp
theorem shS_stay {gs : List Nat} {k : Nat} (h : gs.contains k = false) (sg : List Int) : shS gs sg (k + 1) = shS gs sg k ++ [sg.getD k 0] := by
  unfold shS
  rw [Pl.left_succ, h, List.map_append]
  rfl
theorem shS_gone {gs : List Nat} {k : Nat} (h : gs.contains k = true) (sg : List Int) : shS gs sg (k + 1) = shS gs sg k := by
  unfold shS
  rw [Pl.left_succ, h]
  simp
theorem shS_len (gs : List Nat) (sg : List Int) (k : Nat) : (shS gs sg k).length ≤ k := by unfold shS; rw [List.length_map]; exact Pl.left_le k gs
theorem shM_len (gs : List Nat) (mt : List Nat) (k : Nat) : (shM gs mt k).length ≤ 4 * k := by unfold shM; rw [Pl.flat4]; have := Pl.left_le k gs; omega

theorem shr_fin {w : World} {vS vM : Value} {ss : List Int} {ms : List Nat} {lp : Int} {W : World} (h : Shk w vS vM ss ms lp W) :
    (((W.setCell ⟨w.heap.size, 0, none⟩ vS).setCell ⟨w.heap.size, 1, none⟩ vM).setCell ⟨w.heap.size, 2, none⟩ (.int .i64 lp)).cell? ⟨w.heap.size, 0, none⟩ = some vS ∧
    (((W.setCell ⟨w.heap.size, 0, none⟩ vS).setCell ⟨w.heap.size, 1, none⟩ vM).setCell ⟨w.heap.size, 2, none⟩ (.int .i64 lp)).cell? ⟨w.heap.size, 1, none⟩ = some vM ∧
    (((W.setCell ⟨w.heap.size, 0, none⟩ vS).setCell ⟨w.heap.size, 1, none⟩ vM).setCell ⟨w.heap.size, 2, none⟩ (.int .i64 lp)).cell? ⟨w.heap.size, 2, none⟩ = some (.int .i64 lp) := by
  have r := ((h.res.set 0 vS).set 1 vM).set 2 (.int .i64 lp)
  exact ⟨r.cell (i := 0) (by simp), r.cell (i := 1) (by simp), r.cell (i := 2) (by simp)⟩
theorem four_take {f : Nat → Nat} (k : Nat) {j : Nat} (hj : j < 4) : (Pl.four f k).take (j + 1) = (Pl.four f k).take j ++ [f (4 * k + j)] := by
  have h : j = 0 ∨ j = 1 ∨ j = 2 ∨ j = 3 := by omega
  rcases h with rfl | rfl | rfl | rfl <;> rfl
/-- What shrunk answers. -/
def ShrPost (gs : List Nat) (sg : List Int) (mt : List Nat) (lp : Int) (w : World) (e : Ending) (w' : World) : Prop :=
  ∃ vS vM : Value, e = .returned (.agg #[vS, vM, .int .i64 lp]) ∧ w'.ownsRow (w.heap.size + 2) 3 1 vS (Pl.left sg.length gs).length ((Pl.shrS gs sg).map (.int .i64)) ∧ w'.ownsRow (w.heap.size + 2) 3 1 vM (4 * (Pl.left sg.length gs).length) ((Pl.shrM gs sg.length mt).map (fun k : Nat => Value.int .i64 k)) ∧ Below w.heap.size w w'
set_option maxRecDepth 100000 in
set_option maxHeartbeats 2000000 in
theorem shrunk_any (gs : List Nat) (sg : List Int) (mt : List Nat) (lp : Int) (A B C : Option Addr) (n q r cp cq cr : Nat) (w : World) (hs : IntsAt w A n sg) (hm : IntsAt w B q (nats mt)) (hg : IntsAt w C r (nats gs)) (hf : Pl.Few gs)
    (hq : q = 4 * n) (hcq : q ≤ cq) (hcq2 : cq ≤ maxLen) (hn : n ≤ 100) (hr : 1 ≤ r ∧ r ≤ 100) (hmt : ∀ h, mt.getD h 0 ≤ 1000) :
    Calls Try.prog 83 #[.slice A n cp, .slice B q cq, .int .i64 lp, .slice C r cr] w (ShrPost gs sg mt lp w) := by
  unfold maxLen at hcq2
  have hls := hs.len
  have HQ := hide hq
  have HS := hide hs
  have HMT := hide hm
  have HG := hide hg
  have HLS := hide hls
  clear hq hs hm hg hls
  go_enter Try.func83, Try.ntmps83
  go_wp2
  have H0 := hide (show Shk w (.slice none 0 0) (.slice none 0 0) [] [] lp ((w.alloc (.cells #[.slice none 0 0, .slice none 0 0, .int .i64 0] 24)).alloc (.cells #[.slice none 0 0, .slice none 0 0, .int .i64 lp] 24)) from
    ⟨(Row.new w _ [_, _, _]).alloc _, by have := Row.new (w.alloc (.cells #[.slice none 0 0, .slice none 0 0, .int .i64 0] 24)) 24 [.slice none 0 0, .slice none 0 0, .int .i64 lp]; simpa using this,
     World.ownsRow_nil _ _ _ _, World.ownsRow_nil _ _ _ _, fun g h => by simp [Value.ownBlock] at h, ((Below.refl _ _).alloc (Nat.le_refl _) _).alloc (by simp) _⟩)
  go_loopg [18] n (fun g i wx => ∃ (k : Nat) (vS vM : Value), k + g = n ∧ i = .int .i64 k ∧ Shk w vS vM (shS gs sg k) (shM gs mt k) lp wx)
  case atStart => exact ⟨0, .slice none 0 0, .slice none 0 0, by omega, rfl, H0.out⟩
  case round =>
    clear H0
    obtain ⟨k, vS, vM, hkg, rfl, hk⟩ := hrel
    have HKG := hide hkg
    have hkn : k ≤ n := by omega
    have HK := hide hk
    clear hkg hk
    obtain ⟨go, rfl⟩ : ∃ go, go = gk := ⟨_, rfl⟩
    by_cases hlt : k < n
    · obtain ⟨ab, ao, rfl, hca⟩ := ints_pv (HS.out.keep HK.out.bel) hlt
      obtain ⟨x, hx⟩ : ∃ x, x = Pl.pv sg k := ⟨_, rfl⟩
      rw [← hx] at hca
      have HX := hide hx
      clear hx
      go_wp2_with fail
      refine (contains_any gs C r cr k _ (HG.out.keep HK.out.bel) hr).mono ?_
      rintro e w1 ⟨rfl, rfl⟩
      cases hc : gs.contains k with
      | true =>
        have HC := hide hc
        clear hc
        go_wp2
        go_roundg (go - 1)
        case measure => have := HKG.out; omega
        case rel => exact ⟨k + 1, vS, vM, by have := HKG.out; omega, by go_num, by rw [shM_gone HC.out, shS_gone HC.out]; exact HK.out⟩
      | false =>
        have HC := hide hc
        clear hc
        obtain ⟨i0, hi0, hz0, hz1, hz2⟩ := info_parts intInfo
        obtain ⟨e0, e1, e2, e3⟩ := box3 HK.out.box
        have hbig := HK.out.big
        have hsl := shS_len gs sg k
        obtain ⟨mb, mo, rfl, _⟩ := nats_at HMT.out (k := 4 * k) (by have := HQ.out; omega)
        have hq1 : (4 : Int) * (k : Int) + 4 ≤ (q : Int) := by have := HQ.out; omega
        have hq2 : (4 : Int) * (k : Int) + 4 ≤ (cq : Int) := by omega
        have hq3 : (q : Int) ≤ (cq : Int) := by omega
        go_wp2_with (at_builtin; refine wpList_append_lies _ (by rfl) _ _ 22 (by rfl) (w.heap.size + 2) 3 i0 (.int .i64 0) 1 8 Try.underlying22 hi0 hz0 hz1 hz2 rfl (by omega) vS (shS gs sg k).length ((shS gs sg k).map (.int .i64)) (by rfl) (HK.out.s.alloc _) ⟨w1.heap.size, 0, none⟩ 1 1 [.int .i64 x] (by rfl) (by rfl) (one_news w1 (.int .i64 x)) (by simp [Value.oneCell']) (by omega) (by unfold maxLen; omega) (by omega) (by simp; omega) (w1.heap.size + 1) (by simp) ?_; intro g2 c2 w2 own2 grow2 at2 lt2; obtain ⟨q0, q1, q2, q3⟩ := box3 (Row.grown (Row.alloc HK.out.box (.cells #[.int .i64 x] 3)) grow2 (row_apart (Row.alloc HK.out.box (.cells #[.int .i64 x] 3)) (World.ownsRow.alloc HK.out.s (.cells #[.int .i64 x] 3)))); have OWN2 := hide own2; have GR2 := hide grow2; have AT2 := hide at2; clear own2 grow2 at2)
        have H3 := hide (Shk.appS (HK.out.alloc (.cells #[.int .i64 x] 3)) OWN2.out GR2.out rfl (by simpa using AT2.out))
        clear q0 q1 q2 q3 e0 e1 e2 e3
        obtain ⟨vS', hvS'⟩ : ∃ v, v = Value.slice (some ⟨g2, 0, none⟩) ((shS gs sg k).length + 1) c2 := ⟨_, rfl⟩
        rw [← hvS'] at H3
        rw [HX.out, show Pl.pv sg k = sg.getD k 0 from rfl, ← shS_stay HC.out] at H3
        have HV := hide hvS'
        clear hvS'
        rw [show 4 * k + 4 - 4 * k = 4 from by omega]
        go_loopg [40] 4 (fun g i wx => ∃ (j : Nat) (vN : Value), j + g = 4 ∧ i = .int .i64 j ∧ Shk w vS' vN (shS gs sg (k + 1)) (shM gs mt k ++ (Pl.four (fun h => Pl.shf gs (mt.getD h 0)) k).take j) lp wx)
        case atStart => exact ⟨0, vM, by omega, rfl, by rw [← HV.out]; simpa using H3.out⟩
        case round =>
          clear H3
          obtain ⟨j, vN, hjg, rfl, hj⟩ := hrel
          have HJG := hide hjg
          have hj4 : j ≤ 4 := by omega
          have HJ := hide hj
          clear hjg hj
          by_cases hlj : j < 4
          · obtain ⟨mb', mo', e', hcm⟩ := nats_at (HMT.out.keep HJ.out.bel) (k := 4 * k + j) (by have := HQ.out; omega)
            injection e' with e'
            injection e' with e1' e2'
            subst e1'
            subst e2'
            obtain ⟨y, hy⟩ : ∃ y, y = mt.getD (4 * k + j) 0 := ⟨_, rfl⟩
            have hy1 := hmt (4 * k + j)
            rw [← hy, ← Nat.add_assoc] at hcm
            rw [← hy] at hy1
            have HY := hide hy
            clear hy
            obtain ⟨e0, e1, e2, e3⟩ := box3 HJ.out.box
            have hml := shM_len gs mt k
            have htl : ((Pl.four (fun h => Pl.shf gs (mt.getD h 0)) k).take j).length ≤ 4 := by have := List.length_take_le j (Pl.four (fun h => Pl.shf gs (mt.getD h 0)) k); omega
            have hll : (shM gs mt k ++ (Pl.four (fun h => Pl.shf gs (mt.getD h 0)) k).take j).length ≤ 404 := by rw [List.length_append]; omega
            obtain ⟨l, hl⟩ : ∃ l, l = shM gs mt k ++ (Pl.four (fun h => Pl.shf gs (mt.getD h 0)) k).take j := ⟨_, rfl⟩
            rw [← hl] at hll HJ
            have HL := hide hl
            clear hl hml htl
            have hbig2 := HJ.out.big
            go_wp2_with fail
            have P1 : ∀ u ∈ [Value.int .i64 (Pl.shf gs y : Nat)], u.oneCell' = true := by simp [Value.oneCell']
            have P2 : l.length + 1 ≤ maxLen := by unfold maxLen; omega
            have P3 : (l.length + 1) * 8 ≤ 140737488355328 := by omega
            have P4 : w.heap.size + 2 ≤ (wr.alloc (.cells #[.int .i64 (Pl.shf gs y : Nat)] 3)).drew.heap.size := by simp; omega
            have P5 : (wr.alloc (.cells #[.int .i64 (Pl.shf gs y : Nat)] 3)).drew.heap.size = wr.heap.size + 1 := by simp
            have PP := hide P1
            have P5H := hide P5
            have KB := hide (show Row (wr.alloc (.cells #[.int .i64 (Pl.shf gs y : Nat)] 3)).drew (w.heap.size + 1) 24 [vS', vN, .int .i64 lp] from Row.drew (Row.alloc HJ.out.box _))
            have KM := hide (show (wr.alloc (.cells #[.int .i64 (Pl.shf gs y : Nat)] 3)).drew.ownsRow (w.heap.size + 2) 3 1 vN l.length (l.map (fun k : Nat => Value.int .i64 k)) from ((HJ.out.m.alloc _).drew))
            clear P1 P5
            have HGd : IntsAt wr.drew C r (nats gs) := IntsAt.drew (HG.out.keep HJ.out.bel)
            obtain ⟨_, kb1, _, kb3⟩ := box3 KB.out
            go_region_law
              (first
                | (refine step_append_lies _ ?_ (.tmp 45) (.tmp 49) 22 ?_ (w.heap.size + 2) 3 i0 (.int .i64 0) 1 8 Try.underlying22 hi0 hz0 hz1 hz2 rfl Nat.zero_lt_one vN l.length (l.map (fun k : Nat => Value.int .i64 k)) ?_ KM.out ⟨wr.heap.size, 0, none⟩ 1 1 [.int .i64 (Pl.shf gs y : Nat)] ?_ rfl (World.news_of_block (cs := #[.int .i64 (Pl.shf gs y : Nat)]) (t := 3) (fr := (0, 0)) (heap_alloc_new wr _)) PP.out Nat.zero_lt_one P2 P3 P4 (wr.heap.size + 1) P5H.out ?_
                   · rfl
                   · rfl
                   · rfl
                   · rfl
                   intro g3 c3 w3 own3 grow3 at3 lt3
                   obtain ⟨q0, q1, q2, q3⟩ := box3 (KB.out.grown grow3 (row_apart KB.out KM.out))
                   have OWN3 := hide own3
                   have GR3 := hide grow3
                   have AT3 := hide at3
                   clear own3 grow3 at3 q0 q2)
                | (go_simp
                   go_wp2_with ((go_at_call 82); refine Calls.mono (shifted_any gs C r cr y _ ?_ (by omega) (by omega) hf) ?_; (focus (exact HGd)); rintro e w5 ⟨rfl, rfl⟩)))
            all_goals
              go_wp2
              go_roundg (gk - 1)
              case measure => have := HJG.out; omega
              case rel =>
                refine ⟨j + 1, .slice (some ⟨g3, 0, none⟩) (l.length + 1) c3, by have := HJG.out; omega, by go_num, ?_⟩
                have hh := Shk.appM (x := Pl.shf gs y) (Shk.below (HJ.out.alloc (.cells #[.int .i64 (Pl.shf gs y : Nat)] 3)) ((Below.refl _ _).drew)) OWN3.out GR3.out rfl (by simpa using AT3.out)
                rw [HL.out, HY.out, List.append_assoc, ← four_take (f := fun h => Pl.shf gs (mt.getD h 0)) k hlj, ← HL.out] at hh
                exact hh
          · have hj44 : j = 4 := by omega
            subst hj44
            go_wp2
            go_roundg (go - 1)
            case measure => have := HKG.out; omega
            case rel =>
              refine ⟨k + 1, vS', vN, by have := HKG.out; omega, by go_num, ?_⟩
              rw [shM_stay HC.out]
              exact HJ.out
    · obtain ⟨A2, c2, rfl⟩ := owns_slice HK.out.s
      obtain ⟨A3, c3, rfl⟩ := owns_slice HK.out.m
      obtain ⟨e0, e1, e2, e3⟩ := box3 HK.out.box
      obtain ⟨f0, f1, f2, f3⟩ := box3 HK.out.res
      have HFIN := hide (shr_fin HK.out)
      obtain rfl : k = n := by omega
      go_wp2
      refine bodyPost_ret (v := .agg #[.slice A2 (shS gs sg k).length c2, .slice A3 (shM gs mt k).length c3, .int .i64 lp]) ?_ rfl ?_
      · obtain ⟨r0, r1, r2⟩ := HFIN.out
        simp [results, Try.results83, go_sem, r0, r1, r2]
      · have e1 : shS gs sg k = Pl.shrS gs sg := by unfold shS Pl.shrS; rw [HLS.out]
        have e2 : shM gs mt k = Pl.shrM gs sg.length mt := by unfold shM Pl.shrM; rw [HLS.out]
        refine ⟨.slice A2 (shS gs sg k).length c2, .slice A3 (shM gs mt k).length c3, rfl, ?_, ?_, ?_⟩
        · rw [← Pl.shrS_len, ← e1]
          exact ownsRow_setCell_below (ownsRow_setCell_below (ownsRow_setCell_below HK.out.s (by simp) _) (by simp) _) (by simp) _
        · rw [← Pl.shrM_len gs sg.length mt, ← e2]
          exact ownsRow_setCell_below (ownsRow_setCell_below (ownsRow_setCell_below HK.out.m (by simp) _) (by simp) _) (by simp) _
        · exact ((HK.out.bel.setCell (by simp) _).setCell (by simp) _).setCell (by simp) _
end Go.Proofs.Ytobbepmlmbbamaa
end

section
/-
  Walks: uncurl (what it keeps; what it answers).
-/
namespace Go.Proofs.Ytobbepmlmbbamaa
open Go Go.RowKit

/-- What stays while two results are written: the diagram's box b, the inverse move's box gi; the results' boxes. -/
structure UC (w : World) (gi : Nat) (x0 x1 x2 y0 y1 y2 y3 y4 : Value) (W : World) : Prop where
  d : Row W w.heap.size 24 [x0, x1, x2]
  i : Row W gi 28 [y0, y1, y2, y3, y4]
  rd : ∃ vs, Row W (w.heap.size + 1 + 1) 24 vs ∧ vs.length = 3
  rm : ∃ us, Row W (w.heap.size + 1 + 1 + 1) 28 us ∧ us.length = 5
  bel : Below w.heap.size w W
  lo : w.heap.size + 1 + 1 + 1 < gi
section
variable {w : World} {gi : Nat} {x0 x1 x2 y0 y1 y2 y3 y4 : Value} {W W' : World}
theorem UC.drew (h : UC w gi x0 x1 x2 y0 y1 y2 y3 y4 W) : UC w gi x0 x1 x2 y0 y1 y2 y3 y4 W.drew := ⟨h.d, h.i, h.rd, h.rm, h.bel.drew, h.lo⟩
theorem UC.below (h : UC w gi x0 x1 x2 y0 y1 y2 y3 y4 W) (hb : Below W.heap.size W W') : UC w gi x0 x1 x2 y0 y1 y2 y3 y4 W' :=
  let ⟨vs, r1, l1⟩ := h.rd
  let ⟨us, r2, l2⟩ := h.rm
  ⟨h.d.below hb, h.i.below hb, ⟨vs, r1.below hb, l1⟩, ⟨us, r2.below hb, l2⟩, h.bel.trans (hb.mono h.bel.size), h.lo⟩
theorem UC.alloc (h : UC w gi x0 x1 x2 y0 y1 y2 y3 y4 W) (o : Obj) : UC w gi x0 x1 x2 y0 y1 y2 y3 y4 (W.alloc o) := h.below ((Below.refl _ _).alloc (Nat.le_refl _) o)
theorem UC.setD (h : UC w gi x0 x1 x2 y0 y1 y2 y3 y4 W) (o : Nat) (v : Value) : UC w gi x0 x1 x2 y0 y1 y2 y3 y4 (W.setCell ⟨w.heap.size + 1 + 1, o, none⟩ v) :=
  let ⟨vs, r1, l1⟩ := h.rd
  let ⟨us, r2, l2⟩ := h.rm
  have hl := h.lo
  ⟨h.d.other (by show _ ≠ w.heap.size + 1 + 1; omega) v, h.i.other (by show _ ≠ w.heap.size + 1 + 1; omega) v, ⟨vs.set o v, r1.set o v, by rw [List.length_set, l1]⟩, ⟨us, r2.other (by show _ ≠ w.heap.size + 1 + 1; omega) v, l2⟩, h.bel.setCell (by show _ ≤ w.heap.size + 1 + 1; omega) v, h.lo⟩
theorem UC.setM (h : UC w gi x0 x1 x2 y0 y1 y2 y3 y4 W) (o : Nat) (v : Value) : UC w gi x0 x1 x2 y0 y1 y2 y3 y4 (W.setCell ⟨w.heap.size + 1 + 1 + 1, o, none⟩ v) :=
  let ⟨vs, r1, l1⟩ := h.rd
  let ⟨us, r2, l2⟩ := h.rm
  have hl := h.lo
  ⟨h.d.other (by show _ ≠ w.heap.size + 1 + 1 + 1; omega) v, h.i.other (by show _ ≠ w.heap.size + 1 + 1 + 1; omega) v, ⟨vs, r1.other (by show _ ≠ w.heap.size + 1 + 1 + 1; omega) v, l1⟩, ⟨us.set o v, r2.set o v, by rw [List.length_set, l2]⟩, h.bel.setCell (by show _ ≤ w.heap.size + 1 + 1 + 1; omega) v, h.lo⟩
theorem UC.all (h : UC w gi x0 x1 x2 y0 y1 y2 y3 y4 W) : W.cell? ⟨w.heap.size, 0, none⟩ = some x0 ∧ W.cell? ⟨gi, 0, none⟩ = some y0 ∧ W.cell? ⟨gi, 1, none⟩ = some y1 ∧ W.cell? ⟨gi, 2, none⟩ = some y2 ∧ W.cell? ⟨gi, 3, none⟩ = some y3 ∧ W.cell? ⟨gi, 4, none⟩ = some y4 ∧
    W.cell? ⟨w.heap.size + 1 + 1, 0, none⟩ = some (cv W ⟨w.heap.size + 1 + 1, 0, none⟩) ∧ W.cell? ⟨w.heap.size + 1 + 1, 1, none⟩ = some (cv W ⟨w.heap.size + 1 + 1, 1, none⟩) ∧ W.cell? ⟨w.heap.size + 1 + 1, 2, none⟩ = some (cv W ⟨w.heap.size + 1 + 1, 2, none⟩) ∧
    W.cell? ⟨w.heap.size + 1 + 1 + 1, 0, none⟩ = some (cv W ⟨w.heap.size + 1 + 1 + 1, 0, none⟩) ∧ W.cell? ⟨w.heap.size + 1 + 1 + 1, 1, none⟩ = some (cv W ⟨w.heap.size + 1 + 1 + 1, 1, none⟩) ∧ W.cell? ⟨w.heap.size + 1 + 1 + 1, 2, none⟩ = some (cv W ⟨w.heap.size + 1 + 1 + 1, 2, none⟩) ∧ W.cell? ⟨w.heap.size + 1 + 1 + 1, 3, none⟩ = some (cv W ⟨w.heap.size + 1 + 1 + 1, 3, none⟩) ∧ W.cell? ⟨w.heap.size + 1 + 1 + 1, 4, none⟩ = some (cv W ⟨w.heap.size + 1 + 1 + 1, 4, none⟩) ∧
    (∀ o, W.frozen? ⟨w.heap.size + 1 + 1, o, none⟩ = false) ∧ (∀ o, W.frozen? ⟨w.heap.size + 1 + 1 + 1, o, none⟩ = false) ∧ UC w gi x0 x1 x2 y0 y1 y2 y3 y4 W := by
  obtain ⟨vs, r1, l1⟩ := h.rd
  obtain ⟨us, r2, l2⟩ := h.rm
  obtain ⟨d0, _, _, _⟩ := box3 h.d
  obtain ⟨i0, i1, i2, i3, i4, _⟩ := box5 h.i
  exact ⟨d0, i0, i1, i2, i3, i4, cv_some (r1.cell (i := 0) (by omega)), cv_some (r1.cell (i := 1) (by omega)), cv_some (r1.cell (i := 2) (by omega)), cv_some (r2.cell (i := 0) (by omega)), cv_some (r2.cell (i := 1) (by omega)), cv_some (r2.cell (i := 2) (by omega)), cv_some (r2.cell (i := 3) (by omega)), cv_some (r2.cell (i := 4) (by omega)), r1.free, r2.free, h⟩
end
theorem own_ints' {w : World} {base : Nat} {e : TypeId} {A : Option Addr} {n c : Nat} {zs : List Int} (h : w.ownsRow base e 1 (.slice A n c) n (zs.map (.int .i64))) : IntsAt w A n zs := by
  have hl := h.1
  rcases h.2 with ⟨h1, h2⟩ | ⟨g, cap, cur, h1, _⟩
  · subst h2
    exact ⟨by simpa using hl, fun h => absurd h (by omega)⟩
  · injection h1 with h1 _ h3
    subst h1
    exact own_ints h
theorem map_nats (l : List Nat) : (nats l).map (Value.int .i64) = l.map (fun k : Nat => Value.int .i64 k) := by unfold nats; rw [List.map_map]; rfl
theorem getD_m {d : Pl.Dg} {k : Nat} (hk : k < d.mt.length) : d.mt.getD k 0 = d.m k := by
  unfold Pl.Dg.m
  rw [List.getD_eq_getElem?_getD, List.getD_eq_getElem?_getD, List.getElem?_eq_getElem hk]; rfl
theorem getD_le {d : Pl.Dg} (hd : Pl.Wf d) (h : Nat) : d.mt.getD h 0 ≤ 256 := by
  have hn := hd.few
  have hl := hd.len
  by_cases hh : h < d.mt.length
  · rw [getD_m hh]
    have := hd.lt h (by omega)
    omega
  · rw [List.getD_eq_getElem?_getD, List.getElem?_eq_none (by omega)]
    exact Nat.zero_le _
theorem set_le {l : List Nat} {N a b : Nat} (h : ∀ k, l.getD k 0 ≤ N) (hb : b ≤ N) : ∀ k, (l.set a b).getD k 0 ≤ N := by
  intro k
  have hk := h k
  rw [List.getD_eq_getElem?_getD] at hk ⊢
  rw [List.getElem?_set]
  split
  · split
    · simpa using hb
    · simp
  · exact hk
theorem jn_le {l : List Nat} {N a b : Nat} (h : ∀ k, l.getD k 0 ≤ N) (ha : a ≤ N) (hb : b ≤ N) : ∀ k, (jn l a b).getD k 0 ≤ N := set_le (set_le h hb) ha

/-- The outer ends of the kink; what uncurl answers. -/
def kA (d : Pl.Dg) (c : Nat) : Nat := Pl.tn (kk d c) 2
def kB (d : Pl.Dg) (c : Nat) : Nat := Pl.tn (d.m (kk d c)) 2
def uncC (d : Pl.Dg) (c : Nat) : Int := if d.m (kk d c) / 4 = c then (if d.m (kA d c) = kB d c then (if 64 < d.lp + 1 then 5 else 0) else 0) else 6
def unM (d : Pl.Dg) (c : Nat) : List Nat := if d.m (kA d c) = kB d c then d.mt else jn d.mt (d.m (kA d c)) (d.m (kB d c))
def unD (d : Pl.Dg) (c : Nat) : Pl.Dg := ⟨Pl.shrS [c] d.sg, Pl.shrM [c] d.n (unM d c), if d.m (kA d c) = kB d c then d.lp + 1 else d.lp⟩
def unI (d : Pl.Dg) (c : Nat) : Mv := ⟨1, if d.m (kA d c) = kB d c then -1 else (Pl.shf [c] (d.m (kA d c)) : Nat), 0, d.s c, decide (kA d c % 2 = 1)⟩
def UncPost (d : Pl.Dg) (c : Nat) (w : World) (e : Ending) (w' : World) : Prop := (uncC d c ≠ 0 → ResErr (uncC d c) e) ∧ (uncC d c = 0 → ResOk (unD d c) (unI d c) e w') ∧ Below w.heap.size w w'
theorem kk_lt {d : Pl.Dg} {c : Nat} (hc : c < d.n) : kk d c < 4 * d.n := by unfold kk; split <;> (try split) <;> omega
theorem kA_lt {d : Pl.Dg} {c : Nat} (hc : c < d.n) : kA d c < 4 * d.n := Pl.tn_lt (kk_lt hc)
theorem kB_lt {d : Pl.Dg} (hd : Pl.Wf d) {c : Nat} (hc : c < d.n) : kB d c < 4 * d.n := Pl.tn_lt (hd.lt _ (kk_lt hc))
theorem shrunk_sl (gs : List Nat) (sg : List Int) (mt : List Nat) (lp : Int) (A B C : Option Addr) (n q r cp cq cr : Nat) (w : World) (hs : IntsAt w A n sg) (hm : IntsAt w B q (nats mt)) (hg : IntsAt w C r (nats gs)) (hf : Pl.Few gs)
    (hq : q = 4 * n) (hcq : q ≤ cq) (hcq2 : cq ≤ maxLen) (hn : n ≤ 100) (hr : 1 ≤ r ∧ r ≤ 100) (hmt : ∀ h, mt.getD h 0 ≤ 1000) :
    Calls Try.prog 83 #[.slice A n cp, .slice B q cq, .int .i64 lp, .slice C r cr] w fun e w' => ∃ (A7 A8 : Option Addr) (c7 c8 : Nat), e = .returned (.agg #[.slice A7 (Pl.left sg.length gs).length c7, .slice A8 (4 * (Pl.left sg.length gs).length) c8, .int .i64 lp]) ∧
      w'.ownsRow (w.heap.size + 2) 3 1 (.slice A7 (Pl.left sg.length gs).length c7) (Pl.left sg.length gs).length ((Pl.shrS gs sg).map (.int .i64)) ∧ w'.ownsRow (w.heap.size + 2) 3 1 (.slice A8 (4 * (Pl.left sg.length gs).length) c8) (4 * (Pl.left sg.length gs).length) ((Pl.shrM gs sg.length mt).map (fun k : Nat => Value.int .i64 k)) ∧ Below w.heap.size w w' := by
  refine (shrunk_any gs sg mt lp A B C n q r cp cq cr w hs hm hg hf hq hcq hcq2 hn hr hmt).mono ?_
  rintro e w' ⟨vS, vM, rfl, o1, o2, hb⟩
  obtain ⟨A7, c7, rfl⟩ := owns_slice o1
  obtain ⟨A8, c8, rfl⟩ := owns_slice o2
  exact ⟨A7, A8, c7, c8, rfl, o1, o2, hb⟩
/-- The four boxes that a move's function begins with. -/
def W4 (w : World) (x0 x1 x2 y0 y1 y2 y3 y4 : Value) : World := ((((w.alloc (.cells #[x0, x1, x2] 24)).alloc (.cells #[y0, y1, y2, y3, y4] 28)).alloc (.cells #[.slice none 0 0, .slice none 0 0, .int .i64 0] 24)).alloc (.cells #[.int .i64 0, .int .i64 0, .int .i64 0, .int .i64 0, .bool false] 28))
theorem row_at {W : World} {t : TypeId} {vs : List Value} {g : Nat} (h : g = W.heap.size) : Row (W.alloc (.cells vs.toArray t)) g t vs := by subst h; exact Row.new W t vs
theorem boxes4 (w : World) (x0 x1 x2 y0 y1 y2 y3 y4 : Value) :
    Row (W4 w x0 x1 x2 y0 y1 y2 y3 y4) w.heap.size 24 [x0, x1, x2] ∧ Row (W4 w x0 x1 x2 y0 y1 y2 y3 y4) (w.heap.size + 1) 28 [y0, y1, y2, y3, y4] ∧ Row (W4 w x0 x1 x2 y0 y1 y2 y3 y4) (w.heap.size + 1 + 1) 24 [.slice none 0 0, .slice none 0 0, .int .i64 0] ∧
    Row (W4 w x0 x1 x2 y0 y1 y2 y3 y4) (w.heap.size + 1 + 1 + 1) 28 [.int .i64 0, .int .i64 0, .int .i64 0, .int .i64 0, .bool false] ∧ Below w.heap.size w (W4 w x0 x1 x2 y0 y1 y2 y3 y4) ∧ (W4 w x0 x1 x2 y0 y1 y2 y3 y4).heap.size = w.heap.size + 4 := by
  unfold W4
  refine ⟨(((row_at (vs := [x0, x1, x2]) rfl).alloc _).alloc _).alloc _, ((row_at (vs := [y0, y1, y2, y3, y4]) (by simp)).alloc _).alloc _, (row_at (vs := [.slice none 0 0, .slice none 0 0, .int .i64 0]) (by simp)).alloc _, row_at (vs := [.int .i64 0, .int .i64 0, .int .i64 0, .int .i64 0, .bool false]) (by simp), ?_, by simp⟩
  exact ((((Below.refl _ _).alloc (Nat.le_refl _) _).alloc (by simp) _).alloc (by simp; omega) _).alloc (by simp; omega) _
end Go.Proofs.Ytobbepmlmbbamaa
end

section
/-
  Plain Lean: cycles of a permutation as lists; lists of cycles; numbers of cycles. No program is named here.
-/
namespace Go.Proofs.Ytobbepmlmbbamaa.Pl
variable {N : Nat} {S : Nat → Prop} {f : Nat → Nat}

/-- p is the period of x. -/
def Per (f : Nat → Nat) (x p : Nat) : Prop := 0 < p ∧ it f p x = x ∧ ∀ i, 0 < i → i < p → it f i x ≠ x
theorem least_nat {P : Nat → Prop} : ∀ (n : Nat), P n → ∃ m, m ≤ n ∧ P m ∧ ∀ k, k < m → ¬ P k
  | 0, h => ⟨0, Nat.le_refl _, h, fun k hk => absurd hk (by omega)⟩
  | n + 1, h => by
    by_cases e : ∃ k, k < n + 1 ∧ P k
    · obtain ⟨k, hk, hp⟩ := e
      obtain ⟨m, h1, h2, h3⟩ := least_nat k hp
      exact ⟨m, by omega, h2, h3⟩
    · exact ⟨n + 1, Nat.le_refl _, h, fun k hk hp => e ⟨k, hk, hp⟩⟩
termination_by n => n
theorem Bij.per (h : Bij N S f) {x : Nat} (hx : S x) : ∃ p, p ≤ N ∧ Per f x p := by
  obtain ⟨q, h1, h2, h3⟩ := h.back hx
  obtain ⟨m, g1, ⟨g2, g3⟩, g4⟩ := least_nat (P := fun p => 0 < p ∧ Pl.it f p x = x) q ⟨h1, h3⟩
  exact ⟨m, by omega, g2, g3, fun i hi hm e => g4 i hm ⟨hi, e⟩⟩
/-- The cycle from x, as a list. -/
def cyc (f : Nat → Nat) (x p : Nat) : List Nat := (List.range p).map (fun i => it f i x)
theorem cyc_len (f : Nat → Nat) (x p : Nat) : (cyc f x p).length = p := by unfold cyc; simp
theorem cyc_succ (f : Nat → Nat) (x p : Nat) : cyc f x (p + 1) = cyc f x p ++ [it f p x] := by unfold cyc; rw [List.range_succ, List.map_append]; rfl
theorem cyc_get {f : Nat → Nat} {x p i : Nat} (hi : i < p) : (cyc f x p).getD i 0 = it f i x := by
  unfold cyc
  rw [List.getD_eq_getElem?_getD, List.getElem?_map, List.getElem?_range hi]; rfl
theorem mem_cyc {x p : Nat} (hp : Per f x p) {y : Nat} : y ∈ cyc f x p ↔ Orb f x y := by
  unfold cyc
  rw [List.mem_map]
  constructor
  · rintro ⟨i, _, e⟩; exact ⟨i, e⟩
  · rintro ⟨k, e⟩
    refine ⟨k % p, List.mem_range.2 (Nat.mod_lt _ hp.1), ?_⟩
    have h1 : k = k % p + k / p * p := by rw [Nat.mul_comm]; exact (Nat.mod_add_div k p).symm
    rw [h1, it_add, it_mul f p x hp.2.1] at e
    exact e
/-- The cycles that begin below k, in order; all wanted ones, each once. -/
structure Fcs (f : Nat → Nat) (W : Nat → Prop) (N k : Nat) (fs : List (List Nat)) (bs : List Bool) : Prop where
  len : bs.length = N
  is : ∀ l, l ∈ fs → ∃ h p, h < N ∧ W h ∧ Per f h p ∧ l = cyc f h p
  seen : ∀ h, h < N → (gb bs h = true ↔ ∃ l, l ∈ fs ∧ h ∈ l)
  all : ∀ h, h < k → W h → gb bs h = true
  one : ∀ (i j : Nat) (l m : List Nat) (h : Nat), fs[i]? = some l → fs[j]? = some m → h ∈ l → h ∈ m → i = j
theorem Fcs.start (f : Nat → Nat) (W : Nat → Prop) (N : Nat) : Fcs f W N 0 [] (List.replicate N false) := by
  refine ⟨by simp, fun l h => by simp at h, fun h hh => ?_, fun h hh => absurd hh (by omega), fun i j l m h e => by simp at e⟩
  constructor
  · intro e; unfold gb at e; rw [List.getD_eq_getElem?_getD, List.getElem?_replicate, if_pos hh] at e; exact absurd e (by decide)
  · rintro ⟨l, h, _⟩; simp at h
theorem Fcs.skip {W : Nat → Prop} {k : Nat} {fs : List (List Nat)} {bs : List Bool} (h : Fcs f W N k fs bs) (hs : gb bs k = true ∨ ¬ W k) : Fcs f W N (k + 1) fs bs :=
  ⟨h.len, h.is, h.seen, fun x hx hw => by
    by_cases e : x = k
    · subst e
      rcases hs with hs | hs
      · exact hs
      · exact absurd hw hs
    · exact h.all x (by omega) hw, h.one⟩
/-- A cycle's members marked, j of them. -/
def mark (bs : List Bool) : List Nat → List Bool
  | [] => bs
  | x :: l => mark (bs.set x true) l
theorem mark_append (bs : List Bool) : ∀ (l m : List Nat), mark bs (l ++ m) = mark (mark bs l) m := by
  intro l
  induction l generalizing bs with
  | nil => intro m; rfl
  | cons x l ih => intro m; exact ih (bs.set x true) m
theorem mark_len (bs : List Bool) (l : List Nat) : (mark bs l).length = bs.length := by
  induction l generalizing bs with
  | nil => rfl
  | cons x l ih => show (mark (bs.set x true) l).length = _; rw [ih, List.length_set]
theorem gb_mark {bs : List Bool} {l : List Nat} (hl : ∀ x, x ∈ l → x < bs.length) (h : Nat) : gb (mark bs l) h = true ↔ gb bs h = true ∨ h ∈ l := by
  induction l generalizing bs with
  | nil => simp [mark]
  | cons x l ih =>
    show gb (mark (bs.set x true) l) h = true ↔ _
    rw [ih (fun y hy => by rw [List.length_set]; exact hl y (List.mem_cons_of_mem _ hy)), gb_set (hl x List.mem_cons_self) true h, List.mem_cons]
    by_cases e : h = x
    · simp [e]
    · simp [e]
theorem Fcs.add {W : Nat → Prop} (hb : Bij N S f) (hS : ∀ x, x < N → S x) (hN : ∀ x, S x → x < N) {k p : Nat} {fs : List (List Nat)} {bs : List Bool} (h : Fcs f W N k fs bs) (hk : k < N) (hw : W k) (hn : gb bs k = false) (hp : Per f k p) :
    Fcs f W N (k + 1) (fs ++ [cyc f k p]) (mark bs (cyc f k p)) := by
  have hin : ∀ x, x ∈ cyc f k p → x < bs.length := fun x hx => by
    rw [h.len]; exact hN x (hb.orb_mem (hS k hk) ((mem_cyc hp).1 hx))
  have apart : ∀ l x, l ∈ fs → x ∈ l → ¬ x ∈ cyc f k p := fun l x hl hx hc => by
    obtain ⟨g, q, h1, h2, h3, rfl⟩ := h.is l hl
    have e1 := (mem_cyc h3).1 hx
    have e2 := (mem_cyc hp).1 hc
    have e3 : Orb f g k := e1.trans (hb.symm (hS k hk) e2)
    have := (h.seen k hk).2 ⟨_, hl, (mem_cyc h3).2 e3⟩
    rw [hn] at this
    exact absurd this (by decide)
  refine ⟨by rw [mark_len, h.len], fun l hl => ?_, fun x hx => ?_, fun x hx hwx => ?_, fun i j l m x e1 e2 h1 h2 => ?_⟩
  · rcases List.mem_append.1 hl with hl | hl
    · exact h.is l hl
    · rw [List.mem_singleton] at hl
      exact ⟨k, p, hk, hw, hp, hl⟩
  · rw [gb_mark hin, h.seen x hx]
    constructor
    · rintro (⟨l, h1, h2⟩ | h2)
      · exact ⟨l, List.mem_append_left _ h1, h2⟩
      · exact ⟨_, List.mem_append_right _ (List.mem_singleton.2 rfl), h2⟩
    · rintro ⟨l, h1, h2⟩
      rcases List.mem_append.1 h1 with h1 | h1
      · exact .inl ⟨l, h1, h2⟩
      · rw [List.mem_singleton] at h1; subst h1; exact .inr h2
  · rw [gb_mark hin]
    by_cases e : x = k
    · subst e; exact .inr ((mem_cyc hp).2 (Orb.refl f x))
    · exact .inl (h.all x (by omega) hwx)
  · rw [List.getElem?_append] at e1 e2
    by_cases c1 : i < fs.length
    · rw [if_pos c1] at e1
      by_cases c2 : j < fs.length
      · rw [if_pos c2] at e2
        exact h.one i j l m x e1 e2 h1 h2
      · rw [if_neg c2] at e2
        have := List.mem_of_getElem? e2
        rw [List.mem_singleton] at this
        subst this
        exact absurd h2 (apart l x (List.mem_of_getElem? e1) h1)
    · rw [if_neg c1] at e1
      have t1 := List.mem_of_getElem? e1
      rw [List.mem_singleton] at t1
      by_cases c2 : j < fs.length
      · rw [if_pos c2] at e2
        subst t1
        exact absurd h1 (apart m x (List.mem_of_getElem? e2) h2)
      · rw [if_neg c2] at e2
        have a1 := (List.getElem?_eq_some_iff.1 e1).1
        have a2 := (List.getElem?_eq_some_iff.1 e2).1
        simp only [List.length_singleton] at a1 a2
        omega
/-- Numbers of cycles: two numbers agree just where one cycle holds both. -/
theorem Fcs.label {W : Nat → Prop} (hb : Bij N S f) (hS : ∀ x, x < N → S x) {fs : List (List Nat)} {bs : List Bool} (h : Fcs f W N N fs bs) (hW : ∀ x, x < N → W x) {F : Nat → Nat} (hF : ∀ (i : Nat) (l : List Nat) (x : Nat), fs[i]? = some l → x ∈ l → F x = i) {x y : Nat} (hx : x < N) (hy : y < N) : F x = F y ↔ Orb f x y := by
  obtain ⟨l, h1, h2⟩ := (h.seen x hx).1 (h.all x hx (hW x hx))
  obtain ⟨m, g1, g2⟩ := (h.seen y hy).1 (h.all y hy (hW y hy))
  obtain ⟨i, hi⟩ := List.getElem?_of_mem h1
  obtain ⟨j, hj⟩ := List.getElem?_of_mem g1
  rw [hF i l x hi h2, hF j m y hj g2]
  obtain ⟨a, p, a1, a2, a3, rfl⟩ := h.is l h1
  have ox := (mem_cyc a3).1 h2
  constructor
  · intro e
    subst e
    rw [hi] at hj
    injection hj with hj
    subst hj
    have oy := (mem_cyc a3).1 g2
    exact (hb.symm (hS a a1) ox).trans oy
  · intro e
    exact h.one i j _ m y hi hj ((mem_cyc a3).2 (ox.trans e)) g2
end Go.Proofs.Ytobbepmlmbbamaa.Pl
end
