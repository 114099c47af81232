/-
  The texts Tb, Ua, Ub, Uo in one.
-/
import Derived.Test.YtghdiolnonejaaaB22
import Derived.Test.YtghdiolnonejaaaB20
import Derived.Laws.Slices
import Derived.Deep.RegionWith
import Derived.Deep.DeepCutAuto
import Derived.Test.YtghdiolnonejaaaB21
import Derived.Test.YtghdiolnonejaaaB09
import Derived.Test.YtghdiolnonejaaaB16
set_option linter.unusedVariables false
set_option linter.unusedSimpArgs false

section
namespace Go.Proofs.Ytghdiolnonejaaa
open Go Go.RowKit
attribute [local go_sem ↓] Go.wp_at_zero Go.wp_at_succ
theorem Choose_n (r : Pl.Dg) (hr : Pl.Valid r) (A B : Option Addr) (n cp cq m lp : Nat) (c most : Int) (w : World) (hn : n = r.n) (hm : m = 4 * r.n) (hl : lp = r.lp) (hg : DgAt w A B r) :
    Calls Try.prog 45 #[.agg #[.slice A n cp, .slice B m cq, .int .i64 (lp : Int)], .int .i64 c, .int .i64 most] w (ChPost (chL r most) c w) := by
  subst hn
  subst hl
  exact Choose_any r hr A B cp cq m c most w hm hg
theorem apply_n (r : Pl.Dg) (hr : Pl.Valid r) (A B : Option Addr) (n cp cq m lp : Nat) (k x y s : Int) (o : Bool) (w : World) (hn : n = r.n) (hm : m = 4 * r.n) (hl : lp = r.lp) (hg : DgAt w A B r) :
    Calls Try.prog 23 #[.agg #[.slice A n cp, .slice B m cq, .int .i64 (lp : Int)], .agg #[.int .i64 k, .int .i64 x, .int .i64 y, .int .i64 s, .bool o]] w (ResC (apC r ⟨k, x, y, s, o⟩) (apD r ⟨k, x, y, s, o⟩) (apI r ⟨k, x, y, s, o⟩) w) := by
  subst hn
  subst hl
  exact apply_any r hr A B cp cq m ⟨k, x, y, s, o⟩ w hm hg
/-- While a walk goes on. -/
structure WL (w : World) (ga : Nat) (most : Int) (d : Pl.Dg) (cs : List Int) (k : Nat) (r : Pl.Dg) (l : List Mv) (v : Value) (A9 B9 : Option Addr) (n c8 m c9 lp : Nat) (W : World) : Prop where
  val : Pl.Valid r
  eq : wk most d cs = ((wk most r (cs.drop k)).1, l ++ (wk most r (cs.drop k)).2)
  hn : n = r.n
  hm : m = 4 * r.n
  hl : lp = r.lp
  at_ : Row W ga 24 [.slice A9 n c8, .slice B9 m c9, .int .i64 (lp : Int)]
  res : Row W (w.heap.size + 1) 24 [.slice none 0 0, .slice none 0 0, .int .i64 0]
  t : DgT W A9 B9 r
  own : W.ownsRow (ga + 1) 37 5 v l.length (mvs l)
  len : l.length ≤ k
  bel : Below w.heap.size w W
  lo : w.heap.size + 1 < ga
section
variable {w W W' : World} {ga k : Nat} {most : Int} {d r : Pl.Dg} {cs : List Int} {l : List Mv} {v : Value} {A9 B9 : Option Addr} {n c8 m c9 lp : Nat}
theorem WL.below (h : WL w ga most d cs k r l v A9 B9 n c8 m c9 lp W) (hb : Below W.heap.size W W') : WL w ga most d cs k r l v A9 B9 n c8 m c9 lp W' :=
  ⟨h.val, h.eq, h.hn, h.hm, h.hl, h.at_.below hb, h.res.below hb, h.t.keep hb, own_below h.own hb, h.len, h.bel.trans (hb.mono h.bel.size), h.lo⟩
theorem WL.alloc (h : WL w ga most d cs k r l v A9 B9 n c8 m c9 lp W) (o : Obj) : WL w ga most d cs k r l v A9 B9 n c8 m c9 lp (W.alloc o) := h.below ((Below.refl _ _).alloc (Nat.le_refl _) o)
end
theorem own_row_neM {W : World} {base b n : Nat} {t : TypeId} {v : Value} {xs vs : List Value} (h : W.ownsRow base 37 5 v n xs) (hr : Row W b t vs) (ht : 37 ≠ t) : some b ≠ v.ownBlock := by
  intro e
  obtain ⟨cs, fr, h3⟩ := ownsRow_block h b e.symm
  rw [hr] at h3
  injection h3 with h3
  injection h3 with _ h4
  exact ht h4.symm
theorem DgT.grownM {w w' : World} {A B : Option Addr} {d : Pl.Dg} {base n : Nat} {v : Value} {xs : List Value} (h : DgT w A B d) (ho : w.ownsRow base 37 5 v n xs) (hg : w.grownBy w' v.ownBlock) : DgT w' A B d :=
  ⟨h.s.grown hg (fun g e => ownsRow_block ho g e) (by decide), h.m.grown hg (fun g e => ownsRow_block ho g e) (by decide)⟩
theorem WL.post {w W W' : World} {ga k : Nat} {most : Int} {d r : Pl.Dg} {cs : List Int} {l : List Mv} {v : Value} {A9 B9 : Option Addr} {n c8 m c9 lp : Nat} (h : WL w ga most d cs k r l v A9 B9 n c8 m c9 lp W) (he : wk most d cs = (r, l)) (hb : Below w.heap.size w W') (hT : DgT W' A9 B9 r) (ho : W'.ownsRow (ga + 1) 37 5 v l.length (mvs l)) (hs : ga < W'.heap.size) :
    WalkPost (wk most d cs).1 (wk most d cs).2 w (.returned (.tuple #[.agg #[.slice A9 n c8, .slice B9 m c9, .int .i64 (lp : Int)], v, .int .i64 0])) W' := by
  rw [he, h.hn, h.hm, h.hl]
  exact ⟨A9, B9, c8, c9, v, rfl, hT, ⟨ga + 1, by have := h.lo; omega, hs, ho⟩, hb⟩
theorem wk_next {most : Int} {r d : Pl.Dg} {cs : List Int} {k : Nat} {l : List Mv} {z : Mv} (hk : k < cs.length) (h : wk most d cs = ((wk most r (cs.drop k)).1, l ++ (wk most r (cs.drop k)).2)) (hz : (chL r most)[chI (cs.getD k 0) (chL r most).length]? = some z) :
    wk most d cs = ((wk most (apD r z) (cs.drop (k + 1))).1, (l ++ [z]) ++ (wk most (apD r z) (cs.drop (k + 1))).2) := by
  have e : cs.drop k = cs.getD k 0 :: cs.drop (k + 1) := by
    rw [List.drop_eq_getElem_cons hk, List.getD_eq_getElem?_getD, List.getElem?_eq_getElem hk]; rfl
  rw [h, e, wk_some hz]
  simp
set_option maxRecDepth 100000 in
set_option maxHeartbeats 8000000 in
theorem walk_any (d : Pl.Dg) (hd : Pl.Valid d) (A B C : Option Addr) (cp cq m nc cc : Nat) (cs : List Int) (most : Int) (w : World) (hm : m = 4 * d.n) (hg : DgAt w A B d) (hc : IntsAt w C nc cs) (hnc : nc ≤ 10000) :
    Calls Try.prog 22 #[.agg #[.slice A d.n cp, .slice B m cq, .int .i64 d.lp], .slice C nc cc, .int .i64 most] w (WalkPost (wk most d cs).1 (wk most d cs).2 w) := by
  have HM := hide hm
  have HG := hide hg
  have HCS := hide hc
  have HCL := hide hc.len
  have hn := hd.wf.few
  have HD := hide hd
  clear hm hg hc
  have R0 := hide ((row_at (W := w) (g := w.heap.size) (t := 24) (vs := [.slice A d.n cp, .slice B m cq, .int .i64 (d.lp : Int)]) rfl).alloc (.cells #[.slice none 0 0, .slice none 0 0, .int .i64 0] 24))
  have S0 := hide (row_at (W := w.alloc (.cells #[.slice A d.n cp, .slice B m cq, .int .i64 (d.lp : Int)] 24)) (g := w.heap.size + 1) (t := 24) (vs := [.slice none 0 0, .slice none 0 0, .int .i64 0]) (by simp))
  have B0 := hide (show Below w.heap.size w ((w.alloc (.cells #[.slice A d.n cp, .slice B m cq, .int .i64 (d.lp : Int)] 24)).alloc (.cells #[.slice none 0 0, .slice none 0 0, .int .i64 0] 24)) from ((Below.refl _ _).alloc (Nat.le_refl _) _).alloc (by simp) _)
  go_enter Try.func22, Try.ntmps22
  go_wp2_with fail
  refine (valid_yes d hd A B cp cq m _ HM.out (HG.out.keep B0.out)).mono ?_
  rintro e w1 ⟨rfl, hb1⟩
  have R1 := hide (R0.out.below hb1)
  have S1 := hide (S0.out.below hb1)
  have B1 := hide (B0.out.trans (hb1.mono B0.out.size))
  clear hb1 R0 S0 B0
  obtain ⟨d0, d1, d2, d3⟩ := box3 R1.out
  have hnc1 : ¬ ((10000 : Int) < (nc : Int)) := by omega
  go_wp2_with fail
  refine (clone_all d A B cp cq m _ HM.out (HG.out.keep B1.out) hn).mono ?_
  rintro e w2 ⟨A9, B9, c8, c9, rfl, hT, hb2⟩
  have hw2 : w.heap.size + 1 < w2.heap.size := (S1.out.below hb2).lt
  have L0 := hide (show WL w w2.heap.size most d cs 0 d [] (.slice none 0 0) A9 B9 d.n c8 m c9 d.lp (w2.alloc (.cells #[.slice A9 d.n c8, .slice B9 m c9, .int .i64 (d.lp : Int)] 24)) from
    ⟨HD.out, by simp, rfl, HM.out, rfl, row_at (vs := [.slice A9 d.n c8, .slice B9 m c9, .int .i64 (d.lp : Int)]) rfl, (S1.out.below hb2).alloc _, hT.keep ((Below.refl w2.heap.size w2).alloc (Nat.le_refl _) _), ⟨rfl, .inl ⟨rfl, rfl⟩⟩, Nat.le_refl _, (B1.out.trans (hb2.mono B1.out.size)).alloc (B1.out.trans (hb2.mono B1.out.size)).size _, hw2⟩)
  clear hb2 hT d0 d1 d2 d3 R1 S1 B1
  obtain ⟨V, hV⟩ : ∃ V, V = w2.alloc (.cells #[.slice A9 d.n c8, .slice B9 m c9, .int .i64 (d.lp : Int)] 24) := ⟨_, rfl⟩
  go_wp2
  rw [← hV] at L0 ⊢
  obtain ⟨ga, hga⟩ : ∃ g, g = w2.heap.size := ⟨_, rfl⟩
  rw [← hga] at L0 hw2 ⊢
  clear hV hga
  go_loopg [10, 12, 13, 14, 15, 16, 17, 30] nc (fun g s10 s12 s13 s14 s15 s16 s17 s30 wx => ∃ (k : Nat) (r : Pl.Dg) (l : List Mv) (A9 B9 : Option Addr) (n c8 m c9 lp : Nat), k + g = nc ∧ s30 = .int .i64 (k : Int) ∧ WL w ga most d cs k r l s10 A9 B9 n c8 m c9 lp wx)
  case atStart => exact ⟨0, _, _, _, _, _, _, _, _, _, by omega, rfl, L0.out⟩
  case round =>
    clear L0
    obtain ⟨k, r, l, A9, B9, n, c8, m, c9, lp, hkg, rfl, hl⟩ := hrel
    have HKG := hide hkg
    have K0 := hide hl
    have hln := hl.len
    have hknc : k ≤ nc := by omega
    have hlp := hl.val.wf.lp
    rw [← hl.hl] at hlp
    have hrn := hl.val.wf.few
    rw [← hl.hn] at hrn
    have hga0 := hl.lo
    have hga1 := hl.at_.lt
    clear hl
    obtain ⟨d0, d1, d2, d3⟩ := box3 K0.out.at_
    by_cases hk : k < nc
    · have hki : (k : Int) < (nc : Int) := by omega
      have k0 : (0 : Int) ≤ (k : Int) := by omega
      obtain ⟨b, o, rfl, x1⟩ := (HCS.out.keep K0.out.bel).at_ hk
      obtain ⟨u, hu⟩ : ∃ u, u = cs.getD k 0 := ⟨_, rfl⟩
      rw [← hu] at x1
      have HU := hide hu
      clear hu hkg
      go_wp2_with fail
      refine (Choose_n r K0.out.val A9 B9 n c8 c9 m lp u most _ K0.out.hn K0.out.hm K0.out.hl K0.out.t.at).mono ?_
      intro e w3 h3
      rcases h3.split with ⟨hno, rfl, hb3⟩ | ⟨zk, zx, zy, zs, zo, hz, rfl, hb3⟩
      · have K3 := hide (K0.out.below hb3)
        have hw3 : ga < w3.heap.size := K3.out.at_.lt
        have hw30 : w.heap.size + 1 < w3.heap.size := by omega
        have HE := hide (show wk most d cs = (r, l) by have := K0.out.eq; rw [wk_none hno] at this; simpa using this)
        clear h3 hno hb3 x1 d0 d1 d2 d3 K0
        obtain ⟨e0, e1, e2, e3⟩ := box3 K3.out.at_
        obtain ⟨f0, f1, f2, f3⟩ := box3 K3.out.res
        obtain ⟨A7, c7, rfl⟩ := owns_slice K3.out.own
        go_wp2
        have TT := K3.out.t.set3 K3.out.res (.slice A9 n c8) (.slice B9 m c9) (.int .i64 (lp : Int))
        have RR := row3 K3.out.res rfl (.slice A9 n c8) (.slice B9 m c9) (.int .i64 (lp : Int))
        have BB := below3 K3.out.bel (show w.heap.size ≤ w.heap.size + 1 by omega) (.slice A9 n c8) (.slice B9 m c9) (.int .i64 (lp : Int))
        have OO := ownsRow_setCell_below (ownsRow_setCell_below (ownsRow_setCell_below K3.out.own (a := ⟨w.heap.size + 1, 0, none⟩) (by show w.heap.size + 1 < ga + 1; omega) (.slice A9 n c8)) (a := ⟨w.heap.size + 1, 1, none⟩) (by show w.heap.size + 1 < ga + 1; omega) (.slice B9 m c9)) (a := ⟨w.heap.size + 1, 2, none⟩) (by show w.heap.size + 1 < ga + 1; omega) (.int .i64 (lp : Int))
        refine bodyPost_ret (v := .tuple #[.agg #[.slice A9 n c8, .slice B9 m c9, .int .i64 (lp : Int)], .slice A7 l.length c7, .int .i64 0]) ?_ rfl ?_
        · obtain ⟨r0, r1, r2, r3⟩ := box3 (RR.alloc (.cells #[.int .i64 0, .int .i64 0, .int .i64 0, .int .i64 0, .bool false] 37))
          simp [results, Try.results22, go_sem, r0, r1, r2]
        · exact K3.out.post HE.out (BB.alloc BB.size _) (TT.keep ((Below.refl _ _).alloc (Nat.le_refl _) _)) (OO.alloc _) (by simp; omega)
      · have K3 := hide (K0.out.below hb3)
        have K4 := hide (K3.out.alloc (.cells #[.int .i64 zk, .int .i64 zx, .int .i64 zy, .int .i64 zs, .bool zo] 37))
        have M4 := hide (row_at (W := w3) (g := w3.heap.size) (t := 37) (vs := [.int .i64 zk, .int .i64 zx, .int .i64 zy, .int .i64 zs, .bool zo]) rfl)
        have hw3 : ga < w3.heap.size := K3.out.at_.lt
        have HOK := hide (ch_ok (List.mem_of_getElem? hz))
        have HV2 := hide (ap_ok K0.out.val HOK.out).1
        have HEQ := hide (wk_next (z := ⟨zk, zx, zy, zs, zo⟩) (by rw [HCL.out]; exact hk) K0.out.eq (by rw [← HU.out]; exact hz))
        clear h3 hz hb3 x1 d0 d1 d2 d3 K0
        obtain ⟨e0, e1, e2, e3⟩ := box3 K3.out.at_
        go_wp2_with fail
        refine (apply_n r K4.out.val A9 B9 n c8 c9 m lp zk zx zy zs zo _ K4.out.hn K4.out.hm K4.out.hl K4.out.t.at).mono ?_
        intro e w5 hres
        obtain ⟨A8, B8, b8, b9, k9, x9, y9, s9, o9, hmv, rfl, hT⟩ := (hres.2.1 HOK.out).split
        have K5 := hide (K4.out.below hres.2.2)
        have M5 := hide (M4.out.below hres.2.2)
        obtain ⟨r2, hr2⟩ : ∃ r2, r2 = apD r ⟨zk, zx, zy, zs, zo⟩ := ⟨_, rfl⟩
        rw [← hr2] at hT HV2 HEQ ⊢
        have HT := hide hT
        have hr2n := HV2.out.wf.few
        have hr2l := HV2.out.wf.lp
        obtain ⟨N8, hN8⟩ : ∃ n, n = r2.n := ⟨_, rfl⟩
        obtain ⟨M8, hM8⟩ : ∃ n, n = 4 * r2.n := ⟨_, rfl⟩
        obtain ⟨L8, hL8⟩ : ∃ n, n = r2.lp := ⟨_, rfl⟩
        rw [← hM8, ← hN8, ← hL8]
        rw [← hN8] at hr2n
        rw [← hL8] at hr2l
        have HN8 := hide hN8
        have HM8 := hide hM8
        have HL8 := hide hL8
        have hw5 : w3.heap.size < w5.heap.size := M5.out.lt
        have hw50 : ga < w5.heap.size := by omega
        obtain ⟨g5, hg5⟩ : ∃ g, g = w3.heap.size := ⟨_, rfl⟩
        rw [← hg5] at M5 hw5 ⊢
        clear hmv hT hres hr2 hN8 hM8 hL8 e0 e1 e2 e3 K4 M4 K3 hg5 hw3
        obtain ⟨m0, m1, m2, m3, m4, m5⟩ := box5 M5.out
        obtain ⟨n0, hn0, hz0, hz1, hz2⟩ := info_parts moveInfo
        have K6 := hide ((K5.out.alloc (.cells #[.slice A8 N8 b8, .slice B8 M8 b9, .int .i64 (L8 : Int)] 24)).alloc (.cells #[.int .i64 k9, .int .i64 x9, .int .i64 y9, .int .i64 s9, .bool o9] 37))
        have D6 := hide ((row_at (W := w5) (g := w5.heap.size) (t := 24) (vs := [.slice A8 N8 b8, .slice B8 M8 b9, .int .i64 (L8 : Int)]) rfl).alloc (.cells #[.int .i64 k9, .int .i64 x9, .int .i64 y9, .int .i64 s9, .bool o9] 37))
        have T6 := hide (HT.out.keep (((Below.refl w5.heap.size w5).alloc (Nat.le_refl _) (.cells #[.slice A8 N8 b8, .slice B8 M8 b9, .int .i64 (L8 : Int)] 24)).alloc (by simp) (.cells #[.int .i64 k9, .int .i64 x9, .int .i64 y9, .int .i64 s9, .bool o9] 37)))
        have A0 := hide (K6.out.alloc (.cells (Mv.cells ⟨zk, zx, zy, zs, zo⟩).toArray 37)).own
        have A1 : ∀ u ∈ Mv.cells ⟨zk, zx, zy, zs, zo⟩, u.oneCell' = true := by simp [Mv.cells, Value.oneCell']
        have A2 : l.length + 1 ≤ maxLen := by unfold maxLen; omega
        have A3 : (l.length + 1) * 40 ≤ 140737488355328 := by omega
        have A4 : ga + 1 ≤ (((w5.alloc (.cells #[.slice A8 N8 b8, .slice B8 M8 b9, .int .i64 (L8 : Int)] 24)).alloc (.cells #[.int .i64 k9, .int .i64 x9, .int .i64 y9, .int .i64 s9, .bool o9] 37)).alloc (.cells (Mv.cells ⟨zk, zx, zy, zs, zo⟩).toArray 37)).heap.size := by simp; omega
        have A6 := hide (five_news ((w5.alloc (.cells #[.slice A8 N8 b8, .slice B8 M8 b9, .int .i64 (L8 : Int)] 24)).alloc (.cells #[.int .i64 k9, .int .i64 x9, .int .i64 y9, .int .i64 s9, .bool o9] 37)) (w5.heap.size + 1 + 1) (by simp) ⟨zk, zx, zy, zs, zo⟩)
        have G1 := hide hw50
        go_wp2_with (at_builtin; refine wpList_append_lies _ (by rfl) _ _ 27 (by rfl) (ga + 1) 37 n0 (.agg #[.int .i64 0, .int .i64 0, .int .i64 0, .int .i64 0, .bool false]) 5 40 Try.underlying27 hn0 hz0 hz1 hz2 rfl (by omega) _ l.length (mvs l) (by rfl) A0.out ⟨w5.heap.size + 1 + 1, 0, none⟩ 1 1 (Mv.cells ⟨zk, zx, zy, zs, zo⟩) (by rfl) (by rfl) A6.out A1 (by omega) A2 A3 A4 (w5.heap.size + 1 + 1 + 1) (by simp) ?_; intro g2 c2 w6 own2 grow2 at2 lt2; have OWN2 := hide own2; have K7 := hide (K6.out.alloc (.cells (Mv.cells ⟨zk, zx, zy, zs, zo⟩).toArray 37)); have AT6 := hide (K7.out.at_.grown grow2 (own_row_neM K7.out.own K7.out.at_ (by decide))); have RS6 := hide (K7.out.res.grown grow2 (own_row_neM K7.out.own K7.out.res (by decide))); have D7 := hide ((D6.out.alloc (.cells (Mv.cells ⟨zk, zx, zy, zs, zo⟩).toArray 37)).grown grow2 (own_row_neM K7.out.own (D6.out.alloc (.cells (Mv.cells ⟨zk, zx, zy, zs, zo⟩).toArray 37)) (by decide))); have T7 := hide ((T6.out.keep ((Below.refl _ _).alloc (Nat.le_refl _) (.cells (Mv.cells ⟨zk, zx, zy, zs, zo⟩).toArray 37))).grownM K7.out.own grow2); have B7 := hide (K7.out.bel.grown grow2 K7.out.bel.size (fun k hk => by have := (K7.out.own.lt k hk).1; have := K7.out.lo; omega)); have LN := hide K7.out.len; clear own2 grow2 at2; obtain ⟨e0, e1, e2, e3⟩ := box3 AT6.out; obtain ⟨f0, f1, f2, f3⟩ := box3 D7.out)
        go_roundg (gk - 1)
        case measure => have := HKG.out; omega
        case rel =>
          refine ⟨k + 1, r2, l ++ [⟨zk, zx, zy, zs, zo⟩], A8, B8, N8, b8, M8, b9, L8, by have := HKG.out; omega, by go_num, HV2.out, HEQ.out, HN8.out, HM8.out, HL8.out, row3 AT6.out rfl _ _ _, ?_, T7.out.set3 AT6.out _ _ _, ?_, ?_, below3 B7.out (by omega) _ _ _, hga0⟩
          · exact ((RS6.out.other (by show _ ≠ ga; omega) _).other (by show _ ≠ ga; omega) _).other (by show _ ≠ ga; omega) _
          · rw [mvs_app, List.length_append]
            exact ownsRow_setCell_below (ownsRow_setCell_below (ownsRow_setCell_below OWN2.out (Nat.lt_succ_self _) _) (Nat.lt_succ_self _) _) (Nat.lt_succ_self _) _
          · have := LN.out; simp; omega
    · have hki : ¬ ((k : Int) < (nc : Int)) := by omega
      have HE := hide (show wk most d cs = (r, l) by
        have := K0.out.eq
        rw [List.drop_eq_nil_of_le (by rw [HCL.out]; omega)] at this
        simpa [wk] using this)
      clear hkg d0 d1 d2 d3
      obtain ⟨e0, e1, e2, e3⟩ := box3 K0.out.at_
      obtain ⟨f0, f1, f2, f3⟩ := box3 K0.out.res
      have hl0 : w.heap.size + 1 < wr.heap.size := K0.out.res.lt
      obtain ⟨A7, c7, rfl⟩ := owns_slice K0.out.own
      go_wp2
      have TT := K0.out.t.set3 K0.out.res (.slice A9 n c8) (.slice B9 m c9) (.int .i64 (lp : Int))
      have RR := row3 K0.out.res rfl (.slice A9 n c8) (.slice B9 m c9) (.int .i64 (lp : Int))
      have BB := below3 K0.out.bel (show w.heap.size ≤ w.heap.size + 1 by omega) (.slice A9 n c8) (.slice B9 m c9) (.int .i64 (lp : Int))
      have OO := ownsRow_setCell_below (ownsRow_setCell_below (ownsRow_setCell_below K0.out.own (a := ⟨w.heap.size + 1, 0, none⟩) (by show w.heap.size + 1 < ga + 1; omega) (.slice A9 n c8)) (a := ⟨w.heap.size + 1, 1, none⟩) (by show w.heap.size + 1 < ga + 1; omega) (.slice B9 m c9)) (a := ⟨w.heap.size + 1, 2, none⟩) (by show w.heap.size + 1 < ga + 1; omega) (.int .i64 (lp : Int))
      refine bodyPost_ret (v := .tuple #[.agg #[.slice A9 n c8, .slice B9 m c9, .int .i64 (lp : Int)], .slice A7 l.length c7, .int .i64 0]) ?_ rfl ?_
      · obtain ⟨r0, r1, r2, r3⟩ := box3 RR
        simp [results, Try.results22, go_sem, r0, r1, r2]
      · exact K0.out.post HE.out BB TT OO (by simp; omega)
end Go.Proofs.Ytghdiolnonejaaa
end

section
namespace Go.Proofs.Ytghdiolnonejaaa
open Go Go.RowKit
attribute [local go_sem ↓] Go.wp_at_zero Go.wp_at_succ
set_option maxRecDepth 100000 in
set_option maxHeartbeats 4000000 in
theorem eq_moves (ms : List Mv) (A B : Option Addr) (n c c2 : Nat) (w : World) (hA : MovesV w A n ms) (hB : MovesV w B n ms) (hn : n ≤ 1000000) :
    Calls Try.prog 26 #[.slice A n c, .slice B n c2] w fun e w' => e = .returned (.bool true) ∧ Below w.heap.size w w' := by
  have HA := hide hA
  have HB := hide hB
  clear hA hB
  go_enter Try.func26, Try.ntmps26
  go_wp2
  go_loopg [5, 13] n (fun g s5 i wx => ∃ k : Nat, k + g = n ∧ i = .int .i64 k ∧ Below w.heap.size w wx)
  case atStart => exact ⟨0, by omega, rfl, Below.refl _ _⟩
  case round =>
    obtain ⟨q, hkg, rfl, hb⟩ := hrel
    have HBW := hide hb
    have HKG := hide hkg
    clear hb
    by_cases hk : q < n
    · have hki : (q : Int) < (n : Int) := by omega
      have k0 : (0 : Int) ≤ (q : Int) := by omega
      obtain ⟨ga, k, x, y, s, o, rfl, _, hz, a0, a1, a2, a3, a4⟩ := (HA.out.keep HBW.out).at_ hk
      obtain ⟨gb, k', x', y', s', o', rfl, _, hz', b0, b1, b2, b3, b4⟩ := (HB.out.keep HBW.out).at_ hk
      rw [hz] at hz'
      obtain ⟨rfl, rfl, rfl, rfl, rfl⟩ : k = k' ∧ x = x' ∧ y = y' ∧ s = s' ∧ o = o' := by simpa using hz'
      clear hz hz' hkg
      go_upto_region 6 with fail
      go_quiet (fail)
      go_wp2
      go_roundg (gk - 1)
      case measure => have := HKG.out; omega
      case rel => exact ⟨q + 1, by have := HKG.out; omega, by go_num, below_drewN HBW.out _⟩
    · have hki : ¬ ((q : Int) < (n : Int)) := by omega
      clear hkg
      go_wp2
      go_ret
      exact ⟨rfl, HBW.out⟩
/-- The first part of a list, and the rest. -/
theorem elemI : Try.prog.underlying 22 = some (.slice (Try.prog.elem 22)) := by kernel_rfl
theorem sizeI (W : World) : (sizeOf (Try.prog.elem 22)).run Try.prog W = .ok 1 W := by kernel_rfl
theorem cut_lo {w : World} {A : Option Addr} {n c : Nat} {xs : List Int} (h : IntsAt w A n xs) {k : Nat} (hk : k ≤ n) (hc : n ≤ c) :
    ∃ A1 : Option Addr, IntsAt w A1 k (xs.take k) ∧ ∀ W : World, (Instr.slice 22 (.slice A n c) none (some (.int .i64 (k : Int))) none).run Try.prog W = .ok (.slice A1 k c) W := by
  have hl := h.len
  refine ⟨if c = 0 then A else A.map (·.add (0 * 1)), ⟨by simp; omega, fun hp => ?_⟩, fun W => ?_⟩
  · obtain ⟨b, o, rfl, hx⟩ := h.2 (by omega)
    rw [if_neg (by omega)]
    refine ⟨b, o, by simp [Addr.add_lit], fun j u hu => hx j u ?_⟩
    rw [List.map_take, List.getElem?_take] at hu
    split at hu
    · exact hu
    · cases hu
  · rw [run_slice_h W 22 A n c elemI .i64 (k : Int) (by omega) (by omega), sizeI]
    rfl
theorem cut_hi {w : World} {A : Option Addr} {n c : Nat} {xs : List Int} (h : IntsAt w A n xs) {k : Nat} (hk : k ≤ n) (hc : n ≤ c) :
    ∃ A1 : Option Addr, IntsAt w A1 (n - k) (xs.drop k) ∧ ∀ W : World, (Instr.slice 22 (.slice A n c) (some (.int .i64 (k : Int))) none none).run Try.prog W = .ok (.slice A1 (n - k) (c - k)) W := by
  have hl := h.len
  refine ⟨if c = k then A else A.map (·.add (k * 1)), ⟨by simp; omega, fun hp => ?_⟩, fun W => ?_⟩
  · obtain ⟨b, o, rfl, hx⟩ := h.2 (by omega)
    rw [if_neg (by omega)]
    refine ⟨b, o + k, by simp [Addr.add_lit], fun j u hu => ?_⟩
    rw [List.map_drop, List.getElem?_drop] at hu
    rw [Nat.add_assoc]
    exact hx _ u hu
  · rw [run_slice_l W 22 A n c elemI .i64 (k : Int) (by omega) (by omega), sizeI]
    rfl
section
variable {P : Program} (w : World)
theorem wpList_append_srcG {ops : Array Oper} {rest : List Oper} {o : Oper} {a : Act} {Q : Exit → Act → World → Prop} (hgd : Region.wanted o (yielded ops a.tmps) = true) (s x : Operand) (t : TypeId)
    (ho : o.op = .call { callee := .builtin .append, args := #[s, x], argTypes := #[t, t] })
    (base : Nat) (e : TypeId) (i : TypeInfo) (z : Value) (bytes : Nat) (ht : P.underlying t = some (.slice e)) (hi : P.info? e = some i) (hz : i.zero = some z)
    (hsize : i.size = 5) (hby : i.bytes = bytes) (hzs : z.cells.size = 5)
    (v : Value) (n : Nat) (xs : List Value) (hs : a.eval s = v) (hown : w.ownsRow base e 5 v n xs)
    (A : Option Addr) (m c : Nat) (ys : List Value) (hx : a.eval x = .slice A m c) (hin : SrcAt w A m ys)
    (h63 : n + m ≤ maxLen) (hbytes : (n + m) * bytes ≤ 140737488355328) (hbase : base ≤ w.heap.size)
    (h : ∀ v' w', w'.ownsRow base e 5 v' (n + m) (xs ++ ys) → w.grownBy w' v.ownBlock → wpList P ops Q rest (a.put o.dst v') w') : wpList P ops Q (o :: rest) a w :=
  wpList_step fun K hK => by rw [if_pos hgd]; exact wp_append_src w s x t ho base e i z bytes ht hi hz hsize hby hzs v n xs hs hown A m c ys hx hin h63 hbytes hbase fun v' w' h2 h3 => hK _ _ (h v' w' h2 h3)
end
theorem src_of {w : World} {A : Option Addr} {n c : Nat} {ms : List Mv} (h : MovesAt w (.slice A n c) ms) : n = ms.length ∧ SrcAt w A n (mvs ms) := by
  obtain ⟨A', c', e, h2⟩ := h.src
  injection e with e1 e2 e3
  subst e1
  subst e2
  exact ⟨rfl, h2⟩
/-- An empty list that was just made. -/
theorem own_empty (w : World) (t : TypeId) : (w.alloc (.cells #[] t)).ownsRow w.heap.size t 5 (.slice (some ⟨w.heap.size, 0, none⟩) 0 0) 0 [] :=
  ⟨rfl, .inr ⟨w.heap.size, 0, #[], rfl, Nat.le_refl _, heap_alloc_new w _, Nat.le_refl _, Nat.zero_le _, rfl, rfl⟩⟩
/-- An owned row as a list of moves. -/
theorem movesV_own {w : World} {base n : Nat} {A : Option Addr} {c : Nat} {ms : List Mv} (h : w.ownsRow base 37 5 (.slice A n c) n (mvs ms)) (hn : n = ms.length) : MovesV w A n ms := by
  subst hn
  obtain ⟨A', c', e, h2⟩ := MovesAt.mv ⟨base, h⟩
  injection e with e1
  subst e1
  exact h2
theorem mvs_append (a b : List Mv) : mvs (a ++ b) = mvs a ++ mvs b := by unfold mvs; exact List.flatMap_append
end Go.Proofs.Ytghdiolnonejaaa
end

section
namespace Go.Proofs.Ytghdiolnonejaaa
open Go Go.RowKit
attribute [local go_sem ↓] Go.wp_at_zero Go.wp_at_succ
theorem in_slice {b : Nat} {w : World} {v : Value} {ms : List Mv} (h : MovesIn b w v ms) : ∃ (A : Option Addr) (c : Nat), v = .slice A ms.length c := by
  obtain ⟨base, _, _, h⟩ := h
  exact owns_slice h
theorem in_alloc {b b' : Nat} {w : World} {v : Value} {ms : List Mv} (h : MovesIn b w v ms) (o : Obj) (hb : b' ≤ b := by exact Nat.le_refl _) : MovesIn b' (w.alloc o) v ms := by
  obtain ⟨base, h1, h2, h⟩ := h
  exact ⟨base, Nat.le_trans hb h1, by simp; omega, h.alloc o⟩
theorem in_set3 {b g : Nat} {w : World} {v : Value} {ms : List Mv} (hg : g < b) (h : MovesIn b w v ms) (y0 y1 y2 : Value) : MovesIn g (((w.setCell ⟨g, 0, none⟩ y0).setCell ⟨g, 1, none⟩ y1).setCell ⟨g, 2, none⟩ y2) v ms := by
  obtain ⟨base, h1, h2, h⟩ := h
  exact ⟨base, by omega, by simpa using h2, ownsRow_setCell_below (ownsRow_setCell_below (ownsRow_setCell_below h (a := ⟨g, 0, none⟩) (by show g < base; omega) y0) (a := ⟨g, 1, none⟩) (by show g < base; omega) y1) (a := ⟨g, 2, none⟩) (by show g < base; omega) y2⟩
theorem below_drewA {V W : World} {o : Obj} (h : Below (V.alloc o).heap.size (V.alloc o) W) : Below V.heap.size V W := ((Below.refl _ _).alloc (Nat.le_refl _) o).trans (h.mono (by simp))
theorem below_dr {V W : World} (h : Below V.drew.heap.size V.drew W) : Below V.heap.size V W := (Below.refl V.heap.size V).drew.trans (h.mono (Nat.le_refl V.heap.size))
theorem below_drA {V W : World} {o : Obj} (h : Below (V.alloc o).drew.heap.size (V.alloc o).drew W) : Below V.heap.size V W := below_drewA (below_dr h)
theorem in_setA {V w : World} {o : Obj} {v : Value} {ms : List Mv} (h : MovesIn (V.alloc o).drew.heap.size w v ms) (y0 y1 y2 : Value) : MovesIn V.heap.size (((w.setCell ⟨V.heap.size, 0, none⟩ y0).setCell ⟨V.heap.size, 1, none⟩ y1).setCell ⟨V.heap.size, 2, none⟩ y2) v ms :=
  in_set3 (show V.heap.size < (V.alloc o).heap.size by simp) h y0 y1 y2
set_option maxRecDepth 100000 in
set_option maxHeartbeats 8000000 in
theorem steps_valid (d : Pl.Dg) (hd : Pl.Valid d) (A B C : Option Addr) (cp cq m nc cc k : Nat) (cs : List Int) (most : Int) (w : World) (hm : m = 4 * d.n) (hg : DgAt w A B d) (hc : IntsAt w C nc cs) (hnc : nc ≤ cc) (hcc : cc ≤ maxLen) (hk : k < 256) :
    Calls Try.prog 5 #[.agg #[.slice A d.n cp, .slice B m cq, .int .i64 d.lp], .slice C nc cc, .int .i64 most, .int .u8 (k : Int)] w fun e w' => e = .returned (.bool true) ∧ Below w.heap.size w w' := by
  have HM := hide hm
  have HG := hide hg
  have HCS := hide hc
  have hn := hd.wf.few
  have hlp := hd.wf.lp
  unfold maxLen at hcc
  clear hm hg hc
  have X0 := hide (row_at (W := w) (g := w.heap.size) (t := 24) (vs := [.slice A d.n cp, .slice B m cq, .int .i64 (d.lp : Int)]) rfl)
  have B0 := hide (show Below w.heap.size w (w.alloc (.cells #[.slice A d.n cp, .slice B m cq, .int .i64 (d.lp : Int)] 24)) from (Below.refl _ _).alloc (Nat.le_refl _) _)
  go_enter Try.func5, Try.ntmps5
  go_wp2_with fail
  refine (awake11 _).mono ?_
  rintro e w1 ⟨rfl, hb1⟩
  have Y0 := hide (X0.out.below hb1)
  have B1 := hide (B0.out.trans (hb1.mono B0.out.size))
  clear X0 B0 hb1
  obtain ⟨d0, d1, d2, d3⟩ := box3 Y0.out
  go_wp2_with fail
  refine (great_any A B d.n m cp cq (d.lp : Int) w1).mono ?_
  rintro e w2 ⟨rfl, hb2⟩
  have Z0 := hide (Y0.out.below hb2)
  have B2 := hide (B1.out.trans (hb2.mono B1.out.size))
  clear Y0 B1 hb2 d0 d1 d2 d3
  obtain ⟨gb, hgb⟩ : ∃ b, b = grt d.n m (d.lp : Int) := ⟨_, rfl⟩
  rw [← hgb]
  clear hgb
  obtain ⟨d0, d1, d2, d3⟩ := box3 Z0.out
  cases gb with
  | true =>
    go_wp2
    go_ret
    exact ⟨rfl, B2.out⟩
  | false =>
    by_cases h3 : (3 : Int) < (nc : Int)
    · go_wp2
      go_ret
      exact ⟨rfl, B2.out⟩
    · by_cases h5 : (5 : Int) < most
      · go_wp2
        go_ret
        exact ⟨rfl, B2.out⟩
      · go_wp2_with fail
        refine (valid_yes d hd A B cp cq m _ HM.out (HG.out.keep B2.out)).mono ?_
        rintro e w3 ⟨rfl, hb3⟩
        have U0 := hide (Z0.out.below hb3)
        have B3 := hide (B2.out.trans (hb3.mono B2.out.size))
        clear Z0 B2 hb3 d0 d1 d2 d3
        obtain ⟨d0, d1, d2, d3⟩ := box3 U0.out
        have t0 : ¬ ((nc : Int) + 1 = 0) := by omega
        obtain ⟨l, hl⟩ : ∃ l, l = k % (nc + 1) := ⟨_, rfl⟩
        have hl5 : (k : Int) % ((nc : Int) + 1) = (l : Int) := by rw [hl]; rfl
        have hl5' : (k : Int).tmod ((nc : Int) + 1) = (l : Int) := by rw [hl]; rfl
        have hl4 : l ≤ nc := by have := Nat.mod_lt k (show nc + 1 > 0 by omega); omega
        clear hl
        obtain ⟨C1, hc1, hr1⟩ := cut_lo (HCS.out.keep B3.out) hl4 hnc
        obtain ⟨C2, hc2, hr2⟩ := cut_hi (HCS.out.keep B3.out) hl4 hnc
        have HC1 := hide hc1
        have HC2 := hide hc2
        clear hc1 hc2
        go_wp2_with fail
        refine (walk_any d hd A B C cp cq m nc cc cs most _ HM.out (HG.out.keep B3.out) (HCS.out.keep B3.out) (by omega)).mono ?_
        rintro e w4 ⟨A4, B4, c4, c4', v4, rfl, hT4, hv4, hb4⟩
        obtain ⟨r, hr⟩ : ∃ r, r = (wk most d cs).1 := ⟨_, rfl⟩
        obtain ⟨ms, hms⟩ : ∃ ms, ms = (wk most d cs).2 := ⟨_, rfl⟩
        rw [← hms] at hv4
        rw [← hr] at hT4 ⊢
        have HR := hide hr
        have HMS := hide hms
        clear hr hms
        obtain ⟨M4, e4, rfl, hs4⟩ := hv4.at.mv
        have V0 := hide (U0.out.below hb4)
        have B5 := hide (B3.out.trans (hb4.mono B3.out.size))
        have T4 := hide hT4
        have S4 := hide hs4
        have C14 := hide (HC1.out.keep hb4)
        have C24 := hide (HC2.out.keep hb4)
        have hw4 : w.heap.size < w4.heap.size := V0.out.lt
        clear U0 B3 hb4 hT4 hs4 hv4 HC1 HC2 d0 d1 d2 d3
        go_upto_region 7 with fail
        obtain ⟨V, hV⟩ : ∃ V, V = w4.alloc (.cells #[.slice A4 r.n c4, .slice B4 (4 * r.n) c4', .int .i64 (r.lp : Int)] 24) := ⟨_, rfl⟩
        have b6 : Below w4.heap.size w4 V := by rw [hV]; exact (Below.refl _ _).alloc (Nat.le_refl _) _
        obtain ⟨g4, hg4⟩ : ∃ g, g = w4.heap.size := ⟨_, rfl⟩
        have G6 := hide (show Row V g4 24 [.slice A4 r.n c4, .slice B4 (4 * r.n) c4', .int .i64 (r.lp : Int)] by rw [hV, hg4]; exact row_at (vs := [.slice A4 r.n c4, .slice B4 (4 * r.n) c4', .int .i64 (r.lp : Int)]) rfl)
        rw [← hV]
        have V6 := hide (V0.out.below b6)
        have B6 := hide (B5.out.trans (b6.mono B5.out.size))
        have T6 := hide (T4.out.keep b6)
        have S6 := hide (S4.out.keep b6)
        have C16 := hide (C14.out.keep b6)
        have C26 := hide (C24.out.keep b6)
        have D6 := hide (HG.out.keep B6.out)
        clear b6 hV V0 B5 T4 S4 C14 C24
        rw [← hg4] at hw4 ⊢
        clear hg4
        obtain ⟨d0, d1, d2, d3⟩ := box3 V6.out
        obtain ⟨hf, hhf⟩ : ∃ r, r = (wk most d (cs.take l)).1 := ⟨_, rfl⟩
        obtain ⟨ls1, has⟩ : ∃ ms, ms = (wk most d (cs.take l)).2 := ⟨_, rfl⟩
        have hv0 : w.heap.size < V.heap.size := V6.out.lt
        have hv4 : g4 < V.heap.size := G6.out.lt
        have DD := hide (show DgAt V.drew A B d from ⟨D6.out.s, D6.out.m⟩)
        have CD := hide (show IntsAt V.drew C1 l (cs.take l) from C16.out)
        go_cut [13, 14, 15] (fun s13 s14 s15 wx => ∃ (g7 : Nat) (A7 B7 : Option Addr) (c7 c7' : Nat), s13 = .pointer (some ⟨g7, 0, none⟩) ∧ s15 = .int .i64 0 ∧ V.heap.size ≤ g7 ∧ Row wx g7 24 [.slice A7 hf.n c7, .slice B7 (4 * hf.n) c7', .int .i64 (hf.lp : Int)] ∧ DgT wx A7 B7 hf ∧ MovesIn V.heap.size wx s14 ls1 ∧ Below V.heap.size V wx)
        case first =>
          subst hhf
          subst has
          go_region_with (first
            | (go_at_call 22
               refine (walk_any d hd A B C1 cp cq m l cc (cs.take l) most _ HM.out ?_ ?_ ?_).mono ?_
               · exact DD.out.keep ((Below.refl _ _).alloc (Nat.le_refl _) _)
               · exact CD.out.keep ((Below.refl _ _).alloc (Nat.le_refl _) _)
               · omega
               rintro e w7 ⟨A7, B7, c7, c7', v7, rfl, hT7, hv7, hb7⟩
               obtain ⟨M7, e7, rfl⟩ := in_slice hv7
               have r9 := (row_at (W := V.drew) (g := V.heap.size) (t := 24) (vs := [.slice none 0 0, .slice none 0 0, .int .i64 0]) rfl).below hb7
               obtain ⟨e0, e1, e2, e3⟩ := box3 r9)
            | (go_at_call 22
               refine (walk_any d hd A B C1 cp cq m l cc (cs.take l) most _ HM.out DD.out CD.out ?_).mono ?_
               · omega
               rintro e w7 ⟨A7, B7, c7, c7', v7, rfl, hT7, hv7, hb7⟩
               obtain ⟨M7, e7, rfl⟩ := in_slice hv7))
          all_goals (go_wp2_with fail; go_meet)
          · exact ⟨w7.heap.size, A7, B7, c7, c7', rfl, rfl, hb7.size, row_at (vs := [.slice A7 _ c7, .slice B7 _ c7', .int .i64 _]) rfl, hT7.keep ((Below.refl _ _).alloc (Nat.le_refl _) _), in_alloc hv7 _, (below_dr hb7).alloc hb7.size _⟩
          · exact ⟨V.heap.size, A7, B7, c7, c7', rfl, rfl, Nat.le_refl _, row3 r9 rfl _ _ _, hT7.set3 r9 _ _ _, in_setA hv7 _ _ _, below3 (below_drA hb7) (Nat.le_refl _) _ _ _⟩
          · exact ⟨V.heap.size, A7, B7, c7, c7', rfl, rfl, Nat.le_refl _, row3 r9 rfl _ _ _, hT7.set3 r9 _ _ _, in_setA hv7 _ _ _, below3 (below_drA hb7) (Nat.le_refl _) _ _ _⟩
        case rest =>
          obtain ⟨g7, A7, B7, c7, c7', rfl, rfl, hg7, hr7, hT7, hv7, hb7⟩ := hcut
          obtain ⟨M7, e7, rfl⟩ := in_slice hv7
          have HR7 := hide hr7
          have HT7 := hide hT7
          have HV7 := hide (src_of hv7.at).2
          have V7 := hide (V6.out.below hb7)
          have B7' := hide (B6.out.trans (hb7.mono B6.out.size))
          have G7 := hide (G6.out.below hb7)
          have T7 := hide (T6.out.keep hb7)
          have S7 := hide (S6.out.keep hb7)
          have C27 := hide (C26.out.keep hb7)
          have hz7 : V.heap.size ≤ wc.heap.size := hb7.size
          have hy7 : g7 < wc.heap.size := HR7.out.lt
          clear hr7 hT7 hv7 V6 B6 G6 T6 S6 C16 C26 D6 DD CD hb7 d0 d1 d2 d3
          have HVF := hide (show Pl.Valid hf by rw [hhf]; exact wk_valid most _ d hd)
          have HE := hide (show (wk most hf (cs.drop l)).1 = r ∧ ms = ls1 ++ (wk most hf (cs.drop l)).2 by
            have h := wk_app most (cs.take l) (cs.drop l) d
            rw [List.take_append_drop] at h
            rw [HR.out, HMS.out, hhf, has, h]
            exact ⟨rfl, rfl⟩)
          have HLS := hide (show ms.length ≤ 3 by
            have h := wk_len most cs d
            have h2 := HCS.out.len
            rw [← HMS.out] at h
            omega)
          have hfn := HVF.out.wf.few
          have hfl := HVF.out.wf.lp
          clear hhf has
          obtain ⟨d0, d1, d2, d3⟩ := box3 HR7.out
          go_upto_region 8 with fail
          obtain ⟨ls2, hls2⟩ : ∃ ms, ms = (wk most hf (cs.drop l)).2 := ⟨_, rfl⟩
          have DD := hide (show DgAt wc.drew A7 B7 hf from ⟨HT7.out.at.s, HT7.out.at.m⟩)
          have CD := hide (show IntsAt wc.drew C2 (nc - l) (cs.drop l) from C27.out)
          go_cut [16, 17, 18] (fun s16 s17 s18 wx => ∃ (g8 : Nat) (A8 B8 : Option Addr) (c8 c8' : Nat), s16 = .pointer (some ⟨g8, 0, none⟩) ∧ s18 = .int .i64 0 ∧ wc.heap.size ≤ g8 ∧ Row wx g8 24 [.slice A8 r.n c8, .slice B8 (4 * r.n) c8', .int .i64 (r.lp : Int)] ∧ DgT wx A8 B8 r ∧ MovesIn wc.heap.size wx s17 ls2 ∧ Below wc.heap.size wc wx)
          case first =>
            subst hls2
            have HE1 := HE.out.1
            go_region_with (first
              | (go_at_call 22
                 refine (walk_any hf HVF.out A7 B7 C2 c7 c7' (4 * hf.n) (nc - l) (cc - l) (cs.drop l) most _ rfl ?_ ?_ ?_).mono ?_
                 · exact DD.out.keep ((Below.refl _ _).alloc (Nat.le_refl _) _)
                 · exact CD.out.keep ((Below.refl _ _).alloc (Nat.le_refl _) _)
                 · omega
                 rintro e w8 ⟨A8, B8, c8, c8', v8, rfl, hT8, hv8, hb8⟩
                 obtain ⟨M8, e8, rfl⟩ := in_slice hv8
                 have r9 := (row_at (W := wc.drew) (g := wc.heap.size) (t := 24) (vs := [.slice none 0 0, .slice none 0 0, .int .i64 0]) rfl).below hb8
                 obtain ⟨e0, e1, e2, e3⟩ := box3 r9)
              | (go_at_call 22
                 refine (walk_any hf HVF.out A7 B7 C2 c7 c7' (4 * hf.n) (nc - l) (cc - l) (cs.drop l) most _ rfl DD.out CD.out ?_).mono ?_
                 · omega
                 rintro e w8 ⟨A8, B8, c8, c8', v8, rfl, hT8, hv8, hb8⟩
                 obtain ⟨M8, e8, rfl⟩ := in_slice hv8))
            all_goals (go_wp2_with fail; go_meet; rw [← HE1])
            · exact ⟨w8.heap.size, A8, B8, c8, c8', rfl, rfl, hb8.size, row_at (vs := [.slice A8 _ c8, .slice B8 _ c8', .int .i64 _]) rfl, hT8.keep ((Below.refl _ _).alloc (Nat.le_refl _) _), in_alloc hv8 _, (below_dr hb8).alloc hb8.size _⟩
            · exact ⟨wc.heap.size, A8, B8, c8, c8', rfl, rfl, Nat.le_refl _, row3 r9 rfl _ _ _, hT8.set3 r9 _ _ _, in_setA hv8 _ _ _, below3 (below_drA hb8) (Nat.le_refl _) _ _ _⟩
            · exact ⟨wc.heap.size, A8, B8, c8, c8', rfl, rfl, Nat.le_refl _, row3 r9 rfl _ _ _, hT8.set3 r9 _ _ _, in_setA hv8 _ _ _, below3 (below_drA hb8) (Nat.le_refl _) _ _ _⟩
          case rest =>
            obtain ⟨g8, A8, B8, c8, c8', rfl, rfl, hg8, hr8, hT8, hv8, hb8⟩ := hcut
            obtain ⟨M8, e8, rfl⟩ := in_slice hv8
            rw [← hls2] at HE
            have HR8 := hide hr8
            have HT8 := hide hT8
            have HV8 := hide (src_of hv8.at).2
            have HV78 := hide (HV7.out.keep hb8)
            have B8' := hide (B7'.out.trans (hb8.mono B7'.out.size))
            have G8 := hide (G7.out.below hb8)
            have T8 := hide (T7.out.keep hb8)
            have S8 := hide (S7.out.keep hb8)
            clear hr8 hT8 hv8 hb8 V7 B7' G7 T7 S7 DD CD HT7 HR7 C27 d0 d1 d2 d3 hls2
            have hrv := hd
            obtain ⟨a0, a1, a2, a3⟩ := box3 G8.out
            obtain ⟨b0, b1, b2, b3⟩ := box3 HR8.out
            have hrn : r.n ≤ 64 := by rw [← HE.out.1]; exact (wk_valid most _ hf HVF.out).wf.few
            go_wp2_with fail
            refine (equal_yes r.sg (nats r.mt) (r.lp : Int) A4 B4 A8 B8 r.n (4 * r.n) c4 c4' c8 c8' _ T8.out.at.s T8.out.at.m HT8.out.at.s HT8.out.at.m (by omega) (by omega)).mono ?_
            rintro e w9 ⟨rfl, hb9⟩
            have B9 := hide (B8'.out.trans (hb9.mono B8'.out.size))
            have S9 := hide (S8.out.keep hb9)
            have H79 := hide (HV78.out.keep hb9)
            have H89 := hide (HV8.out.keep hb9)
            clear hb9 a0 a1 a2 a3 b0 b1 b2 b3 S8 HV8 HV78 B8'
            have O9 := hide (own_empty w9 37)
            have K9 := hide ((Below.refl w9.heap.size w9).alloc (Nat.le_refl _) (.cells #[] 37))
            have H79a := hide (H79.out.keep K9.out)
            obtain ⟨n0, hn0, hz0, hz1, hz2⟩ := info_parts moveInfo
            have L3 := hide (show ls1.length + ls2.length = ms.length by rw [HE.out.2, List.length_append])
            have L4 := HLS.out
            have L5 := L3.out
            have A2 : 0 + ls1.length ≤ maxLen := by unfold maxLen; omega
            have A3 : (0 + ls1.length) * 40 ≤ 140737488355328 := by omega
            have A4 : w9.heap.size ≤ (w9.alloc (.cells #[] 37)).heap.size := by simp
            have A5 : 0 + ls1.length + ls2.length ≤ maxLen := by unfold maxLen; omega
            have A6 : (0 + ls1.length + ls2.length) * 40 ≤ 140737488355328 := by omega
            clear L4 L5
            go_wp2_with (first
              | (at_builtin
                 refine wpList_append_srcG _ ?_ (.tmp 88) (.tmp 89) 27 ?_ w9.heap.size 37 n0 (.agg #[.int .i64 0, .int .i64 0, .int .i64 0, .int .i64 0, .bool false]) 40 Try.underlying27 hn0 hz0 hz1 hz2 rfl (.slice (some ⟨w9.heap.size, 0, none⟩) 0 0) 0 [] ?_ O9.out M7 ls1.length e7 (mvs ls1) ?_ H79a.out A2 A3 A4 ?_
                 · rfl
                 · rfl
                 · rfl
                 · rfl
                 intro v10 w10 own10 grow10
                 have O10 := hide own10
                 have K10 := hide (K9.out.grown grow10 K9.out.size (fun k hk => (O9.out.lt k hk).1))
                 have H810 := hide (H89.out.keep K10.out)
                 have A7 := K10.out.size
                 clear own10 grow10)
              | (at_builtin
                 refine wpList_append_srcG _ ?_ (.tmp 90) (.tmp 91) 27 ?_ w9.heap.size 37 n0 (.agg #[.int .i64 0, .int .i64 0, .int .i64 0, .int .i64 0, .bool false]) 40 Try.underlying27 hn0 hz0 hz1 hz2 rfl v10 _ _ ?_ O10.out M8 ls2.length e8 (mvs ls2) ?_ H810.out A5 A6 A7 ?_
                 · rfl
                 · rfl
                 · rfl
                 · rfl
                 intro v11 w11 own11 grow11
                 have K11 := hide (K10.out.grown grow11 K10.out.size (fun k hk => (O10.out.lt k hk).1))
                 rw [List.nil_append, ← mvs_append, ← HE.out.2, Nat.zero_add, L3.out] at own11
                 obtain ⟨A11, c11, rfl⟩ := owns_slice own11
                 have H11 := hide (movesV_own own11 rfl)
                 have S11 := hide (S9.out.keep K11.out)
                 clear own11 grow11)
              | (go_at_call 26
                 refine (eq_moves ms M4 A11 ms.length e4 c11 _ S11.out H11.out ?_).mono ?_
                 · have := HLS.out; omega
                 rintro e w12 ⟨rfl, hb12⟩
                 have B12 := hide (B9.out.trans ((K11.out.trans (hb12.mono K11.out.size)).mono B9.out.size))))
            go_ret
            exact ⟨rfl, B12.out⟩
set_option maxRecDepth 100000 in
set_option maxHeartbeats 4000000 in
theorem steps_bad (sg mt : List Int) (lp : Int) (A B C : Option Addr) (n q cp cq nc cc k : Nat) (most : Int) (w : World) (hs : IntsAt w A n sg) (hm : IntsAt w B q mt) (hn : n ≤ maxLen) (hq : q ≤ maxLen) (hlp : -9223372036854775808 ≤ lp ∧ lp ≤ 9223372036854775807) (hnc : nc ≤ maxLen) (hv : ¬ Pl.VL sg mt lp) :
    Calls Try.prog 5 #[.agg #[.slice A n cp, .slice B q cq, .int .i64 lp], .slice C nc cc, .int .i64 most, .int .u8 (k : Int)] w fun e w' => e = .returned (.bool true) ∧ Below w.heap.size w w' := by
  have HS := hide hs
  have HM := hide hm
  clear hs hm
  have hnc' := hnc
  unfold maxLen at hnc'
  have X0 := hide (row_at (W := w) (g := w.heap.size) (t := 24) (vs := [.slice A n cp, .slice B q cq, .int .i64 lp]) rfl)
  have B0 := hide (show Below w.heap.size w (w.alloc (.cells #[.slice A n cp, .slice B q cq, .int .i64 lp] 24)) from (Below.refl _ _).alloc (Nat.le_refl _) _)
  go_enter Try.func5, Try.ntmps5
  go_wp2_with fail
  refine (awake11 _).mono ?_
  rintro e w1 ⟨rfl, hb1⟩
  have Y0 := hide (X0.out.below hb1)
  have B1 := hide (B0.out.trans (hb1.mono B0.out.size))
  clear X0 B0 hb1
  obtain ⟨d0, d1, d2, d3⟩ := box3 Y0.out
  go_wp2_with fail
  refine (great_any A B n q cp cq lp w1).mono ?_
  rintro e w2 ⟨rfl, hb2⟩
  have Z0 := hide (Y0.out.below hb2)
  have B2 := hide (B1.out.trans (hb2.mono B1.out.size))
  clear Y0 B1 hb2 d0 d1 d2 d3
  obtain ⟨gb, hgb⟩ : ∃ b, b = grt n q lp := ⟨_, rfl⟩
  rw [← hgb]
  clear hgb
  obtain ⟨d0, d1, d2, d3⟩ := box3 Z0.out
  cases gb with
  | true =>
    go_wp2
    go_ret
    exact ⟨rfl, B2.out⟩
  | false =>
    by_cases h3 : (3 : Int) < (nc : Int)
    · go_wp2
      go_ret
      exact ⟨rfl, B2.out⟩
    · by_cases h5 : (5 : Int) < most
      · go_wp2
        go_ret
        exact ⟨rfl, B2.out⟩
      · go_wp2_with fail
        refine (valid_any sg mt lp A B n q cp cq _ (HS.out.keep B2.out) (HM.out.keep B2.out) hn hq hlp).mono ?_
        rintro e w3 ⟨rfl, hb3⟩
        rw [Pl.vb_false hv]
        have B3 := hide (B2.out.trans (hb3.mono B2.out.size))
        clear hb3
        go_wp2
        go_ret
        exact ⟨rfl, B3.out⟩
theorem steps_walk (sg mt : List Int) (lp : Int) (A B C : Option Addr) (n q cp cq nc cc k : Nat) (cs : List Int) (most : Int) (w : World) (hs : IntsAt w A n sg) (hm : IntsAt w B q mt) (hc : IntsAt w C nc cs) (hn : n ≤ maxLen) (hq : q ≤ maxLen) (hnc : nc ≤ cc) (hcc : cc ≤ maxLen) (hlp : -9223372036854775808 ≤ lp ∧ lp ≤ 9223372036854775807) (hk : k < 256) :
    Calls Try.prog 5 #[.agg #[.slice A n cp, .slice B q cq, .int .i64 lp], .slice C nc cc, .int .i64 most, .int .u8 (k : Int)] w fun e w' => e = .returned (.bool true) ∧ Below w.heap.size w w' := by
  by_cases hv : Pl.VL sg mt lp
  · have hl := hs.len
    have hl2 := hm.len
    have hl3 := hv.len
    have en : (Pl.mk sg mt lp).n = n := hl
    have em : nats (Pl.mk sg mt lp).mt = mt := Pl.nats_mk hv.2.1
    have el : ((Pl.mk sg mt lp).lp : Int) = lp := by show ((lp.toNat : Nat) : Int) = lp; have := hv.2.2; omega
    have h := steps_valid (Pl.mk sg mt lp) hv.1 A B C cp cq q nc cc k cs most w (by rw [en]; omega) ⟨by rw [en]; exact hs, by rw [en, em, show 4 * n = q by omega]; exact hm⟩ hc hnc hcc hk
    rw [en, el] at h
    exact h
  · exact steps_bad sg mt lp A B C n q cp cq nc cc k most w hs hm hn hq hlp (by omega) hv
end Go.Proofs.Ytghdiolnonejaaa
end

section
namespace Go.Proofs.Ytghdiolnonejaaa
open Go Go.ChangeShapes Go.WideShapes Go.ChangeAt Go.RowKit Go.Deep
set_option maxRecDepth 100000 in
set_option maxHeartbeats 2000000 in
theorem open_listc {H : Type} {enc : TypeId × Value → H} {w : World} {base : Nat} {spare : Nat → Bool} {held : Bool} {r : Reach} {b0 : Nat} {v : Value} {d : DataW H} {p : List MemPlace} (hval : Value.okWide Try.prog w r b0 22 v) (h : DataW.Trod enc Try.prog w base spare held 22 v d p) :
    ∃ (A : Option Addr) (n c : Nat) (xs : List Int), v = .slice A n c ∧ n ≤ c ∧ c ≤ maxLen ∧ IntsAt w A n xs := by
  obtain ⟨a, len, cap, rfl⟩ := okWide_slice Try.underlying22 hval
  obtain ⟨fuel, hf⟩ := h
  have hf' : DataW.trod enc Try.prog w base spare held fuel 22 [.slice a len cap] = some (d, p) := hf
  have hc : len ≤ cap ∧ cap ≤ maxLen := by
    rcases open_ints Try.underlying22 Try.underlying3 (by kernel_rfl) hf' with ⟨h1, _⟩ | ⟨a', len', cap', zs, h1, _, hl, hm, hsl, _, hc, _⟩
    · obtain ⟨_, rfl, rfl⟩ : a = none ∧ len = 0 ∧ cap = 0 := by simpa using h1
      exact ⟨Nat.le_refl _, Nat.zero_le _⟩
    · obtain ⟨_, rfl, rfl⟩ : a = some a' ∧ len = len' ∧ cap = cap' := by simpa using h1
      exact ⟨by omega, by omega⟩
  obtain ⟨A, n, c, xs, e, _, hx⟩ := ints_of_trod hf'
  injection e with e1 e2 e3
  subst e1
  subst e2
  subst e3
  exact ⟨a, len, cap, xs, rfl, hc.1, hc.2, hx⟩
end Go.Proofs.Ytghdiolnonejaaa
end
