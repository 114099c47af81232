/-
  The texts Yh, Yi, Ta, Tb, Uc, Ud, Ue in one.
-/
import Derived.Test.YtghdiolnonejaaaB22
import Derived.Test.YtghdiolnonejaaaB20
import Derived.Test.YtghdiolnonejaaaB09
import Derived.Test.YtghdiolnonejaaaB05
import Derived.Test.YtghdiolnonejaaaB21
import Derived.Deep.RegionHeld3
import Derived.Deep.DrawnRows
set_option linter.unusedVariables false
set_option linter.unusedSimpArgs false

section
namespace Go.Proofs.Ytghdiolnonejaaa
open Go Go.RowKit
attribute [local go_sem ↓] Go.wp_at_zero Go.wp_at_succ
theorem ap_n {d : Pl.Dg} (hd : Pl.Valid d) {z : Mv} (h : apC d z = 0) : ((apD d z).n : Int) = d.n + gro z.kind := (signs_law hd z h).2.1
/-- A growing list of moves of the call's own. -/
structure KL (w : World) (v : Value) (ms : List Mv) (W : World) : Prop where
  o : W.ownsRow w.heap.size 37 5 v ms.length (mvs ms)
  bel : Below w.heap.size w W
section
variable {w W W' W2 : World} {v v' : Value} {ms : List Mv} {m : Mv}
theorem KL.below (h : KL w v ms W) (hb : Below W.heap.size W W') : KL w v ms W' := ⟨own_below h.o hb, h.bel.trans (hb.mono h.bel.size)⟩
theorem KL.alloc (h : KL w v ms W) (o : Obj) : KL w v ms (W.alloc o) := h.below ((Below.refl _ _).alloc (Nat.le_refl _) o)
theorem KL.push (h : KL w v ms W) (own : W2.ownsRow w.heap.size 37 5 v' (ms.length + 1) (mvs ms ++ m.cells)) (gr : W.grownBy W2 v.ownBlock) : KL w v' (ms ++ [m]) W2 :=
  ⟨by rw [mvs_app, List.length_append]; exact own, h.bel.grown gr h.bel.size (fun k hk => (h.o.lt k hk).1)⟩
end
end Go.Proofs.Ytghdiolnonejaaa
end

section
namespace Go.Proofs.Ytghdiolnonejaaa
open Go Go.RowKit
attribute [local go_sem ↓] Go.wp_at_zero Go.wp_at_succ
theorem mem_chL {d : Pl.Dg} {most : Int} {z : Mv} : z ∈ chL d most ↔ z ∈ allL d ∧ (d.n : Int) + gro z.kind ≤ most := by
  unfold chL keepM
  rw [List.mem_filter]
  unfold dels
  constructor
  · rintro ⟨h1, h2⟩
    simp at h2
    exact ⟨h1, by omega⟩
  · rintro ⟨h1, h2⟩
    refine ⟨h1, ?_⟩
    simp
    omega
end Go.Proofs.Ytghdiolnonejaaa
end

section
namespace Go.Proofs.Ytghdiolnonejaaa
open Go Go.RowKit
attribute [local go_sem ↓] Go.wp_at_zero Go.wp_at_succ
/-- The end of a walk, and its moves. -/
noncomputable def wk (most : Int) : Pl.Dg → List Int → Pl.Dg × List Mv
  | d, [] => (d, [])
  | d, c :: cs => match (chL d most)[chI c (chL d most).length]? with
    | none => (d, [])
    | some z => ((wk most (apD d z) cs).1, z :: (wk most (apD d z) cs).2)
theorem wk_none {most : Int} {d : Pl.Dg} (h : chL d most = []) (cs : List Int) : wk most d cs = (d, []) := by
  cases cs with
  | nil => rfl
  | cons c cs => unfold wk; rw [h]; simp
theorem wk_some {most : Int} {d : Pl.Dg} {c : Int} {z : Mv} (h : (chL d most)[chI c (chL d most).length]? = some z) (cs : List Int) : wk most d (c :: cs) = ((wk most (apD d z) cs).1, z :: (wk most (apD d z) cs).2) := by
  rw [wk, h]
theorem ch_ok {d : Pl.Dg} {most : Int} {z : Mv} (h : z ∈ chL d most) : apC d z = 0 := by
  unfold chL keepM at h
  exact listed_ok (List.mem_filter.1 h).1
theorem wk_len (most : Int) : ∀ (cs : List Int) (d : Pl.Dg), (wk most d cs).2.length ≤ cs.length
  | [], d => Nat.le_refl _
  | c :: cs, d => by
    cases hz : (chL d most)[chI c (chL d most).length]? with
    | none => rw [wk, hz]; exact Nat.zero_le _
    | some z => rw [wk_some hz]; have := wk_len most cs (apD d z); simp; exact this
def WalkPost (r : Pl.Dg) (l : List Mv) (w : World) (e : Ending) (w' : World) : Prop := ∃ (A9 B9 : Option Addr) (c8 c9 : Nat) (v : Value), e = .returned (.tuple #[.agg #[.slice A9 r.n c8, .slice B9 (4 * r.n) c9, .int .i64 r.lp], v, .int .i64 0]) ∧ DgT w' A9 B9 r ∧ MovesIn w.heap.size w' v l ∧ Below w.heap.size w w'
end Go.Proofs.Ytghdiolnonejaaa
end

section
namespace Go.Proofs.Ytghdiolnonejaaa
open Go Go.RowKit
attribute [local go_sem ↓] Go.wp_at_zero Go.wp_at_succ
theorem Choose_n (r : Pl.Dg) (hr : Pl.Valid r) (A B : Option Addr) (n cp cq m lp : Nat) (c most : Int) (w : World) (hn : n = r.n) (hm : m = 4 * r.n) (hl : lp = r.lp) (hg : DgAt w A B r) :
    Calls Try.prog 45 #[.agg #[.slice A n cp, .slice B m cq, .int .i64 (lp : Int)], .int .i64 c, .int .i64 most] w (ChPost (chL r most) c w) := by
  subst hn
  subst hl
  exact Choose_any r hr A B cp cq m c most w hm hg
theorem apply_n (r : Pl.Dg) (hr : Pl.Valid r) (A B : Option Addr) (n cp cq m lp : Nat) (k x y s : Int) (o : Bool) (w : World) (hn : n = r.n) (hm : m = 4 * r.n) (hl : lp = r.lp) (hg : DgAt w A B r) :
    Calls Try.prog 23 #[.agg #[.slice A n cp, .slice B m cq, .int .i64 (lp : Int)], .agg #[.int .i64 k, .int .i64 x, .int .i64 y, .int .i64 s, .bool o]] w (ResC (apC r ⟨k, x, y, s, o⟩) (apD r ⟨k, x, y, s, o⟩) (apI r ⟨k, x, y, s, o⟩) w) := by
  subst hn
  subst hl
  exact apply_any r hr A B cp cq m ⟨k, x, y, s, o⟩ w hm hg
/-- While a walk goes on. -/
structure WL (w : World) (ga : Nat) (most : Int) (d : Pl.Dg) (cs : List Int) (k : Nat) (r : Pl.Dg) (l : List Mv) (v : Value) (A9 B9 : Option Addr) (n c8 m c9 lp : Nat) (W : World) : Prop where
  val : Pl.Valid r
  eq : wk most d cs = ((wk most r (cs.drop k)).1, l ++ (wk most r (cs.drop k)).2)
  hn : n = r.n
  hm : m = 4 * r.n
  hl : lp = r.lp
  at_ : Row W ga 24 [.slice A9 n c8, .slice B9 m c9, .int .i64 (lp : Int)]
  res : Row W (w.heap.size + 1) 24 [.slice none 0 0, .slice none 0 0, .int .i64 0]
  t : DgT W A9 B9 r
  own : W.ownsRow (ga + 1) 37 5 v l.length (mvs l)
  len : l.length ≤ k
  bel : Below w.heap.size w W
  lo : w.heap.size + 1 < ga
section
variable {w W W' : World} {ga k : Nat} {most : Int} {d r : Pl.Dg} {cs : List Int} {l : List Mv} {v : Value} {A9 B9 : Option Addr} {n c8 m c9 lp : Nat}
theorem WL.below (h : WL w ga most d cs k r l v A9 B9 n c8 m c9 lp W) (hb : Below W.heap.size W W') : WL w ga most d cs k r l v A9 B9 n c8 m c9 lp W' :=
  ⟨h.val, h.eq, h.hn, h.hm, h.hl, h.at_.below hb, h.res.below hb, h.t.keep hb, own_below h.own hb, h.len, h.bel.trans (hb.mono h.bel.size), h.lo⟩
theorem WL.alloc (h : WL w ga most d cs k r l v A9 B9 n c8 m c9 lp W) (o : Obj) : WL w ga most d cs k r l v A9 B9 n c8 m c9 lp (W.alloc o) := h.below ((Below.refl _ _).alloc (Nat.le_refl _) o)
end
theorem own_row_neM {W : World} {base b n : Nat} {t : TypeId} {v : Value} {xs vs : List Value} (h : W.ownsRow base 37 5 v n xs) (hr : Row W b t vs) (ht : 37 ≠ t) : some b ≠ v.ownBlock := by
  intro e
  obtain ⟨cs, fr, h3⟩ := ownsRow_block h b e.symm
  rw [hr] at h3
  injection h3 with h3
  injection h3 with _ h4
  exact ht h4.symm
theorem DgT.grownM {w w' : World} {A B : Option Addr} {d : Pl.Dg} {base n : Nat} {v : Value} {xs : List Value} (h : DgT w A B d) (ho : w.ownsRow base 37 5 v n xs) (hg : w.grownBy w' v.ownBlock) : DgT w' A B d :=
  ⟨h.s.grown hg (fun g e => ownsRow_block ho g e) (by decide), h.m.grown hg (fun g e => ownsRow_block ho g e) (by decide)⟩
theorem WL.post {w W W' : World} {ga k : Nat} {most : Int} {d r : Pl.Dg} {cs : List Int} {l : List Mv} {v : Value} {A9 B9 : Option Addr} {n c8 m c9 lp : Nat} (h : WL w ga most d cs k r l v A9 B9 n c8 m c9 lp W) (he : wk most d cs = (r, l)) (hb : Below w.heap.size w W') (hT : DgT W' A9 B9 r) (ho : W'.ownsRow (ga + 1) 37 5 v l.length (mvs l)) (hs : ga < W'.heap.size) :
    WalkPost (wk most d cs).1 (wk most d cs).2 w (.returned (.tuple #[.agg #[.slice A9 n c8, .slice B9 m c9, .int .i64 (lp : Int)], v, .int .i64 0])) W' := by
  rw [he, h.hn, h.hm, h.hl]
  exact ⟨A9, B9, c8, c9, v, rfl, hT, ⟨ga + 1, by have := h.lo; omega, hs, ho⟩, hb⟩
theorem wk_next {most : Int} {r d : Pl.Dg} {cs : List Int} {k : Nat} {l : List Mv} {z : Mv} (hk : k < cs.length) (h : wk most d cs = ((wk most r (cs.drop k)).1, l ++ (wk most r (cs.drop k)).2)) (hz : (chL r most)[chI (cs.getD k 0) (chL r most).length]? = some z) :
    wk most d cs = ((wk most (apD r z) (cs.drop (k + 1))).1, (l ++ [z]) ++ (wk most (apD r z) (cs.drop (k + 1))).2) := by
  have e : cs.drop k = cs.getD k 0 :: cs.drop (k + 1) := by
    rw [List.drop_eq_getElem_cons hk, List.getD_eq_getElem?_getD, List.getElem?_eq_getElem hk]; rfl
  rw [h, e, wk_some hz]
  simp
set_option maxRecDepth 100000 in
set_option maxHeartbeats 8000000 in
theorem walk_any (d : Pl.Dg) (hd : Pl.Valid d) (A B C : Option Addr) (cp cq m nc cc : Nat) (cs : List Int) (most : Int) (w : World) (hm : m = 4 * d.n) (hg : DgAt w A B d) (hc : IntsAt w C nc cs) (hnc : nc ≤ 10000) :
    Calls Try.prog 22 #[.agg #[.slice A d.n cp, .slice B m cq, .int .i64 d.lp], .slice C nc cc, .int .i64 most] w (WalkPost (wk most d cs).1 (wk most d cs).2 w) := by
  have HM := hide hm
  have HG := hide hg
  have HCS := hide hc
  have HCL := hide hc.len
  have hn := hd.wf.few
  have HD := hide hd
  clear hm hg hc
  have R0 := hide ((row_at (W := w) (g := w.heap.size) (t := 24) (vs := [.slice A d.n cp, .slice B m cq, .int .i64 (d.lp : Int)]) rfl).alloc (.cells #[.slice none 0 0, .slice none 0 0, .int .i64 0] 24))
  have S0 := hide (row_at (W := w.alloc (.cells #[.slice A d.n cp, .slice B m cq, .int .i64 (d.lp : Int)] 24)) (g := w.heap.size + 1) (t := 24) (vs := [.slice none 0 0, .slice none 0 0, .int .i64 0]) (by simp))
  have B0 := hide (show Below w.heap.size w ((w.alloc (.cells #[.slice A d.n cp, .slice B m cq, .int .i64 (d.lp : Int)] 24)).alloc (.cells #[.slice none 0 0, .slice none 0 0, .int .i64 0] 24)) from ((Below.refl _ _).alloc (Nat.le_refl _) _).alloc (by simp) _)
  go_enter Try.func22, Try.ntmps22
  go_wp2_with fail
  refine (valid_yes d hd A B cp cq m _ HM.out (HG.out.keep B0.out)).mono ?_
  rintro e w1 ⟨rfl, hb1⟩
  have R1 := hide (R0.out.below hb1)
  have S1 := hide (S0.out.below hb1)
  have B1 := hide (B0.out.trans (hb1.mono B0.out.size))
  clear hb1 R0 S0 B0
  obtain ⟨d0, d1, d2, d3⟩ := box3 R1.out
  have hnc1 : ¬ ((10000 : Int) < (nc : Int)) := by omega
  go_wp2_with fail
  refine (clone_all d A B cp cq m _ HM.out (HG.out.keep B1.out) hn).mono ?_
  rintro e w2 ⟨A9, B9, c8, c9, rfl, hT, hb2⟩
  have hw2 : w.heap.size + 1 < w2.heap.size := (S1.out.below hb2).lt
  have L0 := hide (show WL w w2.heap.size most d cs 0 d [] (.slice none 0 0) A9 B9 d.n c8 m c9 d.lp (w2.alloc (.cells #[.slice A9 d.n c8, .slice B9 m c9, .int .i64 (d.lp : Int)] 24)) from
    ⟨HD.out, by simp, rfl, HM.out, rfl, row_at (vs := [.slice A9 d.n c8, .slice B9 m c9, .int .i64 (d.lp : Int)]) rfl, (S1.out.below hb2).alloc _, hT.keep ((Below.refl w2.heap.size w2).alloc (Nat.le_refl _) _), ⟨rfl, .inl ⟨rfl, rfl⟩⟩, Nat.le_refl _, (B1.out.trans (hb2.mono B1.out.size)).alloc (B1.out.trans (hb2.mono B1.out.size)).size _, hw2⟩)
  clear hb2 hT d0 d1 d2 d3 R1 S1 B1
  obtain ⟨V, hV⟩ : ∃ V, V = w2.alloc (.cells #[.slice A9 d.n c8, .slice B9 m c9, .int .i64 (d.lp : Int)] 24) := ⟨_, rfl⟩
  go_wp2
  rw [← hV] at L0 ⊢
  obtain ⟨ga, hga⟩ : ∃ g, g = w2.heap.size := ⟨_, rfl⟩
  rw [← hga] at L0 hw2 ⊢
  clear hV hga
  go_loopg [10, 12, 13, 14, 15, 16, 17, 30] nc (fun g s10 s12 s13 s14 s15 s16 s17 s30 wx => ∃ (k : Nat) (r : Pl.Dg) (l : List Mv) (A9 B9 : Option Addr) (n c8 m c9 lp : Nat), k + g = nc ∧ s30 = .int .i64 (k : Int) ∧ WL w ga most d cs k r l s10 A9 B9 n c8 m c9 lp wx)
  case atStart => exact ⟨0, _, _, _, _, _, _, _, _, _, by omega, rfl, L0.out⟩
  case round =>
    clear L0
    obtain ⟨k, r, l, A9, B9, n, c8, m, c9, lp, hkg, rfl, hl⟩ := hrel
    have HKG := hide hkg
    have K0 := hide hl
    have hln := hl.len
    have hknc : k ≤ nc := by omega
    have hlp := hl.val.wf.lp
    rw [← hl.hl] at hlp
    have hrn := hl.val.wf.few
    rw [← hl.hn] at hrn
    have hga0 := hl.lo
    have hga1 := hl.at_.lt
    clear hl
    obtain ⟨d0, d1, d2, d3⟩ := box3 K0.out.at_
    by_cases hk : k < nc
    · have hki : (k : Int) < (nc : Int) := by omega
      have k0 : (0 : Int) ≤ (k : Int) := by omega
      obtain ⟨b, o, rfl, x1⟩ := (HCS.out.keep K0.out.bel).at_ hk
      obtain ⟨u, hu⟩ : ∃ u, u = cs.getD k 0 := ⟨_, rfl⟩
      rw [← hu] at x1
      have HU := hide hu
      clear hu hkg
      go_wp2_with fail
      refine (Choose_n r K0.out.val A9 B9 n c8 c9 m lp u most _ K0.out.hn K0.out.hm K0.out.hl K0.out.t.at).mono ?_
      intro e w3 h3
      rcases h3.split with ⟨hno, rfl, hb3⟩ | ⟨zk, zx, zy, zs, zo, hz, rfl, hb3⟩
      · have K3 := hide (K0.out.below hb3)
        have hw3 : ga < w3.heap.size := K3.out.at_.lt
        have hw30 : w.heap.size + 1 < w3.heap.size := by omega
        have HE := hide (show wk most d cs = (r, l) by have := K0.out.eq; rw [wk_none hno] at this; simpa using this)
        clear h3 hno hb3 x1 d0 d1 d2 d3 K0
        obtain ⟨e0, e1, e2, e3⟩ := box3 K3.out.at_
        obtain ⟨f0, f1, f2, f3⟩ := box3 K3.out.res
        obtain ⟨A7, c7, rfl⟩ := owns_slice K3.out.own
        go_wp2
        have TT := K3.out.t.set3 K3.out.res (.slice A9 n c8) (.slice B9 m c9) (.int .i64 (lp : Int))
        have RR := row3 K3.out.res rfl (.slice A9 n c8) (.slice B9 m c9) (.int .i64 (lp : Int))
        have BB := below3 K3.out.bel (show w.heap.size ≤ w.heap.size + 1 by omega) (.slice A9 n c8) (.slice B9 m c9) (.int .i64 (lp : Int))
        have OO := ownsRow_setCell_below (ownsRow_setCell_below (ownsRow_setCell_below K3.out.own (a := ⟨w.heap.size + 1, 0, none⟩) (by show w.heap.size + 1 < ga + 1; omega) (.slice A9 n c8)) (a := ⟨w.heap.size + 1, 1, none⟩) (by show w.heap.size + 1 < ga + 1; omega) (.slice B9 m c9)) (a := ⟨w.heap.size + 1, 2, none⟩) (by show w.heap.size + 1 < ga + 1; omega) (.int .i64 (lp : Int))
        refine bodyPost_ret (v := .tuple #[.agg #[.slice A9 n c8, .slice B9 m c9, .int .i64 (lp : Int)], .slice A7 l.length c7, .int .i64 0]) ?_ rfl ?_
        · obtain ⟨r0, r1, r2, r3⟩ := box3 (RR.alloc (.cells #[.int .i64 0, .int .i64 0, .int .i64 0, .int .i64 0, .bool false] 37))
          simp [results, Try.results22, go_sem, r0, r1, r2]
        · exact K3.out.post HE.out (BB.alloc BB.size _) (TT.keep ((Below.refl _ _).alloc (Nat.le_refl _) _)) (OO.alloc _) (by simp; omega)
      · have K3 := hide (K0.out.below hb3)
        have K4 := hide (K3.out.alloc (.cells #[.int .i64 zk, .int .i64 zx, .int .i64 zy, .int .i64 zs, .bool zo] 37))
        have M4 := hide (row_at (W := w3) (g := w3.heap.size) (t := 37) (vs := [.int .i64 zk, .int .i64 zx, .int .i64 zy, .int .i64 zs, .bool zo]) rfl)
        have hw3 : ga < w3.heap.size := K3.out.at_.lt
        have HOK := hide (ch_ok (List.mem_of_getElem? hz))
        have HV2 := hide (ap_ok K0.out.val HOK.out).1
        have HEQ := hide (wk_next (z := ⟨zk, zx, zy, zs, zo⟩) (by rw [HCL.out]; exact hk) K0.out.eq (by rw [← HU.out]; exact hz))
        clear h3 hz hb3 x1 d0 d1 d2 d3 K0
        obtain ⟨e0, e1, e2, e3⟩ := box3 K3.out.at_
        go_wp2_with fail
        refine (apply_n r K4.out.val A9 B9 n c8 c9 m lp zk zx zy zs zo _ K4.out.hn K4.out.hm K4.out.hl K4.out.t.at).mono ?_
        intro e w5 hres
        obtain ⟨A8, B8, b8, b9, k9, x9, y9, s9, o9, hmv, rfl, hT⟩ := (hres.2.1 HOK.out).split
        have K5 := hide (K4.out.below hres.2.2)
        have M5 := hide (M4.out.below hres.2.2)
        obtain ⟨r2, hr2⟩ : ∃ r2, r2 = apD r ⟨zk, zx, zy, zs, zo⟩ := ⟨_, rfl⟩
        rw [← hr2] at hT HV2 HEQ ⊢
        have HT := hide hT
        have hr2n := HV2.out.wf.few
        have hr2l := HV2.out.wf.lp
        obtain ⟨N8, hN8⟩ : ∃ n, n = r2.n := ⟨_, rfl⟩
        obtain ⟨M8, hM8⟩ : ∃ n, n = 4 * r2.n := ⟨_, rfl⟩
        obtain ⟨L8, hL8⟩ : ∃ n, n = r2.lp := ⟨_, rfl⟩
        rw [← hM8, ← hN8, ← hL8]
        rw [← hN8] at hr2n
        rw [← hL8] at hr2l
        have HN8 := hide hN8
        have HM8 := hide hM8
        have HL8 := hide hL8
        have hw5 : w3.heap.size < w5.heap.size := M5.out.lt
        have hw50 : ga < w5.heap.size := by omega
        obtain ⟨g5, hg5⟩ : ∃ g, g = w3.heap.size := ⟨_, rfl⟩
        rw [← hg5] at M5 hw5 ⊢
        clear hmv hT hres hr2 hN8 hM8 hL8 e0 e1 e2 e3 K4 M4 K3 hg5 hw3
        obtain ⟨m0, m1, m2, m3, m4, m5⟩ := box5 M5.out
        obtain ⟨n0, hn0, hz0, hz1, hz2⟩ := info_parts moveInfo
        have K6 := hide ((K5.out.alloc (.cells #[.slice A8 N8 b8, .slice B8 M8 b9, .int .i64 (L8 : Int)] 24)).alloc (.cells #[.int .i64 k9, .int .i64 x9, .int .i64 y9, .int .i64 s9, .bool o9] 37))
        have D6 := hide ((row_at (W := w5) (g := w5.heap.size) (t := 24) (vs := [.slice A8 N8 b8, .slice B8 M8 b9, .int .i64 (L8 : Int)]) rfl).alloc (.cells #[.int .i64 k9, .int .i64 x9, .int .i64 y9, .int .i64 s9, .bool o9] 37))
        have T6 := hide (HT.out.keep (((Below.refl w5.heap.size w5).alloc (Nat.le_refl _) (.cells #[.slice A8 N8 b8, .slice B8 M8 b9, .int .i64 (L8 : Int)] 24)).alloc (by simp) (.cells #[.int .i64 k9, .int .i64 x9, .int .i64 y9, .int .i64 s9, .bool o9] 37)))
        have A0 := hide (K6.out.alloc (.cells (Mv.cells ⟨zk, zx, zy, zs, zo⟩).toArray 37)).own
        have A1 : ∀ u ∈ Mv.cells ⟨zk, zx, zy, zs, zo⟩, u.oneCell' = true := by simp [Mv.cells, Value.oneCell']
        have A2 : l.length + 1 ≤ maxLen := by unfold maxLen; omega
        have A3 : (l.length + 1) * 40 ≤ 140737488355328 := by omega
        have A4 : ga + 1 ≤ (((w5.alloc (.cells #[.slice A8 N8 b8, .slice B8 M8 b9, .int .i64 (L8 : Int)] 24)).alloc (.cells #[.int .i64 k9, .int .i64 x9, .int .i64 y9, .int .i64 s9, .bool o9] 37)).alloc (.cells (Mv.cells ⟨zk, zx, zy, zs, zo⟩).toArray 37)).heap.size := by simp; omega
        have A6 := hide (five_news ((w5.alloc (.cells #[.slice A8 N8 b8, .slice B8 M8 b9, .int .i64 (L8 : Int)] 24)).alloc (.cells #[.int .i64 k9, .int .i64 x9, .int .i64 y9, .int .i64 s9, .bool o9] 37)) (w5.heap.size + 1 + 1) (by simp) ⟨zk, zx, zy, zs, zo⟩)
        have G1 := hide hw50
        go_wp2_with (at_builtin; refine wpList_append_lies _ (by rfl) _ _ 27 (by rfl) (ga + 1) 37 n0 (.agg #[.int .i64 0, .int .i64 0, .int .i64 0, .int .i64 0, .bool false]) 5 40 Try.underlying27 hn0 hz0 hz1 hz2 rfl (by omega) _ l.length (mvs l) (by rfl) A0.out ⟨w5.heap.size + 1 + 1, 0, none⟩ 1 1 (Mv.cells ⟨zk, zx, zy, zs, zo⟩) (by rfl) (by rfl) A6.out A1 (by omega) A2 A3 A4 (w5.heap.size + 1 + 1 + 1) (by simp) ?_; intro g2 c2 w6 own2 grow2 at2 lt2; have OWN2 := hide own2; have K7 := hide (K6.out.alloc (.cells (Mv.cells ⟨zk, zx, zy, zs, zo⟩).toArray 37)); have AT6 := hide (K7.out.at_.grown grow2 (own_row_neM K7.out.own K7.out.at_ (by decide))); have RS6 := hide (K7.out.res.grown grow2 (own_row_neM K7.out.own K7.out.res (by decide))); have D7 := hide ((D6.out.alloc (.cells (Mv.cells ⟨zk, zx, zy, zs, zo⟩).toArray 37)).grown grow2 (own_row_neM K7.out.own (D6.out.alloc (.cells (Mv.cells ⟨zk, zx, zy, zs, zo⟩).toArray 37)) (by decide))); have T7 := hide ((T6.out.keep ((Below.refl _ _).alloc (Nat.le_refl _) (.cells (Mv.cells ⟨zk, zx, zy, zs, zo⟩).toArray 37))).grownM K7.out.own grow2); have B7 := hide (K7.out.bel.grown grow2 K7.out.bel.size (fun k hk => by have := (K7.out.own.lt k hk).1; have := K7.out.lo; omega)); have LN := hide K7.out.len; clear own2 grow2 at2; obtain ⟨e0, e1, e2, e3⟩ := box3 AT6.out; obtain ⟨f0, f1, f2, f3⟩ := box3 D7.out)
        go_roundg (gk - 1)
        case measure => have := HKG.out; omega
        case rel =>
          refine ⟨k + 1, r2, l ++ [⟨zk, zx, zy, zs, zo⟩], A8, B8, N8, b8, M8, b9, L8, by have := HKG.out; omega, by go_num, HV2.out, HEQ.out, HN8.out, HM8.out, HL8.out, row3 AT6.out rfl _ _ _, ?_, T7.out.set3 AT6.out _ _ _, ?_, ?_, below3 B7.out (by omega) _ _ _, hga0⟩
          · exact ((RS6.out.other (by show _ ≠ ga; omega) _).other (by show _ ≠ ga; omega) _).other (by show _ ≠ ga; omega) _
          · rw [mvs_app, List.length_append]
            exact ownsRow_setCell_below (ownsRow_setCell_below (ownsRow_setCell_below OWN2.out (Nat.lt_succ_self _) _) (Nat.lt_succ_self _) _) (Nat.lt_succ_self _) _
          · have := LN.out; simp; omega
    · have hki : ¬ ((k : Int) < (nc : Int)) := by omega
      have HE := hide (show wk most d cs = (r, l) by
        have := K0.out.eq
        rw [List.drop_eq_nil_of_le (by rw [HCL.out]; omega)] at this
        simpa [wk] using this)
      clear hkg d0 d1 d2 d3
      obtain ⟨e0, e1, e2, e3⟩ := box3 K0.out.at_
      obtain ⟨f0, f1, f2, f3⟩ := box3 K0.out.res
      have hl0 : w.heap.size + 1 < wr.heap.size := K0.out.res.lt
      obtain ⟨A7, c7, rfl⟩ := owns_slice K0.out.own
      go_wp2
      have TT := K0.out.t.set3 K0.out.res (.slice A9 n c8) (.slice B9 m c9) (.int .i64 (lp : Int))
      have RR := row3 K0.out.res rfl (.slice A9 n c8) (.slice B9 m c9) (.int .i64 (lp : Int))
      have BB := below3 K0.out.bel (show w.heap.size ≤ w.heap.size + 1 by omega) (.slice A9 n c8) (.slice B9 m c9) (.int .i64 (lp : Int))
      have OO := ownsRow_setCell_below (ownsRow_setCell_below (ownsRow_setCell_below K0.out.own (a := ⟨w.heap.size + 1, 0, none⟩) (by show w.heap.size + 1 < ga + 1; omega) (.slice A9 n c8)) (a := ⟨w.heap.size + 1, 1, none⟩) (by show w.heap.size + 1 < ga + 1; omega) (.slice B9 m c9)) (a := ⟨w.heap.size + 1, 2, none⟩) (by show w.heap.size + 1 < ga + 1; omega) (.int .i64 (lp : Int))
      refine bodyPost_ret (v := .tuple #[.agg #[.slice A9 n c8, .slice B9 m c9, .int .i64 (lp : Int)], .slice A7 l.length c7, .int .i64 0]) ?_ rfl ?_
      · obtain ⟨r0, r1, r2, r3⟩ := box3 RR
        simp [results, Try.results22, go_sem, r0, r1, r2]
      · exact K0.out.post HE.out BB TT OO (by simp; omega)
end Go.Proofs.Ytghdiolnonejaaa
end

section
namespace Go.Proofs.Ytghdiolnonejaaa
open Go Go.RowKit
theorem nextS_any (d : Pl.Dg) (B : Option Addr) (cq m g h : Nat) (x0 x2 : Value) (w : World) (hm : m = 4 * d.n) (hd : Pl.Wf d) (hr : Row w g 24 [x0, .slice B m cq, x2]) (hb : IntsAt w B m (nats d.mt)) (hh : h < 4 * d.n) :
    Calls Try.prog 99 #[.int .i64 (h : Int), .pointer (some ⟨g, 0, none⟩)] w fun e w' => e = .returned (.int .i64 (Pl.st d h : Nat)) ∧ w' = w := by
  have hn := hd.few
  have lt := hd.lt h hh
  obtain ⟨b, o, rfl, hc⟩ := mate_at (by rw [← hm]; exact hb) hh
  obtain ⟨f0, f1, f2, f3⟩ := box3 hr
  have hhm : h < m := by omega
  have HM := hide hm
  clear hm
  obtain ⟨u, hu⟩ : ∃ u, u = d.m h := ⟨_, rfl⟩
  have HU := hide (show Pl.st d h = Pl.tn u 2 by rw [hu]; rfl)
  rw [← hu] at hc lt
  clear hu
  go_enter Try.func99, Try.ntmps99
  go_wp2_with fail
  refine (opposite_any u _ (by omega)).mono ?_
  rintro e w1 ⟨rfl, rfl⟩
  go_wp2
  go_ret
  exact ⟨by rw [HU.out]; rfl, rfl⟩
theorem nextS_steps (d : Pl.Dg) (B : Option Addr) (cq m g : Nat) (x0 x2 : Value) (w : World) (hm : m = 4 * d.n) (hd : Pl.Wf d) (hr : Row w g 24 [x0, .slice B m cq, x2]) (hb : IntsAt w B m (nats d.mt)) :
    Steps 99 (.pointer (some ⟨g, 0, none⟩)) (4 * d.n) (Pl.st d) w := fun w' h hbl hh =>
  (nextS_any d B cq m g h x0 x2 w' hm hd (hr.below hbl) (hb.keep hbl) hh).mono fun _ _ ⟨he, hw⟩ => ⟨he, by rw [hw]; exact Below.refl _ _⟩
/-- A test by a function value, in every world that has grown out of w. -/
def Asks (k : Nat) (c : Value) (N : Nat) (f : Nat → Bool) (w : World) : Prop := ∀ w' h, Below w.heap.size w w' → h < N → Calls Try.prog k #[.int .i64 (h : Int), c] w' fun e w'' => e = .returned (.bool (f h)) ∧ Below w'.heap.size w' w''
theorem Asks.keep {k : Nat} {c : Value} {N : Nat} {f : Nat → Bool} {w W : World} (h : Asks k c N f w) (hb : Below w.heap.size w W) : Asks k c N f W :=
  fun w' x hb' hx => h w' x (hb.trans (hb'.mono hb.size)) hx
theorem outS_any (d : Pl.Dg) (A B : Option Addr) (cp cq q g h : Nat) (l : Value) (w : World) (hn : d.n ≤ 1000) (hr : Row w g 24 [.slice A d.n cp, .slice B q cq, l]) (hs : IntsAt w A d.n d.sg) (hh : h < 4 * d.n) :
    Calls Try.prog 97 #[.int .i64 (h : Int), .pointer (some ⟨g, 0, none⟩)] w fun e w' => e = .returned (.bool (Pl.out d h)) ∧ Below w.heap.size w w' := by
  obtain ⟨f0, f1, f2, f3⟩ := box3 hr
  have HS := hide hs
  go_enter Try.func97, Try.ntmps97
  go_wp2_with fail
  refine (out_any d A B cp q cq l h _ hh hn HS.out).mono ?_
  rintro e w1 ⟨rfl, hb⟩
  have HB := hide hb
  clear hb
  go_wp2
  go_ret
  exact ⟨rfl, HB.out⟩
theorem outS_asks (d : Pl.Dg) (A B : Option Addr) (cp cq q g : Nat) (l : Value) (w : World) (hn : d.n ≤ 1000) (hr : Row w g 24 [.slice A d.n cp, .slice B q cq, l]) (hs : IntsAt w A d.n d.sg) :
    Asks 97 (.pointer (some ⟨g, 0, none⟩)) (4 * d.n) (Pl.out d) w := fun w' h hbl hh =>
  outS_any d A B cp cq q g h l w' hn (hr.below hbl) (hs.keep hbl) hh
set_option maxRecDepth 100000 in
set_option maxHeartbeats 2000000 in
theorem cycleS_any (c : Value) (N : Nat) (f : Nat → Nat) (h p : Nat) (w : World) (hst : Steps 99 c N f w) (hf : ∀ x, x < N → f x < N) (hh : h < N) (hp : Pl.Per f h p) (hpN : p ≤ N) (hN : N ≤ 1000) :
    Calls Try.prog 137 #[.int .i64 (h : Int), fv1 99 c] w (CycPost f h p w) := by
  unfold fv1
  have HST := hide hst
  have HF := hide hf
  have HP := hide hp
  have hp0 := hp.1
  clear hst hf hp
  have B1 := hide (show Below w.heap.size w (w.alloc (.cells #[.int .i64 (h : Int)] 3)) from (Below.refl _ _).alloc (Nat.le_refl _) _)
  go_enter Try.func137, Try.ntmps137
  go_wp2_with fail
  refine (HST.out _ h B1.out hh).mono ?_
  rintro e w2 ⟨rfl, hb2⟩
  have B2 := hide (B1.out.trans (hb2.mono B1.out.size))
  have O2 := hide (own_keep (own_one w (.int .i64 (h : Int))) hb2 (Nat.le_refl _))
  clear hb2
  go_wp2_with fail
  go_loopg [5, 6] (p - 1) (fun g v i wx => ∃ j : Nat, j + 1 + g = p ∧ i = .int .i64 (Pl.it f (j + 1) h : Nat) ∧ wx.ownsRow w.heap.size 3 1 v (j + 1) ((Pl.cyc f h (j + 1)).map (fun k : Nat => Value.int .i64 k)) ∧ Below w.heap.size w wx)
  case atStart => exact ⟨0, by omega, rfl, O2.out, B2.out⟩
  case round =>
    clear O2 B2 B1
    obtain ⟨j, hjg, rfl, own, hb⟩ := hrel
    have HJ := hide hjg
    have hjp : j + 1 ≤ p := by omega
    have OWN := hide own
    have HB := hide hb
    have hbs := hb.size
    obtain ⟨x, hx⟩ : ∃ x, x = Pl.it f (j + 1) h := ⟨_, rfl⟩
    rw [← hx]
    have HX := hide hx
    have hxN : x < N := by rw [hx]; exact it_lt HF.out hh (j + 1)
    clear hjg own hb hx
    by_cases he : x = h
    · have hjj : ¬ j + 1 < p := fun hlt => HP.out.2.2 (j + 1) (by omega) hlt (by rw [← HX.out, he])
      have t1 : ((x : Int) != (h : Int)) = false := by rw [bne_eq_false_iff_eq]; omega
      have HE := hide he
      obtain rfl : j + 1 = p := by omega
      obtain ⟨A5, c5, rfl⟩ := owns_slice OWN.out
      clear he hjj
      go_wp2
      go_ret
      exact ⟨A5, c5, rfl, OWN.out, HB.out⟩
    · have t1 : ((x : Int) != (h : Int)) = true := by rw [bne_iff_ne]; omega
      have hjj : j + 1 < p := by
        rcases Nat.lt_or_ge (j + 1) p with h1 | h1
        · exact h1
        · have : j + 1 = p := by omega
          exact absurd (by rw [HX.out, this]; exact HP.out.2.1) he
      clear he
      obtain ⟨i0, hi0, hz0, hz1, hz2⟩ := info_parts intInfo
      go_wp2_with (at_builtin; refine wpList_append_lies _ (by rfl) _ _ 22 (by rfl) w.heap.size 3 i0 (.int .i64 0) 1 8 Try.underlying22 hi0 hz0 hz1 hz2 rfl (by omega) _ (j + 1) _ (by rfl) (OWN.out.alloc _) ⟨wr.heap.size, 0, none⟩ 1 1 [.int .i64 (x : Int)] (by rfl) (by rfl) (one_news wr (.int .i64 (x : Int))) (by simp [Value.oneCell']) (by omega) (by unfold maxLen; omega) (by omega) (by simp; omega) (wr.heap.size + 1) (by simp) ?_; intro g3 c3 w3 own3 grow3 at3 lt3; have OWN3 := hide own3; have GR3 := hide grow3; clear own3 grow3 at3)
      have B3 := hide ((HB.out.alloc hbs (.cells #[.int .i64 (x : Int)] 3)).grown GR3.out (by simp; omega) (fun k hk => (OWN.out.lt k hk).1))
      refine (HST.out _ x B3.out hxN).mono ?_
      rintro e w4 ⟨rfl, hb4⟩
      go_wp2_with fail
      go_roundg (gk - 1)
      case measure => have := HJ.out; omega
      case rel =>
        refine ⟨j + 1, by have := HJ.out; omega, ?_, ?_, B3.out.trans (hb4.mono B3.out.size)⟩
        · rw [HX.out]; rfl
        · have := own_keep OWN3.out hb4 (Nat.le_refl _)
          rw [Pl.cyc_succ, List.map_append, ← HX.out]
          exact this
end Go.Proofs.Ytghdiolnonejaaa
end

section
namespace Go.Proofs.Ytghdiolnonejaaa
open Go Go.RowKit
structure CyS (w : World) (o : Nat → Bool) (N : Nat) (f : Nat → Nat) (k : Nat) (fs : List (List Nat)) (bs : List Bool) (vs : List Value) (vA : Value) (W : World) : Prop where
  fc : Pl.Fcs f (fun h => o h = true) N k fs bs
  few : fs.length ≤ k
  seen : BRow W w.heap.size bs
  own : W.ownsRow (w.heap.size + 1) 22 1 vA fs.length vs
  fa : Vs W vs fs
  bel : Below w.heap.size w W
  far : Far w.heap.size vs
theorem CyS.below {w : World} {o : Nat → Bool} {N : Nat} {f : Nat → Nat} {k : Nat} {fs : List (List Nat)} {bs : List Bool} {vs : List Value} {vA : Value} {W W' : World} (h : CyS w o N f k fs bs vs vA W) (hb : Below W.heap.size W W') : CyS w o N f k fs bs vs vA W' :=
  ⟨h.fc, h.few, Row.below h.seen hb, own_keep h.own hb (Nat.le_refl _), h.fa.below hb, h.bel.trans (hb.mono h.bel.size), h.far⟩
def StrandsPost (o : Nat → Bool) (f : Nat → Nat) (N : Nat) (w : World) (e : Ending) (w' : World) : Prop :=
  ∃ (A : Option Addr) (c : Nat) (fs : List (List Nat)) (bs : List Bool) (vs : List Value), e = .returned (.slice A fs.length c) ∧ Pl.Fcs f (fun h => o h = true) N N fs bs ∧ fs.length ≤ N ∧ RowT w' 22 A fs.length vs ∧ Vs w' vs fs ∧ Below w.heap.size w w' ∧ Far w.heap.size vs
set_option maxRecDepth 100000 in
set_option maxHeartbeats 3000000 in
theorem cyclesS_any (c : Value) (o : Nat → Bool) (N : Nat) (S : Nat → Prop) (f : Nat → Nat) (w : World) (hst : Steps 99 c N f w) (hot : Asks 97 c N o w) (hbij : Pl.Bij N S f) (hS : ∀ x, x < N → S x) (hSN : ∀ x, S x → x < N) (hN : N ≤ 1000) :
    Calls Try.prog 98 #[.int .i64 (N : Int), fv1 97 c, fv1 99 c] w (StrandsPost o f N w) := by
  unfold fv1
  have HST := hide hst
  have HOT := hide hot
  have HBI := hide hbij
  have HSS := hide hS
  have HSN := hide hSN
  have hmk := fun W : World => run_bools N (by omega) W
  have HF := hide (show ∀ x, x < N → f x < N from fun x hx => hSN _ (hbij.maps x (hS x hx)))
  have H0 := hide (show CyS w o N f 0 [] (List.replicate N false) [] (.slice none 0 0) (w.alloc (.cells (Array.replicate N (Value.bool false)) 4)) from
    ⟨Pl.Fcs.start f _ N, Nat.le_refl _, BRow.made w N, World.ownsRow_nil _ _ _ _, Vs.nil _, (Below.refl _ _).alloc (Nat.le_refl _) _, fun v hv => by simp at hv⟩)
  clear hst hot hbij hS hSN
  go_enter Try.func98, Try.ntmps98
  go_wp2
  clear hmk
  go_loopg [7, 16] N (fun g v i wx => ∃ (k : Nat) (fs : List (List Nat)) (bs : List Bool) (vs : List Value), k + g = N ∧ i = .int .i64 k ∧ CyS w o N f k fs bs vs v wx)
  case atStart => exact ⟨0, _, _, _, by omega, rfl, H0.out⟩
  case round =>
    clear H0
    obtain ⟨k, fs, bs, vs, hkg, rfl, hk⟩ := hrel
    have HKG := hide hkg
    have hkN : k ≤ N := by omega
    have HK := hide hk
    clear hkg hk
    obtain ⟨go, rfl⟩ : ∃ go, go = gk := ⟨_, rfl⟩
    obtain ⟨A7, c7, rfl⟩ := owns_slice HK.out.own
    by_cases hlt : k < N
    · have hbl : k < bs.length := by rw [HK.out.fc.len]; exact hlt
      have hc := HK.out.seen.cell hbl
      have ik : (0 : Int) ≤ (k : Int) := by omega
      have jk : (k : Int) < (N : Int) := by omega
      cases hg : Pl.gb bs k with
      | true =>
        have HGB := hide hg
        have hc' : wr.cell? ⟨w.heap.size, k, none⟩ = some (.bool true) := by rw [hc]; unfold Pl.gb at hg; rw [hg]
        clear hc hg
        go_wp2
        go_roundg (go - 1)
        case measure => have := HKG.out; omega
        case rel => exact ⟨k + 1, fs, bs, vs, by have := HKG.out; omega, by go_num, HK.out.fc.skip (.inl HGB.out), by have := HK.out.few; omega, HK.out.seen, HK.out.own, HK.out.fa, HK.out.bel, HK.out.far⟩
      | false =>
        have HGB := hide hg
        have hc' : wr.cell? ⟨w.heap.size, k, none⟩ = some (.bool false) := by rw [hc]; unfold Pl.gb at hg; rw [hg]
        clear hc hg
        go_wp2_with fail
        refine (HOT.out _ k HK.out.bel hlt).mono ?_
        rintro e w1 ⟨rfl, hb1⟩
        have HK1 := hide (HK.out.below hb1)
        clear hb1 HK hc'
        have HK := HK1
        clear HK1
        cases hok : o k with
        | false =>
          have HOK := hide hok
          clear hok
          go_wp2
          go_roundg (go - 1)
          case measure => have := HKG.out; omega
          case rel => exact ⟨k + 1, fs, bs, vs, by have := HKG.out; omega, by go_num, HK.out.fc.skip (.inr (by rw [HOK.out]; decide)), by have := HK.out.few; omega, HK.out.seen, HK.out.own, HK.out.fa, HK.out.bel, HK.out.far⟩
        | true =>
        have HOK := hide hok
        clear hok
        go_wp2_with fail
        obtain ⟨p, hpN, hper⟩ := HBI.out.per (HSS.out k hlt)
        have HPER := hide hper
        clear hper
        refine (cycleS_any c N f k p _ (HST.out.keep HK.out.bel) HF.out hlt HPER.out hpN hN).mono ?_
        rintro e w2 ⟨A5, c5, rfl, own5, hb5⟩
        have HK2 := hide (HK.out.below hb5)
        have FA2 := hide (show FaceAt w2 (.slice A5 p c5) (Pl.cyc f k p) from ⟨A5, c5, by rw [Pl.cyc_len], by rw [Pl.cyc_len]; exact own_rowT own5⟩)
        have HFR := hide (show ∀ g, (Value.slice A5 p c5).ownBlock = some g → w.heap.size ≤ g from fun g hg => by have := (own5.lt g hg).1; have := HK.out.bel.size; omega)
        have HFA0 := hide HK.out.far
        clear own5 hb5
        have hp0 := HPER.out.1
        obtain ⟨b5, o5, rfl, _⟩ := nats_at FA2.out.ints.2 (k := 0) hp0
        have HFC := hide HK.out.fc
        have hfew := HK.out.few
        have HM0 := hide (show BRow w2 w.heap.size (Pl.mark bs ((Pl.cyc f k p).take 0)) from HK2.out.seen)
        go_wp2_with fail
        go_loopg [34] p (fun g i wx => ∃ j : Nat, j + g = p ∧ i = .int .i64 j ∧ BRow wx w.heap.size (Pl.mark bs ((Pl.cyc f k p).take j)) ∧ wx.ownsRow (w.heap.size + 1) 22 1 (.slice A7 fs.length c7) fs.length vs ∧ Vs wx vs fs ∧ FaceAt wx (.slice (some ⟨b5, o5, none⟩) p c5) (Pl.cyc f k p) ∧ Below w.heap.size w wx)
        case atStart => exact ⟨0, by omega, rfl, HM0.out, HK2.out.own, HK2.out.fa, FA2.out, HK2.out.bel⟩
        case round =>
          clear HM0 FA2 HK2 HK
          obtain ⟨j, hjg, rfl, hbr, hown, hvs, hfa, hbel⟩ := hrel
          have HJG := hide hjg
          have hjp : j ≤ p := by omega
          have HBR := hide hbr
          have HOWN := hide hown
          have HVS := hide hvs
          have HFA := hide hfa
          have HBEL := hide hbel
          have hsz := hbr.lt
          clear hjg hbr hown hvs hfa hbel
          by_cases hlj : j < p
          · obtain ⟨b', o', e', hcj⟩ := nats_at HFA.out.ints.2 (k := j) hlj
            injection e' with e'
            injection e' with e1 e2
            subst e1
            subst e2
            rw [Pl.cyc_get hlj] at hcj
            obtain ⟨y, hy⟩ : ∃ y, y = Pl.it f j k := ⟨_, rfl⟩
            have hyN : y < N := by rw [hy]; exact it_lt HF.out hlt j
            rw [← hy] at hcj
            have HY := hide hy
            clear hy
            have hyl : y < (Pl.mark bs ((Pl.cyc f k p).take j)).length := by rw [Pl.mark_len, HFC.out.len]; exact hyN
            have cy := HBR.out.cell hyl
            have fy := Row.free HBR.out y
            have iy : (0 : Int) ≤ (y : Int) := by omega
            have jy : (y : Int) < (N : Int) := by omega
            go_wp2_with fail
            go_roundg (gk - 1)
            case measure => have := HJG.out; omega
            case rel =>
              refine ⟨j + 1, by have := HJG.out; omega, by go_num, ?_, ?_, HVS.out.store HBR.out (by decide) _, HFA.out.store HBR.out (by decide) _, HBEL.out.setCell (Nat.le_refl _) _⟩
              · have h1 := HBR.out.set y true
                have h2 : (Pl.cyc f k p).take (j + 1) = (Pl.cyc f k p).take j ++ [y] := by
                  rw [List.take_succ_eq_append_getElem (by rw [Pl.cyc_len]; exact hlj)]
                  congr 2
                  have := Pl.cyc_get (f := f) (x := k) hlj
                  rw [List.getD_eq_getElem?_getD, List.getElem?_eq_getElem (by rw [Pl.cyc_len]; exact hlj)] at this
                  rw [HY.out]
                  exact this
                rw [h2, Pl.mark_append]
                exact h1
              · exact ownsRow_setCell_below HOWN.out (by show w.heap.size < w.heap.size + 1; omega) _
          · have hjj : j = p := by omega
            subst hjj
            obtain ⟨i0, hi0, hz0, hz1, hz2⟩ := info_parts rowInfo
            have P1 : ∀ u ∈ [Value.slice (some ⟨b5, o5, none⟩) j c5], u.oneCell' = true := by simp [Value.oneCell']
            go_wp2_with (at_builtin; refine wpList_append_lies _ (by rfl) _ _ 56 (by rfl) (w.heap.size + 1) 22 i0 (.slice none 0 0) 1 24 Try.underlying56 hi0 hz0 hz1 hz2 rfl (by omega) _ fs.length vs (by rfl) (HOWN.out.alloc _) ⟨wr.heap.size, 0, none⟩ 1 1 [.slice (some ⟨b5, o5, none⟩) j c5] (by rfl) (by rfl) (World.news_of_block (cs := #[.slice (some ⟨b5, o5, none⟩) j c5]) (t := 22) (fr := (0, 0)) (heap_alloc_new wr _)) P1 (by omega) (by unfold maxLen; omega) (by omega) (by simp; omega) (wr.heap.size + 1) (by simp) ?_; intro g3 c3 w3 own3 grow3 at3 lt3)
            go_roundg (go - 1)
            case measure => have := HKG.out; omega
            case rel =>
              have hbk := fun g (hg : (Value.slice A7 fs.length c7).ownBlock = some g) => ownsRow_block (HOWN.out.alloc (.cells #[.slice (some ⟨b5, o5, none⟩) j c5] 22)) g hg
              have hba : Below wr.heap.size wr (wr.alloc (.cells #[.slice (some ⟨b5, o5, none⟩) j c5] 22)) := (Below.refl _ _).alloc (Nat.le_refl _) _
              refine ⟨k + 1, fs ++ [Pl.cyc f k j], Pl.mark bs (Pl.cyc f k j), vs ++ [.slice (some ⟨b5, o5, none⟩) j c5], by have := HKG.out; omega, by go_num, ?_⟩
              refine ⟨HFC.out.add HBI.out HSS.out HSN.out hlt HOK.out HGB.out HPER.out, by simp; omega, ?_, by simpa using own3, ?_, ?_, HFA0.out.add HFR.out⟩
              · have h1 := HBR.out
                rw [List.take_of_length_le (by rw [Pl.cyc_len]; omega)] at h1
                refine Row.grown (Row.alloc h1 (.cells #[.slice (some ⟨b5, o5, none⟩) j c5] 22)) grow3 ?_
                intro e
                obtain ⟨cs, fr, h3⟩ := hbk _ e.symm
                have h4 := Row.alloc h1 (.cells #[.slice (some ⟨b5, o5, none⟩) j c5] 22)
                rw [h4] at h3
                injection h3 with h3
                injection h3 with _ h5
                exact absurd h5 (by decide)
              · exact ((HVS.out.below hba).grown grow3 hbk (by decide)).add ((HFA.out.below hba).grown grow3 hbk (by decide))
              · exact (HBEL.out.alloc (by omega) _).grown grow3 (by simp; omega) (fun k hk => by have := (HOWN.out.lt k hk).1; omega)
    · go_wp2
      go_ret
      have : k = N := by omega
      subst this
      exact ⟨A7, c7, fs, bs, vs, rfl, HK.out.fc, HK.out.few, own_rowT HK.out.own, HK.out.fa, HK.out.bel, HK.out.far⟩
end Go.Proofs.Ytghdiolnonejaaa
end

section
namespace Go.Proofs.Ytghdiolnonejaaa
open Go Go.RowKit
set_option maxRecDepth 100000 in
set_option maxHeartbeats 2000000 in
theorem strands_any (d : Pl.Dg) (hd : Pl.Valid d) (A B : Option Addr) (cp cq m : Nat) (w : World) (hm : m = 4 * d.n) (hg : DgAt w A B d) :
    Calls Try.prog 55 #[.agg #[.slice A d.n cp, .slice B m cq, .int .i64 d.lp]] w fun e w' => ∃ (A5 : Option Addr) (c5 : Nat), e = .returned (.slice A5 (strN d) c5) ∧ Below w.heap.size w w' := by
  have hn := hd.wf.few
  have HM := hide hm
  have HG := hide hg
  have HD := hide hd
  clear hg hm
  have X0 := hide (row_at (W := w) (g := w.heap.size) (t := 24) (vs := [.slice A d.n cp, .slice B m cq, .int .i64 d.lp]) rfl)
  have B0 := hide (show Below w.heap.size w (w.alloc (.cells #[.slice A d.n cp, .slice B m cq, .int .i64 d.lp] 24)) from (Below.refl _ _).alloc (Nat.le_refl _) _)
  go_enter Try.func55, Try.ntmps55
  go_wp2_with fail
  refine (valid_yes d hd A B cp cq m _ HM.out (HG.out.keep B0.out)).mono ?_
  rintro e w1 ⟨rfl, hb1⟩
  have X1 := hide (X0.out.below hb1)
  have B1 := hide (B0.out.trans (hb1.mono B0.out.size))
  clear hb1 X0 B0
  obtain ⟨d0, d1, d2, d3⟩ := box3 X1.out
  have G1 := hide (HG.out.keep B1.out)
  have hmm : IntsAt w1 B m (nats d.mt) := by have h := G1.out.m; rwa [← HM.out] at h
  have ST := hide (nextS_steps d B cq m w.heap.size _ _ w1 HM.out hd.wf X1.out hmm)
  have OT := hide (outS_asks d A B cp cq m w.heap.size _ w1 (by omega) X1.out G1.out.s)
  rw [← HM.out] at ST OT
  have hm1 : m ≤ 1000 := by have := HM.out; omega
  have HB := hide (show Pl.Bij m (Pl.dart d) (Pl.st d) by rw [HM.out]; exact Pl.st_bij hd.wf)
  clear hmm
  go_wp2_with fail
  have hc := cyclesS_any (.pointer (some ⟨w.heap.size, 0, none⟩)) (Pl.out d) m (Pl.dart d) (Pl.st d) w1 ST.out OT.out HB.out (fun x hx => by rw [HM.out] at hx; exact hx) (fun x hx => by rw [HM.out]; exact hx) hm1
  refine hc.mono ?_
  rintro e w2 ⟨A5, c5, fs, bs, vs, rfl, hfc, _, _, _, hb2, _⟩
  have HE := hide (show fs.length = strN d from (hfc.cls HB.out (fun x hx => by rw [HM.out] at hx; exact hx)).unique (by rw [HM.out]; exact strN_str d HD.out.wf))
  have B2 := hide (B1.out.trans (hb2.mono B1.out.size))
  clear hfc hb2 hc
  go_wp2
  go_ret
  exact ⟨A5, c5, by rw [HE.out]; rfl, B2.out⟩
set_option maxRecDepth 100000 in
set_option maxHeartbeats 1000000 in
theorem comps_any (d : Pl.Dg) (hd : Pl.Valid d) (A B : Option Addr) (cp cq m : Nat) (w : World) (hm : m = 4 * d.n) (hg : DgAt w A B d) :
    Calls Try.prog 24 #[.agg #[.slice A d.n cp, .slice B m cq, .int .i64 d.lp]] w (fun e w' => e = .returned (.int .i64 ((strN d + d.lp : Nat) : Int)) ∧ Below w.heap.size w w') := by
  have hn := hd.wf.few
  have hl := hd.wf.lp
  have HM := hide hm
  have HG := hide hg
  have HD := hide hd
  have hk := Pl.cnt_top (Pl.Lst (fun h => h < 4 * d.n ∧ Pl.out d h = true) (Pl.Orb (Pl.st d))) (4 * d.n)
  have X0 := hide (row_at (W := w) (g := w.heap.size) (t := 24) (vs := [.slice A d.n cp, .slice B m cq, .int .i64 d.lp]) rfl)
  have B0 := hide (show Below w.heap.size w (w.alloc (.cells #[.slice A d.n cp, .slice B m cq, .int .i64 d.lp] 24)) from (Below.refl _ _).alloc (Nat.le_refl _) _)
  have hsN : strN d ≤ 1000 := by unfold strN strK; omega
  clear hm hg hd hk
  have D0 := hide (DC.start w (.slice A d.n cp) (.slice B m cq) (.int .i64 d.lp))
  clear X0 B0
  obtain ⟨s, hs⟩ : ∃ s, s = strN d := ⟨_, rfl⟩
  have HS := hide hs
  rw [← hs] at hsN ⊢
  clear hs
  have hwr : IntKind.i64.wrap ((s : Int) + (d.lp : Int)) = (s : Int) + (d.lp : Int) := IntWalk.i64_in _ (by omega)
  go_enter Try.func24, Try.ntmps24
  obtain ⟨b0, b1, b2, _⟩ := D0.out.all
  go_wp2_with fail
  refine (valid_yes d HD.out A B cp cq m _ HM.out (HG.out.keep D0.out.2)).mono ?_
  rintro e w1 ⟨rfl, hb1⟩
  have D1 := hide (D0.out.below hb1)
  clear hb1 b0 b1 b2 D0
  have D0 := D1
  clear D1
  obtain ⟨c0, c1, c2, _⟩ := D0.out.all
  go_wp2_with fail
  go_region_held3 (fun w' => w'.cell? ⟨w.heap.size, 0, none⟩ = some (.slice A d.n cp) ∧ w'.cell? ⟨w.heap.size, 1, none⟩ = some (.slice B m cq) ∧ w'.cell? ⟨w.heap.size, 2, none⟩ = some (.int .i64 d.lp) ∧ DC w [.slice A d.n cp, .slice B m cq, .int .i64 d.lp] w')
    ((go_split_ands; refine DC.all ?_; (repeat (first | (with_reducible assumption) | (with_reducible exact D0.out) | (with_reducible refine DC.drew ?_) | (with_reducible refine DC.below ?_ hb5)))))
    (first
      | (go_at_call 55
         refine Calls.mono (strands_any d HD.out A B cp cq m _ HM.out (HG.out.keep D0.out.drew.2)) ?_
         rintro e w1 ⟨A5, c5, rfl, hb5⟩
         rw [← HS.out]))
  have B1 := hide (D0.out.drew.below hb5).2
  clear hb5 c0 c1 c2
  go_wp2
  go_ret
  exact ⟨ret_int (by omega), B1.out⟩
theorem comps_T (d : Pl.Dg) (hd : Pl.Valid d) (A B : Option Addr) (n cp cq m lp T : Nat) (w : World) (hm : m = 4 * d.n) (hg : DgAt w A B d) (h1 : n = d.n) (h2 : lp = d.lp) (hT : strN d + d.lp = T) :
    Calls Try.prog 24 #[.agg #[.slice A n cp, .slice B m cq, .int .i64 (lp : Int)]] w (fun e w' => e = .returned (.int .i64 (T : Int)) ∧ Below w.heap.size w w') := by
  subst hT
  subst h1
  subst h2
  exact comps_any d hd A B cp cq m w hm hg
end Go.Proofs.Ytghdiolnonejaaa
end
