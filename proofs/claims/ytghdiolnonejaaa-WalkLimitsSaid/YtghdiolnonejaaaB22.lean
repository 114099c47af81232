/-
  The texts Zb, Ya, Yb, Yc, Yd, Ye, Yf in one.
-/
import Derived.Test.YtghdiolnonejaaaB21
set_option linter.unusedVariables false
set_option linter.unusedSimpArgs false

section
namespace Go.Proofs.Ytghdiolnonejaaa
open Go Go.RowKit
theorem fwd_nat (d : Pl.Dg) (x : Nat) : fwd d (x : Int) = Pl.out d x := by
  unfold fwd
  rw [if_neg (by omega), if_pos (by omega), Int.toNat_natCast]
theorem plc_pp (n s t : Nat) (h : s ≤ 4) : plc n s t = Pl.pp n (4 - s) t := by unfold plc Pl.pp; omega
theorem unS_le (d : Pl.Dg) (x y : Int) (ov : Bool) : un0 d x y ov ≤ 4 ∧ un1 d x y ov ≤ 4 := by
  unfold un0 un1 lnS th0 th1
  cases ov <;> cases fwd d x <;> cases fwd d y <;> decide
def pkF (d : Pl.Dg) (x y : Int) (ov : Bool) : Nat := 4 - un0 d x y ov
def pkG (d : Pl.Dg) (x y : Int) (ov : Bool) : Nat := 4 - un1 d x y ov
theorem pP_pp (d : Pl.Dg) (x y : Int) (ov : Bool) (t : Nat) : pP d x y ov t = Pl.pp d.n (pkF d x y ov) t := plc_pp _ _ _ (unS_le d x y ov).1
theorem pQ_pp (d : Pl.Dg) (x y : Int) (ov : Bool) (t : Nat) : pQ d x y ov t = Pl.pp (d.n + 1) (pkG d x y ov) t := plc_pp _ _ _ (unS_le d x y ov).2
theorem pk0_l0 (d : Pl.Dg) (x y : Int) (ov : Bool) : pk0 d x y ov = Pl.pkL0 d (pkF d x y ov) (pkG d x y ov) := by
  unfold pk0 Pl.pkL0
  rw [pP_pp, pQ_pp, pQ_pp, pP_pp]
  rfl
theorem app_s0 (l : List Int) (a b : Int) (c : Nat) (h : c < l.length) : (l ++ [a, b]).getD c 0 = l.getD c 0 := by
  rw [List.getD_eq_getElem?_getD, List.getD_eq_getElem?_getD, List.getElem?_append_left h]
theorem app_s1 (l : List Int) (a b : Int) : (l ++ [a, b]).getD l.length 0 = a := by
  rw [List.getD_eq_getElem?_getD, List.getElem?_append_right (Nat.le_refl _)]; simp
theorem app_s2 (l : List Int) (a b : Int) : (l ++ [a, b]).getD (l.length + 1) 0 = b := by
  rw [List.getD_eq_getElem?_getD, List.getElem?_append_right (by omega)]; simp
theorem out_pp (d : Pl.Dg) (n f t : Nat) : Pl.out d (Pl.pp n f t) = ((t + f) % 4 == 2 || ((t + f) % 4 == 1 && d.s n == 1) || ((t + f) % 4 == 3 && d.s n == -1)) := by
  unfold Pl.out
  rw [show Pl.pp n f t % 4 = (t + f) % 4 by unfold Pl.pp; omega, show Pl.pp n f t / 4 = n by unfold Pl.pp; omega]
theorem pk_pd {d : Pl.Dg} (hd : Pl.Valid d) (x y sg : Int) (ov : Bool) (hn : d.n + 2 ≤ 64) (hl : (pkL d x y sg).toNat ≤ 64) : Pl.Pd d (pkD d x y sg ov) (pkF d x y ov) (pkG d x y ov) (fwd d x) (fwd d y) := by
  have s0 : (pkD d x y sg ov).s d.n = sgn2 (un0 d x y ov) (ov0 d x y ov) := app_s1 _ _ _
  have s1 : (pkD d x y sg ov).s (d.n + 1) = sgn2 (un1 d x y ov) (ov1 d x y ov) := app_s2 _ _ _
  refine ⟨hn, by unfold Pl.Dg.n pkD; simp, hl, fun c hc => app_s0 _ _ _ _ hc, by rw [s0]; unfold sgn2; split <;> simp, by rw [s1]; unfold sgn2; split <;> simp, ?_, ?_, ?_, ?_, ?_, ?_, ?_, ?_⟩
  all_goals
    rw [out_pp]
    first
      | rw [s0]
      | rw [s1]
    try unfold pkF
    try unfold pkG
    try unfold sgn2
    try unfold un0
    try unfold un1
    try unfold ov0
    try unfold ov1
    try unfold lnS
    try unfold th0
    try unfold th1
    try unfold plc
    cases ov <;> cases fwd d x <;> cases fwd d y <;> decide
theorem pk_ok {d : Pl.Dg} (hd : Pl.Valid d) {x y sg : Int} {ov : Bool} (hin : inR d.n ⟨3, x, y, sg, ov⟩) (h : pkQ d x y sg = 0) : Pl.Valid (pkD d x y sg ov) ∧ Pl.Same d (pkD d x y sg ov) ∧
    ∃ c1 c2, Pl.Out d (pkD d x y sg ov) (pkF d x y ov) (pkG d x y ov) c1 c2 ∧ d.lp = (pkD d x y sg ov).lp + c1 + c2 := by
  have hw := hd.wf
  have hlp := hw.lp
  unfold inR at hin
  simp only at hin
  rw [if_neg (by decide), if_neg (by decide), if_neg (by decide), if_neg (by decide)] at hin
  obtain ⟨x1, x2, y1, y2, hs⟩ := hin
  unfold pkQ at h
  have hneed : ¬ d.lp < needP x y sg := fun e => by rw [if_pos e] at h; exact absurd h (by decide)
  rw [if_neg hneed] at h
  have hnear : ¬ Pl.vb (0 ≤ x ∧ 0 ≤ y ∧ x ≠ y ∧ ¬ nearP d x.toNat y.toNat) = true := fun e => by rw [if_pos e] at h; exact absurd h (by decide)
  rw [if_neg hnear] at h
  have hn : d.n + 2 ≤ 64 := Nat.le_of_not_lt fun e => by rw [if_pos e] at h; exact absurd h (by decide)
  rw [Pl.vb_iff] at hnear
  unfold needP at hneed
  have mt : (pkD d x y sg ov).mt = pkM d x y sg ov := rfl
  have lpe : (pkD d x y sg ov).lp = (pkL d x y sg).toNat := rfl
  by_cases hs0 : sg = 0
  · subst hs0
    have eM : pkM d x y 0 ov = leadM d (leadM d (pk0 d x y ov) y (pQ d x y ov 0) (pP d x y ov 2)) x (pP d x y ov 3) (pQ d x y ov 3) := by
      unfold pkM; rw [if_neg (by simp), if_neg (by decide), if_neg (by decide)]
    rw [eM, pk0_l0, pQ_pp, pP_pp, pP_pp, pQ_pp] at mt
    by_cases hx : x < 0 <;> by_cases hy : y < 0
    · rw [if_pos hx, if_pos ⟨hy, rfl⟩] at hneed
      have eL : (pkL d x y 0).toNat = d.lp - 2 := by unfold pkL; simp [hx, hy]; try omega
      have K := pk_pd hd x y 0 ov hn (by rw [eL]; omega)
      have mt' := mt
      unfold leadM at mt'
      rw [if_pos hx, if_pos hy] at mt'
      have Y := K.yloop hd
      have v := Y.1.xloop hd K mt'
      have O := K.out_loops hd v mt'
      exact ⟨v, O.same hd v (by rw [lpe, eL]; omega), 1, 1, O, by rw [lpe, eL]; omega⟩
    · obtain ⟨k, rfl⟩ := Int.eq_ofNat_of_zero_le (Int.not_lt.1 hy)
      have hk : k < 4 * d.n := by omega
      rw [if_pos hx, if_neg (fun e => hy e.1)] at hneed
      have eL : (pkL d x (k : Int) 0).toNat = d.lp - 1 := by unfold pkL; simp [hx, hy]; try omega
      have K := pk_pd hd x (k : Int) 0 ov hn (by rw [eL]; omega)
      have mt' := mt
      unfold leadM at mt'
      rw [if_pos hx, if_neg hy, Int.toNat_natCast] at mt'
      obtain ⟨b, Y, _⟩ := K.yedge hd hk (fwd_nat d k).symm
      have v := Y.xloop hd K mt'
      have O := K.out_yedge hd v hk mt'
      exact ⟨v, O.same hd v (by rw [lpe, eL]; omega), 0, 1, O, by rw [lpe, eL]; omega⟩
    · obtain ⟨k, rfl⟩ := Int.eq_ofNat_of_zero_le (Int.not_lt.1 hx)
      have hk : k < 4 * d.n := by omega
      rw [if_neg hx, if_pos ⟨hy, rfl⟩] at hneed
      have eL : (pkL d (k : Int) y 0).toNat = d.lp - 1 := by unfold pkL; simp [hx, hy]; try omega
      have K := pk_pd hd (k : Int) y 0 ov hn (by rw [eL]; omega)
      have mt' := mt
      unfold leadM at mt'
      rw [if_neg hx, if_pos hy, Int.toNat_natCast] at mt'
      have Y := K.yloop hd
      have v := Y.1.xedge0 hd K Y.2 hk (fwd_nat d k).symm mt'
      have O := K.out_xedge hd v hk mt'
      exact ⟨v, O.same hd v (by rw [lpe, eL]; omega), 1, 0, O, by rw [lpe, eL]; omega⟩
    · obtain ⟨k, rfl⟩ := Int.eq_ofNat_of_zero_le (Int.not_lt.1 hx)
      obtain ⟨j, rfl⟩ := Int.eq_ofNat_of_zero_le (Int.not_lt.1 hy)
      have hk : k < 4 * d.n := by omega
      have hj : j < 4 * d.n := by omega
      have hne : (k : Int) ≠ (j : Int) := fun e => by rw [if_neg (fun n => n e), if_neg hx] at hs; omega
      have hkj : k ≠ j := fun e => hne (by rw [e])
      have near : nearP d k j := Classical.byContradiction fun e => hnear ⟨by omega, by omega, hne, by rw [Int.toNat_natCast, Int.toNat_natCast]; exact e⟩
      have eL : (pkL d (k : Int) (j : Int) 0).toNat = d.lp := by unfold pkL; simp [hx, hy]
      have K := pk_pd hd (k : Int) (j : Int) 0 ov hn (by rw [eL]; omega)
      have mt' := mt
      unfold leadM at mt'
      rw [if_neg hx, if_neg hy, Int.toNat_natCast, Int.toNat_natCast] at mt'
      have v := K.edges hd hk hj (fwd_nat d k).symm (fwd_nat d j).symm hkj near.2 near.1 mt'
      have O := K.out_edges hd v hk hj hkj near.2 mt'
      exact ⟨v, O.same hd v (by rw [lpe, eL]; omega), 0, 0, O, by rw [lpe, eL]; omega⟩
  · have hxy : x = y := Classical.byContradiction fun e => hs0 (by rw [if_pos e] at hs; exact hs)
    subst hxy
    rw [if_neg (by simp)] at hs
    by_cases hx : x < 0
    · rw [if_pos hx] at hs
      have eM : pkM d x x sg ov = jn (jn (pk0 d x x ov) (pQ d x x ov 3) (pQ d x x ov 0)) (pP d x x ov 2) (pP d x x ov 3) := by unfold pkM; rw [if_pos ⟨hs0, hx⟩]
      rw [eM, pk0_l0, pQ_pp, pQ_pp, pP_pp, pP_pp] at mt
      rw [if_pos hx, if_neg (fun e => hs0 e.2)] at hneed
      have eL : (pkL d x x sg).toNat = d.lp - 1 := by unfold pkL; rw [if_pos ⟨hs0, hx⟩]; omega
      have K := pk_pd hd x x sg ov hn (by rw [eL]; omega)
      have v := K.self0 hd mt
      have O := K.out_self0 hd v mt
      exact ⟨v, O.same hd v (by rw [lpe, eL]; omega), 0, 1, O, by rw [lpe, eL]; omega⟩
    · rw [if_neg hx] at hs
      obtain ⟨k, rfl⟩ := Int.eq_ofNat_of_zero_le (Int.not_lt.1 hx)
      have hk : k < 4 * d.n := by omega
      have eL : (pkL d (k : Int) (k : Int) sg).toNat = d.lp := by unfold pkL; rw [if_neg (fun e => hx e.2), if_neg hs0]; omega
      have K := pk_pd hd (k : Int) (k : Int) sg ov hn (by rw [eL]; omega)
      rcases hs with rfl | rfl
      · have eM : pkM d (k : Int) (k : Int) 1 ov = jn (jn (jn (pk0 d (k : Int) (k : Int) ov) k (pP d (k : Int) (k : Int) ov 3)) (pQ d (k : Int) (k : Int) ov 3) (pQ d (k : Int) (k : Int) ov 0)) (pP d (k : Int) (k : Int) ov 2) (d.m k) := by
          unfold pkM; rw [if_neg (fun e => hx e.2), if_pos rfl, Int.toNat_natCast]
        rw [eM, pk0_l0, pQ_pp, pQ_pp, pP_pp, pP_pp] at mt
        have v := K.self1 hd hk (fwd_nat d k).symm mt
        have O := K.out_self1 hd v hk mt
        exact ⟨v, O.same hd v (by rw [lpe, eL]; omega), 0, 0, O, by rw [lpe, eL]; omega⟩
      · have eM : pkM d (k : Int) (k : Int) (-1) ov = jn (jn (jn (pk0 d (k : Int) (k : Int) ov) k (pQ d (k : Int) (k : Int) ov 0)) (pP d (k : Int) (k : Int) ov 2) (pP d (k : Int) (k : Int) ov 3)) (pQ d (k : Int) (k : Int) ov 3) (d.m k) := by
          unfold pkM; rw [if_neg (fun e => hx e.2), if_neg (by decide), if_pos rfl, Int.toNat_natCast]
        rw [eM, pk0_l0, pQ_pp, pQ_pp, pP_pp, pP_pp] at mt
        have v := K.self2 hd hk (fwd_nat d k).symm mt
        have O := K.out_self2 hd v hk mt
        exact ⟨v, O.same hd v (by rw [lpe, eL]; omega), 0, 0, O, by rw [lpe, eL]; omega⟩
/-- Every move that is applied keeps a diagram valid, and the number of components. -/
theorem ap_ok {d : Pl.Dg} (hd : Pl.Valid d) {m : Mv} (h : apC d m = 0) : Pl.Valid (apD d m) ∧ Pl.Same d (apD d m) := by
  obtain ⟨hk, hin, hc⟩ := apC_zero h
  obtain ⟨k, x, y, s, o⟩ := m
  simp only at hk hc
  have hk5 : k = 1 ∨ k = 2 ∨ k = 3 ∨ k = 4 ∨ k = 5 := by omega
  rcases hk5 with rfl | rfl | rfl | rfl | rfl
  · have hb : (-1 ≤ x ∧ x < 4 * d.n) ∧ (s = 1 ∨ s = -1) := by unfold inR at hin; simp at hin; exact ⟨⟨hin.1, hin.2.1⟩, hin.2.2.2⟩
    exact crl_ok hd hb.1 hb.2 hc
  · obtain ⟨c, rfl⟩ := Int.eq_ofNat_of_zero_le (show 0 ≤ x by unfold inR at hin; simp at hin; omega)
    have hcn : c < d.n := by unfold inR at hin; simp at hin; omega
    exact unD_ok hd hcn hc
  · have := pk_ok hd hin hc
    exact ⟨this.1, this.2.1⟩
  · obtain ⟨a, rfl⟩ := Int.eq_ofNat_of_zero_le (show 0 ≤ x by unfold inR at hin; simp at hin; omega)
    obtain ⟨b, rfl⟩ := Int.eq_ofNat_of_zero_le (show 0 ≤ y by unfold inR at hin; simp at hin; omega)
    have hab : a < b ∧ b < d.n := by unfold inR at hin; simp at hin; omega
    exact unpD_ok hd hab.1 hab.2 hc
  · obtain ⟨c, rfl⟩ := Int.eq_ofNat_of_zero_le (show 0 ≤ x by unfold inR at hin; simp at hin; omega)
    have hcn : c < 4 * d.n := by unfold inR at hin; simp at hin; omega
    have hc' : sldC d c = 0 := hc
    have ht : isT d c := Classical.byContradiction fun e => by unfold sldC at hc'; rw [if_neg e] at hc'; exact absurd hc' (by decide)
    exact sldD_ok hd hcn ht.1
end Go.Proofs.Ytghdiolnonejaaa
end

section
namespace Go.Proofs.Ytghdiolnonejaaa
open Go Go.RowKit
attribute [local go_sem ↓] Go.wp_at_zero Go.wp_at_succ
/-- By how much a move of a kind adds crossings. -/
def gro (k : Int) : Int := if k = 1 then 1 else if k = 2 then -1 else if k = 3 then 2 else if k = 4 then -2 else 0
def dels (n : Nat) (most : Int) (z : Mv) : Bool := decide (most < n + gro z.kind)
/-- The two boxes that the closure holds. -/
structure CB (W : World) (g1 g2 : Nat) (n : Nat) (most : Int) : Prop where
  n : Row W g1 3 [.int .i64 (n : Int)]
  m : Row W g2 3 [.int .i64 most]
theorem CB.below {W W' : World} {g1 g2 n : Nat} {most : Int} (h : CB W g1 g2 n most) (hb : Below W.heap.size W W') : CB W' g1 g2 n most := ⟨h.n.below hb, h.m.below hb⟩
set_option maxRecDepth 100000 in
set_option maxHeartbeats 4000000 in
theorem del_any (g1 g2 n : Nat) (most k x y s : Int) (o : Bool) (w : World) (h : CB w g1 g2 n most) (hn : n ≤ 64) :
    Calls Try.prog 128 #[.agg #[.int .i64 k, .int .i64 x, .int .i64 y, .int .i64 s, .bool o], .pointer (some ⟨g1, 0, none⟩), .pointer (some ⟨g2, 0, none⟩)] w fun e w' => e = .returned (.bool (dels n most ⟨k, x, y, s, o⟩)) ∧ Below w.heap.size w w' := by
  have M1 := hide (row_at (W := w) (g := w.heap.size) (t := 37) (vs := [.int .i64 k, .int .i64 x, .int .i64 y, .int .i64 s, .bool o]) rfl)
  have B1 := hide (show Below w.heap.size w (w.alloc (.cells #[.int .i64 k, .int .i64 x, .int .i64 y, .int .i64 s, .bool o] 37)) from (Below.refl _ _).alloc (Nat.le_refl _) _)
  have H1 := hide (h.below B1.out)
  have hg1 : g1 < w.heap.size := h.n.lt
  have hg2 : g2 < w.heap.size := h.m.lt
  obtain ⟨n0, n1⟩ := box1 H1.out.n
  obtain ⟨m0, m1⟩ := box1 H1.out.m
  obtain ⟨e0, e1, e2, e3, e4, e5⟩ := box5 M1.out
  clear h
  by_cases k1 : k = 1
  · subst k1
    have E := hide (show dels n most ⟨1, x, y, s, o⟩ = decide (most < (n : Int) + 1) from rfl)
    go_enter Try.func128, Try.ntmps128
    go_wp2
    go_ret
    exact ⟨by rw [E.out]; rfl, B1.out⟩
  · by_cases k2 : k = 2
    · subst k2
      have E := hide (show dels n most ⟨2, x, y, s, o⟩ = decide (most < (n : Int) - 1) from rfl)
      clear k1
      go_enter Try.func128, Try.ntmps128
      go_wp2
      go_ret
      exact ⟨by rw [E.out]; rfl, B1.out⟩
    · by_cases k3 : k = 3
      · subst k3
        have E := hide (show dels n most ⟨3, x, y, s, o⟩ = decide (most < (n : Int) + 2) from rfl)
        clear k1 k2
        go_enter Try.func128, Try.ntmps128
        go_wp2
        go_ret
        exact ⟨by rw [E.out]; rfl, B1.out⟩
      · by_cases k4 : k = 4
        · subst k4
          have E := hide (show dels n most ⟨4, x, y, s, o⟩ = decide (most < (n : Int) - 2) from rfl)
          clear k1 k2 k3
          go_enter Try.func128, Try.ntmps128
          go_wp2
          go_ret
          exact ⟨by rw [E.out]; rfl, B1.out⟩
        · have E := hide (show dels n most ⟨k, x, y, s, o⟩ = decide (most < (n : Int)) by
            unfold dels gro
            simp only [if_neg k1, if_neg k2, if_neg k3, if_neg k4, Int.add_zero])
          have t1 : (k == 1) = false := by rw [beq_eq_false_iff_ne]; exact k1
          have t2 : (k == 2) = false := by rw [beq_eq_false_iff_ne]; exact k2
          have t3 : (k == 3) = false := by rw [beq_eq_false_iff_ne]; exact k3
          have t4 : (k == 4) = false := by rw [beq_eq_false_iff_ne]; exact k4
          clear k1 k2 k3 k4
          go_enter Try.func128, Try.ntmps128
          go_wp2
          go_ret
          exact ⟨by rw [E.out]; rfl, B1.out⟩
/-- The first of the moves that is deleted. -/
def idxD (p : Mv → Bool) : List Mv → Option Nat
  | [] => none
  | z :: l => if p z then some 0 else (idxD p l).map (· + 1)
theorem idxD_none {p : Mv → Bool} : ∀ {l : List Mv}, (∀ (j : Nat) (z : Mv), l[j]? = some z → p z = false) → idxD p l = none
  | [], _ => rfl
  | z :: l, h => by
    unfold idxD
    rw [if_neg (by rw [h 0 z rfl]; decide), idxD_none (l := l) (fun j y hy => h (j + 1) y hy)]
    rfl
theorem idxD_some {p : Mv → Bool} : ∀ {l : List Mv} {q : Nat} {z : Mv}, l[q]? = some z → p z = true → (∀ (j : Nat) (y : Mv), j < q → l[j]? = some y → p y = false) → idxD p l = some q
  | [], q, z, hz, _, _ => by cases hz
  | y :: l, 0, z, hz, hp, _ => by
    obtain rfl : y = z := by simpa using hz
    unfold idxD
    rw [if_pos hp]
  | y :: l, q + 1, z, hz, hp, h => by
    unfold idxD
    rw [if_neg (by rw [h 0 y (by omega) rfl]; decide), idxD_some (l := l) (q := q) (z := z) hz hp (fun j u hj hu => h (j + 1) u (by omega) hu)]
    rfl
def IdxPost (p : Mv → Bool) (ms : List Mv) (w : World) (e : Ending) (w' : World) : Prop := ((idxD p ms = none ∧ e = .returned (.int .i64 (-1))) ∨ ∃ i, idxD p ms = some i ∧ i < ms.length ∧ e = .returned (.int .i64 (i : Int))) ∧ Below w.heap.size w w'
set_option maxRecDepth 100000 in
set_option maxHeartbeats 4000000 in
theorem index_any (ms : List Mv) (A : Option Addr) (c g1 g2 n N : Nat) (most : Int) (w : World) (hA : MovesV w A N ms) (h : CB w g1 g2 n most) (hn : n ≤ 64) (hN : N ≤ 1000000) :
    Calls Try.prog 145 #[.slice A N c, .func (.func 128) #[] #[.pointer (some ⟨g1, 0, none⟩), .pointer (some ⟨g2, 0, none⟩)]] w (IdxPost (dels n most) ms w) := by
  have HA := hide hA
  have HC := hide h
  clear hA h
  go_enter Try.func145, Try.ntmps145
  go_wp2
  go_loopg [5, 8] N (fun g s5 s8 wx => ∃ q : Nat, q + g = N ∧ s8 = .int .i64 (q : Int) ∧ (∀ (j : Nat) (y : Mv), j < q → ms[j]? = some y → dels n most y = false) ∧ Below w.heap.size w wx)
  case atStart => exact ⟨0, by omega, rfl, (fun j y h => absurd h (by omega)), Below.refl _ _⟩
  case round =>
    obtain ⟨q, hkg, rfl, hno, hb⟩ := hrel
    have HNO := hide hno
    have HB := hide hb
    have HKG := hide hkg
    clear hno hb
    by_cases hq : q < N
    · have hqi : (q : Int) < (N : Int) := by omega
      have q0 : (0 : Int) ≤ (q : Int) := by omega
      obtain ⟨g5, zk, zx, zy, zs, zo, rfl, hgl, hz, c0, c1, c2, c3, c4⟩ := (HA.out.keep HB.out).at_ hq
      have HZ := hide hz
      clear hz hkg
      go_wp2_with fail
      refine (del_any g1 g2 n most zk zx zy zs zo _ (HC.out.below HB.out) hn).mono ?_
      rintro e w1 ⟨rfl, hb1⟩
      obtain ⟨db, hdb⟩ : ∃ b, b = dels n most ⟨zk, zx, zy, zs, zo⟩ := ⟨_, rfl⟩
      rw [← hdb]
      have HD := hide hdb
      have HB1 := hide (HB.out.trans (hb1.mono HB.out.size))
      clear hdb hb1
      cases db with
      | true =>
        go_wp2
        go_ret
        exact ⟨.inr ⟨q, idxD_some HZ.out HD.out.symm HNO.out, by have := HA.out.1; omega, rfl⟩, HB1.out⟩
      | false =>
        go_wp2
        go_roundg (gk - 1)
        case measure => have := HKG.out; omega
        case rel =>
          refine ⟨q + 1, by have := HKG.out; omega, by go_num, fun j y hj hy => ?_, HB1.out⟩
          rcases Nat.lt_succ_iff_lt_or_eq.1 hj with h | rfl
          · exact HNO.out j y h hy
          · rw [HZ.out] at hy
            obtain rfl := Option.some.inj hy
            exact HD.out.symm
    · have hqi : ¬ ((q : Int) < (N : Int)) := by omega
      clear hkg
      go_wp2
      go_ret
      refine ⟨.inl ⟨idxD_none fun j z hz => HNO.out j z ?_ hz, rfl⟩, HB.out⟩
      have := (List.getElem?_eq_some_iff.1 hz).1
      have := HA.out.1
      omega
theorem set5 (m : Mv) (r : List Value) (j : Nat) (v : Value) : (m.cells ++ r).set (j + 5) v = m.cells ++ r.set j v := rfl
theorem mvs_set : ∀ (R : List Mv) (i : Nat) (z : Mv), i < R.length → (((((mvs R).set (i * 5) (.int .i64 z.kind)).set (i * 5 + 1) (.int .i64 z.x)).set (i * 5 + 2) (.int .i64 z.y)).set (i * 5 + 3) (.int .i64 z.sign)).set (i * 5 + 4) (.bool z.over) = mvs (R.set i z)
  | [], i, z, h => absurd h (by simp)
  | m :: R, 0, z, _ => rfl
  | m :: R, i + 1, z, h => by
    have ih := mvs_set R i z (by simpa using h)
    show (((((m.cells ++ mvs R).set ((i + 1) * 5) (.int .i64 z.kind)).set ((i + 1) * 5 + 1) (.int .i64 z.x)).set ((i + 1) * 5 + 2) (.int .i64 z.y)).set ((i + 1) * 5 + 3) (.int .i64 z.sign)).set ((i + 1) * 5 + 4) (.bool z.over) = m.cells ++ mvs (R.set i z)
    rw [← ih]
    have a0 : (i + 1) * 5 = i * 5 + 5 := by omega
    have a1 : i * 5 + 5 + 1 = (i * 5 + 1) + 5 := by omega
    have a2 : i * 5 + 5 + 2 = (i * 5 + 2) + 5 := by omega
    have a3 : i * 5 + 5 + 3 = (i * 5 + 3) + 5 := by omega
    have a4 : i * 5 + 5 + 4 = (i * 5 + 4) + 5 := by omega
    rw [a0, a1, a2, a3, a4, set5, set5, set5, set5, set5]
theorem own_moves_set {W : World} {b g n c : Nat} {R : List Mv} (h : W.ownsRow b 37 5 (.slice (some ⟨g, 0, none⟩) n c) n (mvs R)) (i : Nat) (z : Mv) (hi : i < R.length) :
    (((((W.setCell ⟨g, i * 5, none⟩ (.int .i64 z.kind)).setCell ⟨g, i * 5 + 1, none⟩ (.int .i64 z.x)).setCell ⟨g, i * 5 + 2, none⟩ (.int .i64 z.y)).setCell ⟨g, i * 5 + 3, none⟩ (.int .i64 z.sign)).setCell ⟨g, i * 5 + 4, none⟩ (.bool z.over)).ownsRow b 37 5 (.slice (some ⟨g, 0, none⟩) n c) n (mvs (R.set i z)) := by
  rw [← mvs_set R i z hi]
  exact ((((h.stored _ _).1.stored _ _).1.stored _ _).1.stored _ _).1.stored _ _ |>.1
theorem own_setCells {b g n c : Nat} : ∀ (vs : List Value) (o : Nat) (W : World) (xs : List Value), W.ownsRow b 37 5 (.slice (some ⟨g, 0, none⟩) n c) n xs → ∃ ys, (W.setCells g o vs).ownsRow b 37 5 (.slice (some ⟨g, 0, none⟩) n c) n ys ∧ ys.take o = xs.take o
  | [], o, W, xs, h => ⟨xs, h, rfl⟩
  | v :: r, o, W, xs, h => by
    obtain ⟨ys, h1, h2⟩ := own_setCells r (o + 1) (W.setCell ⟨g, o, none⟩ v) (xs.set o v) (h.stored o v).1
    refine ⟨ys, h1, ?_⟩
    have e : (ys.take (o + 1)).take o = ((xs.set o v).take (o + 1)).take o := by rw [h2]
    rw [List.take_take, List.take_take, Nat.min_eq_left (by omega)] at e
    rw [e, List.take_set_of_le (Nat.le_refl _)]
theorem own_prefix {W : World} {b g n c i : Nat} {xs : List Value} (h : W.ownsRow b 37 5 (.slice (some ⟨g, 0, none⟩) n c) n xs) (hi : i ≤ n) : W.ownsRow b 37 5 (.slice (some ⟨g, 0, none⟩) i c) i (xs.take (i * 5)) := by
  have hl := h.1
  rcases h.2 with ⟨h1, _⟩ | ⟨g', cap, cur, h1, h2, h3, h4, h5, h6, h7⟩
  · cases h1
  · injection h1 with e1 e2 e3
    injection e1 with e1
    injection e1 with e1
    subst e1 e3
    refine ⟨by rw [List.length_take]; omega, .inr ⟨g, c, cur, rfl, h2, h3, by omega, h5, h6, ?_⟩⟩
    rw [← h7, List.take_take, Nat.min_eq_left (by omega)]
theorem mvs_take : ∀ (R : List Mv) (i : Nat), (mvs R).take (i * 5) = mvs (R.take i)
  | [], i => by simp [mvs]
  | m :: R, 0 => by simp [mvs]
  | m :: R, i + 1 => by
    have ih := mvs_take R i
    show (m.cells ++ mvs R).take ((i + 1) * 5) = m.cells ++ mvs (R.take i)
    have e : m.cells.length = 5 := rfl
    rw [List.take_append, e, show (i + 1) * 5 - 5 = i * 5 by omega, ih, List.take_of_length_le (by omega)]
theorem below_cells {B g : Nat} {a : World} (hg : B ≤ g) : ∀ (vs : List Value) (o : Nat) (W : World), Below B a W → Below B a (W.setCells g o vs)
  | [], _, _, h => h
  | v :: r, o, W, h => below_cells hg r (o + 1) _ (h.setCell (by show B ≤ g; exact hg) v)
theorem run_clear_moves (w : World) (ty : TypeId) (g o n c : Nat) (hn : 0 < n) (hc : ∀ j, j < n * 5 → (w.cell? ⟨g, o + j, none⟩).isSome = true) (hf : ∀ j, j < n * 5 → w.frozen? ⟨g, o + j, none⟩ = false) :
    ∃ vs : List Value, (Builtin.clear_ #[27] ty #[.slice (some ⟨g, o, none⟩) n c]).run Try.prog w = .ok (.tuple #[]) (w.setCells g o vs) := by
  have hzv : (zeroValue 37).run Try.prog w = .ok (.agg #[.int .i64 0, .int .i64 0, .int .i64 0, .int .i64 0, .bool false]) w := by kernel_rfl
  have hz5 : ∀ i, (#[Value.int .i64 0, .int .i64 0, .int .i64 0, .int .i64 0, .bool false][i % 5]!).oneCell' = true := by
    intro i
    have : i % 5 = 0 ∨ i % 5 = 1 ∨ i % 5 = 2 ∨ i % 5 = 3 ∨ i % 5 = 4 := by omega
    rcases this with h | h | h | h | h <;> rw [h] <;> rfl
  have hst := run_storeCells_cells (P := Try.prog) g o (Builtin.zeroCells #[.int .i64 0, .int .i64 0, .int .i64 0, .int .i64 0, .bool false] n).toList 0 w (by simpa [Builtin.zeroCells] using hc) (by simpa [Builtin.zeroCells] using hf) (by
    intro v hv
    simp only [Builtin.zeroCells, Array.toList_map, List.mem_map] at hv
    obtain ⟨i, _, rfl⟩ := hv
    exact hz5 i)
  simp only [Nat.add_zero] at hst
  refine ⟨(Builtin.zeroCells #[.int .i64 0, .int .i64 0, .int .i64 0, .int .i64 0, .bool false] n).toList, ?_⟩
  obtain ⟨m, rfl⟩ : ∃ m, n = m + 1 := ⟨n - 1, by omega⟩
  unfold Builtin.clear_
  simp [run_underlying Try.underlying27, hzv, Value.cells, hst, Result.andThen]
end Go.Proofs.Ytghdiolnonejaaa
end

section
namespace Go.Proofs.Ytghdiolnonejaaa
open Go Go.RowKit
attribute [local go_sem ↓] Go.wp_at_zero Go.wp_at_succ
/-- The moves that are kept. -/
def keepM (n : Nat) (most : Int) (l : List Mv) : List Mv := l.filter (fun z => !dels n most z)
theorem keepM_s {n : Nat} {most : Int} {l : List Mv} {j : Nat} {z : Mv} (h : l[j]? = some z) : keepM n most (l.take (j + 1)) = keepM n most (l.take j) ++ if dels n most z then [] else [z] := by
  unfold keepM
  obtain ⟨hq, e⟩ := List.getElem?_eq_some_iff.1 h
  rw [List.take_succ_eq_append_getElem hq, List.filter_append, e]
  cases hd : dels n most z <;> simp [List.filter_cons, hd]
theorem idxD_no {p : Mv → Bool} : ∀ {l : List Mv}, idxD p l = none → ∀ z, z ∈ l → p z = false
  | [], _, z, h => by cases h
  | y :: l, h, z, hz => by
    unfold idxD at h
    cases hp : p y with
    | true => rw [if_pos hp] at h; cases h
    | false =>
      rw [if_neg (by rw [hp]; decide)] at h
      have h2 : idxD p l = none := by simpa using h
      rcases List.mem_cons.1 hz with rfl | hz
      · exact hp
      · exact idxD_no h2 z hz
theorem idxD_at {p : Mv → Bool} : ∀ {l : List Mv} {i : Nat}, idxD p l = some i → (l.take (i + 1)).filter (fun z => !p z) = l.take i
  | [], i, h => by cases h
  | y :: l, i, h => by
    unfold idxD at h
    cases hp : p y with
    | true =>
      rw [if_pos hp] at h
      obtain rfl : 0 = i := by simpa using h
      simp [List.filter_cons, hp]
    | false =>
      rw [if_neg (by rw [hp]; decide)] at h
      obtain ⟨k, hk, rfl⟩ := Option.map_eq_some_iff.1 h
      have ih := idxD_at hk
      rw [List.take_succ_cons, List.filter_cons, if_pos (by rw [hp]; rfl), ih, List.take_succ_cons]
theorem keepM_all {n : Nat} {most : Int} {l : List Mv} (h : idxD (dels n most) l = none) : keepM n most l = l := by
  unfold keepM
  refine List.filter_eq_self.2 fun z hz => ?_
  rw [idxD_no h z hz]
  rfl
/-- The row while it is compacted. -/
structure DF (w : World) (B b g N c g1 g2 n : Nat) (most : Int) (ms : List Mv) (j i : Nat) (R : List Mv) (W : World) : Prop where
  len : R.length = N
  ij : i < j
  tk : R.take i = keepM n most (ms.take j)
  dr : R.drop j = ms.drop j
  own : W.ownsRow b 37 5 (.slice (some ⟨g, 0, none⟩) N c) N (mvs R)
  cb : CB W g1 g2 n most
  bel : Below B w W
  lo : B ≤ b ∧ B ≤ W.heap.size ∧ g1 < b ∧ g2 < b ∧ b ≤ g
section
variable {w W W' : World} {B b g N c g1 g2 n j i : Nat} {most : Int} {ms R : List Mv}
theorem DF.below (h : DF w B b g N c g1 g2 n most ms j i R W) (hb : Below W.heap.size W W') : DF w B b g N c g1 g2 n most ms j i R W' :=
  ⟨h.len, h.ij, h.tk, h.dr, own_below h.own hb, h.cb.below hb, h.bel.trans (hb.mono h.lo.2.1), h.lo.1, Nat.le_trans h.lo.2.1 hb.size, h.lo.2.2⟩
theorem DF.gone (h : DF w B b g N c g1 g2 n most ms j i R W) {z : Mv} (hz : ms[j]? = some z) (hd : dels n most z = true) : DF w B b g N c g1 g2 n most ms (j + 1) i R W := by
  refine ⟨h.len, by have := h.ij; omega, ?_, ?_, h.own, h.cb, h.bel, h.lo⟩
  · rw [keepM_s hz, hd, if_pos rfl, List.append_nil]; exact h.tk
  · have e := congrArg (fun l => l.drop 1) h.dr
    simpa [List.drop_drop] using e
theorem DF.at_ (h : DF w B b g N c g1 g2 n most ms j i R W) {z : Mv} (hz : ms[j]? = some z) : R[j]? = some z := by
  have e := congrArg (fun l => l[0]?) h.dr
  simp only [List.getElem?_drop, Nat.add_zero] at e
  rw [e, hz]
theorem row_sets {W : World} {g g' : Nat} {t : TypeId} {vs : List Value} (h : Row W g t vs) (hne : g ≠ g') (a0 a1 a2 a3 a4 : Nat) (v0 v1 v2 v3 v4 : Value) : Row (((((W.setCell ⟨g', a0, none⟩ v0).setCell ⟨g', a1, none⟩ v1).setCell ⟨g', a2, none⟩ v2).setCell ⟨g', a3, none⟩ v3).setCell ⟨g', a4, none⟩ v4) g t vs :=
  ((((h.other hne _).other hne _).other hne _).other hne _).other hne _
theorem DF.kept (h : DF w B b g N c g1 g2 n most ms j i R W) {z : Mv} (hz : ms[j]? = some z) (hd : dels n most z = false) (hj : j < N) :
    DF w B b g N c g1 g2 n most ms (j + 1) (i + 1) (R.set i z) (((((W.setCell ⟨g, i * 5, none⟩ (.int .i64 z.kind)).setCell ⟨g, i * 5 + 1, none⟩ (.int .i64 z.x)).setCell ⟨g, i * 5 + 2, none⟩ (.int .i64 z.y)).setCell ⟨g, i * 5 + 3, none⟩ (.int .i64 z.sign)).setCell ⟨g, i * 5 + 4, none⟩ (.bool z.over)) := by
  have hij := h.ij
  have hl := h.len
  obtain ⟨l1, l2, l3, l4, l5⟩ := h.lo
  refine ⟨by rw [List.length_set]; exact hl, by omega, ?_, ?_, own_moves_set h.own i z (by omega), ⟨row_sets h.cb.n (by omega) _ _ _ _ _ _ _ _ _ _, row_sets h.cb.m (by omega) _ _ _ _ _ _ _ _ _ _⟩, ?_, l1, by simpa using l2, l3, l4, l5⟩
  · rw [keepM_s hz, hd, if_neg (by decide), ← h.tk, List.take_succ_eq_append_getElem (by rw [List.length_set]; omega), List.getElem_set_self, List.take_set_of_le (Nat.le_refl _)]
  · rw [List.drop_set_of_lt (by omega)]
    have e := congrArg (fun l => l.drop 1) h.dr
    simpa [List.drop_drop] using e
  · exact ((((h.bel.setCell (by show B ≤ g; omega) _).setCell (by show B ≤ g; omega) _).setCell (by show B ≤ g; omega) _).setCell (by show B ≤ g; omega) _).setCell (by show B ≤ g; omega) _
end
def DelPost (B b : Nat) (l : List Mv) (w : World) (e : Ending) (w' : World) : Prop := ∃ v, e = .returned v ∧ w'.ownsRow b 37 5 v l.length (mvs l) ∧ Below B w w'
theorem own_caps {W : World} {b g n c : Nat} {xs : List Value} (h : W.ownsRow b 37 5 (.slice (some ⟨g, 0, none⟩) n c) n xs) : n ≤ c ∧ c ≤ maxLen ∧ b ≤ g ∧ g < W.heap.size := by
  rcases h.2 with ⟨h1, _⟩ | ⟨g', cap, cur, h1, h2, h3, h4, h5, h6, h7⟩
  · cases h1
  · injection h1 with e1 e2 e3
    injection e1 with e1
    injection e1 with e1
    subst e1 e3
    exact ⟨h4, h5, h2, lt_of_heap h3⟩
set_option maxRecDepth 100000 in
set_option maxHeartbeats 8000000 in
theorem delete_any (ms : List Mv) (A : Option Addr) (c g1 g2 n N B b : Nat) (most : Int) (w : World) (hA : w.ownsRow b 37 5 (.slice A N c) N (mvs ms)) (hlen : N = ms.length) (h : CB w g1 g2 n most) (hn : n ≤ 64) (hN : N ≤ 1000000) (hB : B ≤ b) (hB2 : B ≤ w.heap.size) (hg1 : g1 < b) (hg2 : g2 < b) :
    Calls Try.prog 127 #[.slice A N c, .func (.func 128) #[] #[.pointer (some ⟨g1, 0, none⟩), .pointer (some ⟨g2, 0, none⟩)]] w (DelPost B b (keepM n most ms) w) := by
  obtain ⟨A', c', e, hMV⟩ := (show MovesAt w (.slice A N c) ms from ⟨b, by rw [hlen] at hA; rw [hlen]; exact hA⟩).mv
  injection e with e1 e2 e3
  subst e1 e3
  rw [← hlen] at hMV
  have HMV := hide hMV
  have HA := hide hA
  have HC := hide h
  have HL := hide hlen
  clear hMV hA h e2 hlen
  go_enter Try.func127, Try.ntmps127
  go_wp2_with fail
  refine (index_any ms A c g1 g2 n N most _ HMV.out HC.out hn hN).mono ?_
  rintro e w1 ⟨hi, hb1⟩
  have O1 := hide (own_below HA.out hb1)
  have C1 := hide (HC.out.below hb1)
  have B1 := hide (hb1.mono hB2)
  have hB3 : B ≤ w1.heap.size := Nat.le_trans hB2 hb1.size
  clear hb1
  rcases hi with ⟨h0, rfl⟩ | ⟨i0, h0, hi0, rfl⟩
  · have E := hide (keepM_all h0)
    clear h0
    go_wp2
    go_ret
    exact ⟨_, rfl, by rw [E.out, ← HL.out]; exact O1.out, B1.out⟩
  · have HI0 := hide (idxD_at h0)
    clear h0
    have hNi : i0 < N := by rw [HL.out]; exact hi0
    obtain ⟨g, cap, e, _, hgl⟩ := World.ownsRow.form O1.out (by omega)
    injection e with e1 _ e3
    subst e1 e3
    obtain ⟨q1, q2, q3, q4⟩ := own_caps O1.out
    have t1 : ((i0 : Int) == -1) = false := by rw [beq_eq_false_iff_ne]; omega
    clear hi0 hgl
    have D0 := hide (show DF w B b g N c g1 g2 n most ms (i0 + 1) i0 ms w1 from ⟨HL.out.symm, by omega, HI0.out.symm, rfl, O1.out, C1.out, B1.out, hB, hB3, hg1, hg2, q3⟩)
    clear HMV HA HC HI0 O1 C1 B1
    unfold maxLen at q2
    go_wp2
    go_loopg [5, 6, 7] (N - (i0 + 1)) (fun gg s5 s6 s7 wx => ∃ (j i : Nat) (R : List Mv), j + gg = N ∧ s6 = .int .i64 (j : Int) ∧ s5 = .int .i64 (i : Int) ∧ DF w B b g N c g1 g2 n most ms j i R wx)
    case atStart => exact ⟨i0 + 1, i0, ms, by omega, by go_num, rfl, D0.out⟩
    case round =>
      clear D0 t1
      obtain ⟨j, i, R, hkg, rfl, rfl, hd⟩ := hrel
      have HKG := hide hkg
      have D1 := hide hd
      have hij := hd.ij
      have hRl := hd.len
      clear hkg hd
      by_cases hj : j < N
      · have hji : (j : Int) < (N : Int) := by omega
        have j0 : (0 : Int) ≤ (j : Int) := by omega
        have i00 : (0 : Int) ≤ (i : Int) := by omega
        have i01 : (i : Int) < (N : Int) := by omega
        obtain ⟨z, hz⟩ : ∃ z, ms[j]? = some z := ⟨_, List.getElem?_eq_getElem (by rw [← HL.out]; exact hj)⟩
        obtain ⟨zk, zx, zy, zs, zo⟩ := z
        have HZ := hide hz
        have hzR := D1.out.at_ hz
        have cj : ∀ t u, (Mv.cells ⟨zk, zx, zy, zs, zo⟩)[t]? = some u → wr.cell? ⟨g, j * 5 + t, none⟩ = some u := fun t u hu => by
          have ht : t < 5 := (List.getElem?_eq_some_iff.1 hu).1
          rw [World.ownsRow.cellAt D1.out.own (j * 5 + t) (by omega)]
          exact mv_get R j _ hzR t u hu
        have c0 := cj 0 _ rfl
        have c1 := cj 1 _ rfl
        have c2 := cj 2 _ rfl
        have c3 := cj 3 _ rfl
        have c4 := cj 4 _ rfl
        simp only [Nat.add_zero] at c0
        have hgl : g < wr.heap.size := lt_of_cell c0
        have MB := hide (row_at (W := wr) (g := wr.heap.size) (t := 37) (vs := [.int .i64 zk, .int .i64 zx, .int .i64 zy, .int .i64 zs, .bool zo]) rfl)
        have D2 := hide (D1.out.below ((Below.refl wr.heap.size wr).alloc (Nat.le_refl _) (.cells #[.int .i64 zk, .int .i64 zx, .int .i64 zy, .int .i64 zs, .bool zo] 37)))
        clear hz hzR cj D1
        go_wp2_with fail
        refine (del_any g1 g2 n most zk zx zy zs zo _ D2.out.cb hn).mono ?_
        rintro e w2 ⟨rfl, hb2⟩
        have D3 := hide (D2.out.below hb2)
        have MB2 := hide (MB.out.below hb2)
        obtain ⟨db, hdb⟩ : ∃ d, d = dels n most ⟨zk, zx, zy, zs, zo⟩ := ⟨_, rfl⟩
        rw [← hdb]
        have HD := hide hdb
        have hgl2 : wr.heap.size < w2.heap.size := MB2.out.lt
        have hgl3 : g < w2.heap.size := by omega
        have hne : g ≠ wr.heap.size := by omega
        clear hdb hb2 D2 MB c0 c1 c2 c3 c4
        obtain ⟨e0, e1, e2, e3, e4, e5⟩ := box5 MB2.out
        cases db with
        | true =>
          go_wp2
          go_roundg (gk - 1)
          case measure => have := HKG.out; omega
          case rel => exact ⟨j + 1, i, R, by have := HKG.out; omega, by go_num, rfl, D3.out.gone HZ.out HD.out.symm⟩
        | false =>
          obtain ⟨y, hy⟩ : ∃ y, R[i]? = some y := ⟨_, List.getElem?_eq_getElem (by omega)⟩
          obtain ⟨yk, yx, yy, ys, yo⟩ := y
          have ci : ∀ t u, (Mv.cells ⟨yk, yx, yy, ys, yo⟩)[t]? = some u → w2.cell? ⟨g, i * 5 + t, none⟩ = some u := fun t u hu => by
            have ht : t < 5 := (List.getElem?_eq_some_iff.1 hu).1
            rw [World.ownsRow.cellAt D3.out.own (i * 5 + t) (by omega)]
            exact mv_get R i _ hy t u hu
          have c0 := ci 0 _ rfl
          have c1 := ci 1 _ rfl
          have c2 := ci 2 _ rfl
          have c3 := ci 3 _ rfl
          have c4 := ci 4 _ rfl
          simp only [Nat.add_zero] at c0
          have hfz : ∀ o, w2.frozen? ⟨g, o, none⟩ = false := fun o => World.ownsRow.frozenAt D3.out.own o
          clear ci hy
          go_wp2
          go_roundg (gk - 1)
          case measure => have := HKG.out; omega
          case rel =>
            refine ⟨j + 1, i + 1, R.set i ⟨zk, zx, zy, zs, zo⟩, by have := HKG.out; omega, by go_num, by go_num, ?_⟩
            exact D3.out.kept HZ.out HD.out.symm hj
      · have hji : ¬ ((j : Int) < (N : Int)) := by omega
        have ej : j = N := by have := HKG.out; omega
        have hiN : i < N := by omega
        obtain ⟨vs, hcl⟩ := run_clear_moves wr 0 g (i * 5) (N - i) (c - i) (by omega) (fun t ht => by
          rw [World.ownsRow.cellAt D1.out.own (i * 5 + t) (by omega)]
          rw [List.getElem?_eq_getElem (by rw [mvs_len]; omega)]
          rfl) (fun t ht => World.ownsRow.frozenAt D1.out.own _)
        have q5 : c ≤ 9223372036854775807 := by omega
        have i00 : (0 : Int) ≤ (i : Int) := by omega
        have i01 : (i : Int) ≤ (N : Int) := by omega
        have i02 : (i : Int) ≤ (c : Int) := by omega
        have i03 : ¬ (c = i) := by omega
        have i04 : (N : Int) ≤ (c : Int) := by omega
        have HEJ := hide ej
        clear q2 ej
        go_wp2
        go_ret
        obtain ⟨ys, h1, h2⟩ := own_setCells vs (i * 5) wr (mvs R) D1.out.own
        have h3 := own_prefix h1 (show i ≤ N by omega)
        have e1 : R.take i = keepM n most ms := by rw [D1.out.tk, HEJ.out, HL.out, List.take_length]
        rw [h2, mvs_take, e1] at h3
        have e2 : (keepM n most ms).length = i := by rw [← e1, List.length_take]; omega
        exact ⟨_, rfl, by rw [e2]; exact h3, below_cells (by omega) vs _ _ D1.out.bel⟩
end Go.Proofs.Ytghdiolnonejaaa
end

section
namespace Go.Proofs.Ytghdiolnonejaaa
open Go Go.RowKit
attribute [local go_sem ↓] Go.wp_at_zero Go.wp_at_succ
/-- The choices of a walk at a valid diagram. -/
noncomputable def chL (d : Pl.Dg) (most : Int) : List Mv := keepM d.n most (allL d)
theorem chL_le {d : Pl.Dg} (hn : d.n ≤ 64) (most : Int) : (chL d most).length ≤ 500000 := by
  have a := allL_le hn
  have b := List.length_filter_le (fun z => !dels d.n most z) (allL d)
  unfold chL keepM
  omega
set_option maxRecDepth 100000 in
set_option maxHeartbeats 4000000 in
theorem choices_any (d : Pl.Dg) (hd : Pl.Valid d) (A B : Option Addr) (cp cq m : Nat) (most : Int) (w : World) (hm : m = 4 * d.n) (hg : DgAt w A B d) :
    Calls Try.prog 75 #[.agg #[.slice A d.n cp, .slice B m cq, .int .i64 d.lp], .int .i64 most] w fun e w' => ∃ v, e = .returned v ∧ MovesIn w.heap.size w' v (chL d most) ∧ Below w.heap.size w w' := by
  have HM := hide hm
  have HG := hide hg
  have hn := hd.wf.few
  clear hm hg
  have b3 : Below w.heap.size w (((w.alloc (.cells #[.slice A d.n cp, .slice B m cq, .int .i64 (d.lp : Int)] 24)).alloc (.cells #[.int .i64 most] 3)).alloc (.cells #[.int .i64 (d.n : Int)] 3)) := (((Below.refl _ _).alloc (Nat.le_refl _) _).alloc (by simp) _).alloc (by simp; omega) _
  have R0 := hide (((row_at (W := w) (g := w.heap.size) (t := 24) (vs := [.slice A d.n cp, .slice B m cq, .int .i64 (d.lp : Int)]) rfl).alloc (.cells #[.int .i64 most] 3)).alloc (.cells #[.int .i64 (d.n : Int)] 3))
  have C0 := hide (show CB (((w.alloc (.cells #[.slice A d.n cp, .slice B m cq, .int .i64 (d.lp : Int)] 24)).alloc (.cells #[.int .i64 most] 3)).alloc (.cells #[.int .i64 (d.n : Int)] 3)) (w.heap.size + 1 + 1) (w.heap.size + 1) d.n most from
    ⟨row_at (vs := [_]) (by simp), (row_at (vs := [_]) (by simp)).alloc _⟩)
  have B0 := hide b3
  clear b3
  go_enter Try.func75, Try.ntmps75
  go_wp2_with fail
  refine (All_any d hd A B cp cq m _ HM.out (HG.out.keep B0.out)).mono ?_
  rintro e w1 ⟨v, rfl, ⟨b, hb, hb2, own⟩, hb1⟩
  have C1 := hide (C0.out.below hb1)
  have B1 := hide (B0.out.trans (hb1.mono B0.out.size))
  have hbig : w.heap.size + 1 + 1 < (((w.alloc (.cells #[.slice A d.n cp, .slice B m cq, .int .i64 (d.lp : Int)] 24)).alloc (.cells #[.int .i64 most] 3)).alloc (.cells #[.int .i64 (d.n : Int)] 3)).heap.size := C0.out.n.lt
  have hs := hb1.size
  have k1 : w.heap.size ≤ b := by omega
  have k2 : w.heap.size ≤ w1.heap.size := by omega
  have k3 : w.heap.size + 1 + 1 < b := by omega
  have k4 : w.heap.size + 1 < b := by omega
  obtain ⟨A5, c5, rfl⟩ := owns_slice own
  have OWN := hide own
  have lal := allL_le hn
  obtain ⟨N5, hN5⟩ : ∃ n, n = (allL d).length := ⟨_, rfl⟩
  have O1 := OWN.out
  rw [← hN5] at O1 lal ⊢
  have OWN1 := hide O1
  have HN5 := hide hN5
  clear hb1 hbig hs R0 C0 B0 O1 OWN own hN5 hb
  go_wp2_with fail
  refine (delete_any (allL d) A5 c5 (w.heap.size + 1 + 1) (w.heap.size + 1) d.n N5 w.heap.size b most w1 OWN1.out HN5.out C1.out hn (by omega) k1 k2 k3 k4).mono ?_
  rintro e w2 ⟨v, rfl, own2, hb2'⟩
  have O2 := hide own2
  have B2 := hide (B1.out.trans hb2')
  have S2 := hide (show b ≤ w2.heap.size from by have := hb2'.size; have := HN5.out; exact Nat.le_trans hb2 (by have := hb2'.size; omega))
  clear own2 hb2'
  go_wp2
  go_ret
  exact ⟨_, rfl, ⟨b, k1, S2.out, O2.out⟩, B2.out⟩
/-- The number of a choice. -/
def chI (c : Int) (n : Nat) : Nat := ((c.tmod n + n).tmod n).toNat
theorem chI_v {c : Int} {n : Nat} (hn : 0 < n) : -(n : Int) < c.tmod n ∧ c.tmod n < n ∧ (c.tmod n + n).tmod n = (chI c n : Int) ∧ chI c n < n := by
  have h1 : -(n : Int) < c.tmod n := by
    have e := Int.neg_tmod c (n : Int)
    have := Int.tmod_lt_of_pos (-c) (show (0 : Int) < n by omega)
    omega
  have h2 : c.tmod n < n := Int.tmod_lt_of_pos c (by omega)
  have h3 : 0 ≤ (c.tmod n + n).tmod n := Int.tmod_nonneg _ (by omega)
  have h4 : (c.tmod n + n).tmod n < n := Int.tmod_lt_of_pos _ (by omega)
  unfold chI
  omega
def ChPost (L : List Mv) (c : Int) (w : World) (e : Ending) (w' : World) : Prop :=
  (L = [] → e = .returned (.tuple #[nilM, .bool false])) ∧ (∀ z, L[chI c L.length]? = some z → e = .returned (.tuple #[z.v, .bool true])) ∧ Below w.heap.size w w'
theorem ChPost.split {L : List Mv} {c : Int} {w w' : World} {e : Ending} (h : ChPost L c w e w') : (L = [] ∧ e = .returned (.tuple #[.agg #[.int .i64 0, .int .i64 0, .int .i64 0, .int .i64 0, .bool false], .bool false]) ∧ Below w.heap.size w w') ∨ ∃ k x y s o, L[chI c L.length]? = some ⟨k, x, y, s, o⟩ ∧ e = .returned (.tuple #[.agg #[.int .i64 k, .int .i64 x, .int .i64 y, .int .i64 s, .bool o], .bool true]) ∧ Below w.heap.size w w' := by
  rcases Nat.eq_zero_or_pos L.length with h0 | h0
  · have := List.eq_nil_of_length_eq_zero h0
    exact .inl ⟨this, h.1 this, h.2.2⟩
  · obtain ⟨z, hz⟩ : ∃ z, L[chI c L.length]? = some z := ⟨_, List.getElem?_eq_getElem (chI_v h0).2.2.2⟩
    obtain ⟨k, x, y, s, o⟩ := z
    exact .inr ⟨k, x, y, s, o, hz, h.2.1 _ hz, h.2.2⟩
set_option maxRecDepth 100000 in
set_option maxHeartbeats 4000000 in
theorem Choose_any (d : Pl.Dg) (hd : Pl.Valid d) (A B : Option Addr) (cp cq m : Nat) (c most : Int) (w : World) (hm : m = 4 * d.n) (hg : DgAt w A B d) :
    Calls Try.prog 45 #[.agg #[.slice A d.n cp, .slice B m cq, .int .i64 d.lp], .int .i64 c, .int .i64 most] w (ChPost (chL d most) c w) := by
  have HM := hide hm
  have HG := hide hg
  have hn := hd.wf.few
  clear hm hg
  have R0 := hide ((row_at (W := w) (g := w.heap.size) (t := 24) (vs := [.slice A d.n cp, .slice B m cq, .int .i64 (d.lp : Int)]) rfl).alloc (.cells #[.int .i64 0, .int .i64 0, .int .i64 0, .int .i64 0, .bool false] 37))
  have M0 := hide (row_at (W := w.alloc (.cells #[.slice A d.n cp, .slice B m cq, .int .i64 (d.lp : Int)] 24)) (g := w.heap.size + 1) (t := 37) (vs := [.int .i64 0, .int .i64 0, .int .i64 0, .int .i64 0, .bool false]) (by simp))
  have B0 := hide (show Below w.heap.size w ((w.alloc (.cells #[.slice A d.n cp, .slice B m cq, .int .i64 (d.lp : Int)] 24)).alloc (.cells #[.int .i64 0, .int .i64 0, .int .i64 0, .int .i64 0, .bool false] 37)) from ((Below.refl _ _).alloc (Nat.le_refl _) _).alloc (by simp) _)
  go_enter Try.func45, Try.ntmps45
  go_wp2_with fail
  refine (choices_any d hd A B cp cq m most _ HM.out (HG.out.keep B0.out)).mono ?_
  rintro e w1 ⟨v, rfl, hv, hb1⟩
  have M1 := hide (M0.out.below hb1)
  have B1 := hide (B0.out.trans (hb1.mono B0.out.size))
  obtain ⟨A5, c5, rfl, hV⟩ := hv.at.mv
  have lch := chL_le hn most
  obtain ⟨L, hL⟩ : ∃ L, L = chL d most := ⟨_, rfl⟩
  rw [← hL] at hV lch ⊢
  obtain ⟨N5, hN5⟩ : ∃ n, n = L.length := ⟨_, rfl⟩
  rw [← hN5] at hV lch ⊢
  have HL := hide hL
  have HN5 := hide hN5
  have HV := hide hV
  obtain ⟨m0, m1, m2, m3, m4, m5⟩ := box5 M1.out
  clear hV hv hL hN5 hb1 R0 M0 B0
  by_cases h0 : N5 = 0
  · subst h0
    have E := hide (show L = [] from List.eq_nil_of_length_eq_zero HN5.out.symm)
    go_wp2
    refine bodyPost_ret (v := .tuple #[nilM, .bool false]) ?_ rfl ?_
    · obtain ⟨e0, e1, e2, e3, e4, e5⟩ := box5 (row5 M1.out rfl (.int .i64 0) (.int .i64 0) (.int .i64 0) (.int .i64 0) (.bool false))
      unfold nilM
      simp [results, Try.results45, go_sem, e0, e1, e2, e3, e4]
    · rw [← HL.out]
      refine ⟨fun _ => rfl, fun z hz => ?_, ?_⟩
      · rw [E.out] at hz; cases hz
      · exact ((((B1.out.setCell (by show w.heap.size ≤ w.heap.size + 1; omega) _).setCell (by show w.heap.size ≤ w.heap.size + 1; omega) _).setCell (by show w.heap.size ≤ w.heap.size + 1; omega) _).setCell (by show w.heap.size ≤ w.heap.size + 1; omega) _).setCell (by show w.heap.size ≤ w.heap.size + 1; omega) _
  · obtain ⟨i1, i2, i3, i4⟩ := chI_v (c := c) (n := N5) (by omega)
    obtain ⟨r, hr⟩ : ∃ r, r = c.tmod (N5 : Int) := ⟨_, rfl⟩
    rw [← hr] at i1 i2 i3
    obtain ⟨i, hi⟩ : ∃ i, i = chI c N5 := ⟨_, rfl⟩
    rw [← hi] at i3 i4
    have HI := hide hi
    have n0 : (N5 : Int) ≠ 0 := by omega
    have hr2 : c.tmod (N5 : Int) = r := hr.symm
    have k0 : (0 : Int) ≤ (i : Int) := by omega
    have k1 : (i : Int) < (N5 : Int) := by omega
    have k2 : 0 ≤ r + (N5 : Int) := by omega
    have k3 : r + (N5 : Int) ≤ 1000000 := by omega
    obtain ⟨g5, zk, zx, zy, zs, zo, rfl, hgl, hz, c0, c1, c2, c3, c4⟩ := HV.out.at_ i4
    have HZ := hide hz
    have hw1 : w.heap.size + 1 < w1.heap.size := M1.out.lt
    clear hi hr hz h0
    go_wp2
    refine bodyPost_ret (v := .tuple #[.agg #[.int .i64 zk, .int .i64 zx, .int .i64 zy, .int .i64 zs, .bool zo], .bool true]) ?_ rfl ?_
    · obtain ⟨e0, e1, e2, e3, e4, e5⟩ := box5 (row5 M1.out rfl (.int .i64 zk) (.int .i64 zx) (.int .i64 zy) (.int .i64 zs) (.bool zo))
      simp [results, Try.results45, go_sem, e0, e1, e2, e3, e4]
    · rw [← HL.out]
      refine ⟨fun h => ?_, fun z hz => ?_, ?_⟩
      · rw [h] at HZ; cases HZ.out
      · rw [← HN5.out, ← HI.out, HZ.out] at hz
        obtain rfl := Option.some.inj hz
        rfl
      · exact ((((B1.out.setCell (by show w.heap.size ≤ w.heap.size + 1; omega) _).setCell (by show w.heap.size ≤ w.heap.size + 1; omega) _).setCell (by show w.heap.size ≤ w.heap.size + 1; omega) _).setCell (by show w.heap.size ≤ w.heap.size + 1; omega) _).setCell (by show w.heap.size ≤ w.heap.size + 1; omega) _
end Go.Proofs.Ytghdiolnonejaaa
end

section
namespace Go.Proofs.Ytghdiolnonejaaa
open Go Go.RowKit
attribute [local go_sem ↓] Go.wp_at_zero Go.wp_at_succ
theorem cl0 (A : Option Addr) (c : Nat) (w : World) : Calls Try.prog 65 #[.slice A 0 c] w fun e w' => ∃ (A' : Option Addr) (c' : Nat), e = .returned (.slice A' 0 c') ∧ Below w.heap.size w w' := by
  cases A with
  | none =>
    refine (Try.slices_Clone_int_nil 0 c w).mono ?_
    rintro e w' ⟨rfl, rfl⟩
    exact ⟨none, 0, rfl, Below.refl _ _⟩
  | some a =>
    refine (Try.slices_Clone_int_zero a c w).mono ?_
    rintro e w' ⟨v, rfl, own, _, hb⟩
    obtain ⟨A', c', rfl⟩ := owns_slice own
    exact ⟨A', c', rfl, hb⟩
set_option maxRecDepth 100000 in
set_option maxHeartbeats 2000000 in
theorem clone_zero (A B : Option Addr) (cp cq : Nat) (lp : Int) (w : World) :
    Calls Try.prog 37 #[.agg #[.slice A 0 cp, .slice B 0 cq, .int .i64 lp]] w fun e w' => ∃ (A9 B9 : Option Addr) (c8 c9 : Nat), e = .returned (.agg #[.slice A9 0 c8, .slice B9 0 c9, .int .i64 lp]) ∧ Below w.heap.size w w' := by
  have HGS := hide (GS.start w (.slice A 0 cp) (.slice B 0 cq) (.int .i64 lp) (.slice none 0 0) (.slice none 0 0) (.int .i64 0))
  go_enter Try.func37, Try.ntmps37
  go_wp2_with fail
  obtain ⟨V0, hV0⟩ : ∃ V : World, V = (w.alloc (.cells #[.slice A 0 cp, .slice B 0 cq, .int .i64 lp] 24)).alloc (.cells #[.slice none 0 0, .slice none 0 0, .int .i64 0] 24) := ⟨_, rfl⟩
  rw [← hV0] at HGS ⊢
  have hv0 : w.heap.size + 2 ≤ V0.heap.size := by rw [hV0]; simp
  clear hV0
  obtain ⟨c0, c1, c2, c3, c4, c5, c6, _⟩ := HGS.out.all
  go_region_held3 (fun w' => w'.cell? ⟨w.heap.size, 0, none⟩ = some (.slice A 0 cp) ∧ w'.cell? ⟨w.heap.size, 1, none⟩ = some (.slice B 0 cq) ∧ w'.cell? ⟨w.heap.size, 2, none⟩ = some (.int .i64 lp) ∧ w'.cell? ⟨w.heap.size + 1, 0, none⟩ = some (cv w' ⟨w.heap.size + 1, 0, none⟩) ∧ w'.cell? ⟨w.heap.size + 1, 1, none⟩ = some (cv w' ⟨w.heap.size + 1, 1, none⟩) ∧ w'.cell? ⟨w.heap.size + 1, 2, none⟩ = some (cv w' ⟨w.heap.size + 1, 2, none⟩) ∧ (∀ o, w'.frozen? ⟨w.heap.size + 1, o, none⟩ = false) ∧ GS w w.heap.size (.slice A 0 cp) (.slice B 0 cq) (.int .i64 lp) w')
    ((go_split_ands; refine GS.all ?_; (repeat (first | (with_reducible assumption) | (with_reducible exact HGS.out) | (with_reducible refine GS.set ?_ _ _) | (with_reducible refine GS.drew ?_) | (with_reducible refine GS.below ?_ hbb) | (with_reducible refine GS.below ?_ hba)))))
    (first
      | (have hxa := hba
         clear hxa
         go_at_call 65
         refine Calls.mono (cl0 B cq _) ?_
         rintro e wb ⟨Ab, kb, rfl, hbb⟩)
      | (go_at_call 65
         refine Calls.mono (cl0 A cp _) ?_
         rintro e wa ⟨Aa, ka, rfl, hba⟩))
  clear c0 c1 c2 c3 c4 c5 c6
  have G5 := hide ((HGS.out.drew.below hba).below hbb)
  go_wp2
  refine bodyPost_ret (v := .agg #[.slice Aa 0 ka, .slice Ab 0 kb, .int .i64 lp]) ?_ rfl ⟨Aa, Ab, ka, kb, rfl, ?_⟩
  · obtain ⟨e0, e1, e2⟩ := G5.out.fin (.slice Aa 0 ka) (.slice Ab 0 kb) (.int .i64 lp)
    simp [results, Try.results37, go_sem, e0, e1, e2]
  · exact ((G5.out.bel.setCell (by show _ ≤ w.heap.size + 1; omega) _).setCell (by show _ ≤ w.heap.size + 1; omega) _).setCell (by show _ ≤ w.heap.size + 1; omega) _
theorem clone_all (d : Pl.Dg) (A B : Option Addr) (cp cq m : Nat) (w : World) (hm : m = 4 * d.n) (hg : DgAt w A B d) (hn : d.n ≤ 64) :
    Calls Try.prog 37 #[.agg #[.slice A d.n cp, .slice B m cq, .int .i64 d.lp]] w fun e w' => ∃ (A9 B9 : Option Addr) (c8 c9 : Nat), e = .returned (.agg #[.slice A9 d.n c8, .slice B9 m c9, .int .i64 d.lp]) ∧ DgT w' A9 B9 d ∧ Below w.heap.size w w' := by
  rcases Nat.eq_zero_or_pos d.n with h0 | h0
  · have hs := hg.s.len
    have hmm := hg.m.len
    subst hm
    rw [h0] at hs hmm
    have := clone_zero A B cp cq d.lp w
    rw [h0]
    refine this.mono ?_
    rintro e w' ⟨A9, B9, c8, c9, rfl, hb⟩
    exact ⟨A9, B9, c8, c9, rfl, ⟨⟨by rw [h0]; simpa using hs, fun h => by omega⟩, ⟨by rw [h0]; simpa using hmm, fun h => by omega⟩⟩, hb⟩
  · refine (clone_any d A B cp cq m w hm hg ⟨h0, hn⟩).mono ?_
    rintro e w' ⟨g1, c1, g2, c2, rfl, o1, o2, _, hb⟩
    exact ⟨_, _, c1, c2, rfl, ⟨own_intsT o1, by rw [← hm]; exact o2.intsT⟩, hb⟩
end Go.Proofs.Ytghdiolnonejaaa
end

section
namespace Go.Proofs.Ytghdiolnonejaaa
open Go Go.RowKit
attribute [local go_sem ↓] Go.wp_at_zero Go.wp_at_succ
/-- The loop of the example. -/
def lone : Pl.Dg := ⟨[], [], 1⟩
theorem lone_all : allL lone = [⟨1, -1, 0, -1, false⟩, ⟨1, -1, 0, -1, true⟩, ⟨1, -1, 0, 1, false⟩, ⟨1, -1, 0, 1, true⟩] ++ sel lone (pkNX 0 2) := by
  have e : sel lone (cuC 1) = [⟨1, -1, 0, -1, false⟩, ⟨1, -1, 0, -1, true⟩, ⟨1, -1, 0, 1, false⟩, ⟨1, -1, 0, 1, true⟩] := by
    rw [← cu_sel lone 1 (by decide)]
    rfl
  show sel lone (cuC 1) ++ sel lone [] ++ sel lone (pkNX 0 2) ++ sel lone [] ++ [] = _
  rw [e]
  simp [sel_nil]
theorem lone_one : chL lone 1 = [⟨1, -1, 0, -1, false⟩, ⟨1, -1, 0, -1, true⟩, ⟨1, -1, 0, 1, false⟩, ⟨1, -1, 0, 1, true⟩] := by
  unfold chL keepM
  rw [lone_all, List.filter_append, filter_none (p := fun z => !dels lone.n 1 z) (l := sel lone (pkNX 0 2)) (fun z hz => by
    have hk := pkNX_kind (mem_sel.1 hz).1
    unfold dels
    rw [hk]
    rfl)]
  rfl
theorem lone_zero : chL lone 0 = [] := by
  unfold chL keepM
  rw [lone_all, List.filter_append, filter_none (p := fun z => !dels lone.n 0 z) (l := sel lone (pkNX 0 2)) (fun z hz => by
    have hk := pkNX_kind (mem_sel.1 hz).1
    unfold dels
    rw [hk]
    rfl)]
  rfl
theorem lone_valid : Pl.Valid lone := valid_empty (by decide)
set_option maxRecDepth 100000 in
set_option maxHeartbeats 4000000 in
theorem awake11 (w : World) : Calls Try.prog 19 #[] w fun e w' => e = .returned (.bool true) ∧ Below w.heap.size w w' := by
  have R0 := hide (row_at (W := w) (g := w.heap.size) (t := 24) (vs := [.slice none 0 0, .slice none 0 0, .int .i64 1]) rfl)
  have B0 := hide (show Below w.heap.size w (w.alloc (.cells #[.slice none 0 0, .slice none 0 0, .int .i64 1] 24)) from (Below.refl _ _).alloc (Nat.le_refl _) _)
  go_enter Try.func19, Try.ntmps19
  go_wp2_with fail
  refine (Choose_any lone lone_valid none none 0 0 0 5 1 _ rfl (none_at _ 1)).mono ?_
  intro e w1 h1
  rw [lone_one] at h1
  have e1 := h1.2.1 ⟨1, -1, 0, -1, true⟩ rfl
  unfold Mv.v at e1
  subst e1
  have R1 := hide (R0.out.below h1.2.2)
  have B1 := hide (B0.out.trans (h1.2.2.mono B0.out.size))
  clear h1 R0 B0
  obtain ⟨d0, d1, d2, d3⟩ := box3 R1.out
  have M1 := hide (row_at (W := w1) (g := w1.heap.size) (t := 37) (vs := [.int .i64 1, .int .i64 (-1), .int .i64 0, .int .i64 (-1), .bool true]) rfl)
  have R2 := hide (R1.out.alloc (.cells #[.int .i64 1, .int .i64 (-1), .int .i64 0, .int .i64 (-1), .bool true] 37))
  have B2 := hide (B1.out.alloc B1.out.size (.cells #[.int .i64 1, .int .i64 (-1), .int .i64 0, .int .i64 (-1), .bool true] 37))
  have hw1 : w.heap.size < w1.heap.size := R1.out.lt
  go_wp2_with fail
  refine (Choose_any lone lone_valid none none 0 0 0 5 0 _ rfl (none_at _ 1)).mono ?_
  intro e w3 h3
  rw [lone_zero] at h3
  have e3 := h3.1 rfl
  unfold nilM at e3
  subst e3
  have M3 := hide (M1.out.below h3.2.2)
  have B3 := hide (B2.out.trans (h3.2.2.mono B2.out.size))
  have hw3 : w1.heap.size < w3.heap.size := M3.out.lt
  clear h3 R1 R2 B1 B2 M1 d0 d1 d2 d3
  obtain ⟨m0, m1, m2, m3, m4, m5⟩ := box5 M3.out
  go_wp2
  go_ret
  exact ⟨rfl, B3.out.alloc B3.out.size _⟩
/-- great. -/
def grt (n q : Nat) (lp : Int) : Bool := decide (4 < n) || decide (20 < q) || (decide (4 < lp) && decide (lp ≤ 64))
set_option maxRecDepth 100000 in
set_option maxHeartbeats 4000000 in
theorem great_any (A B : Option Addr) (n q cp cq : Nat) (lp : Int) (w : World) : Calls Try.prog 20 #[.agg #[.slice A n cp, .slice B q cq, .int .i64 lp]] w fun e w' => e = .returned (.bool (grt n q lp)) ∧ Below w.heap.size w w' := by
  have B0 := hide (show Below w.heap.size w (w.alloc (.cells #[.slice A n cp, .slice B q cq, .int .i64 lp] 24)) from (Below.refl _ _).alloc (Nat.le_refl _) _)
  by_cases h1 : (4 : Int) < (n : Int)
  · have E := hide (show grt n q lp = true by unfold grt; rw [decide_eq_true (show 4 < n by omega)]; rfl)
    go_enter Try.func20, Try.ntmps20
    go_wp2
    go_ret
    exact ⟨by rw [E.out]; rfl, B0.out⟩
  · by_cases h2 : (20 : Int) < (q : Int)
    · have E := hide (show grt n q lp = true by unfold grt; rw [decide_eq_false (show ¬ 4 < n by omega), decide_eq_true (show 20 < q by omega)]; rfl)
      go_enter Try.func20, Try.ntmps20
      go_wp2
      go_ret
      exact ⟨by rw [E.out]; rfl, B0.out⟩
    · by_cases h3 : 4 < lp
      · by_cases h4 : lp ≤ 64
        · have E := hide (show grt n q lp = true by unfold grt; rw [decide_eq_false (show ¬ 4 < n by omega), decide_eq_false (show ¬ 20 < q by omega), decide_eq_true h3, decide_eq_true h4]; rfl)
          go_enter Try.func20, Try.ntmps20
          go_wp2
          go_ret
          exact ⟨by rw [E.out]; rfl, B0.out⟩
        · have E := hide (show grt n q lp = false by unfold grt; rw [decide_eq_false (show ¬ 4 < n by omega), decide_eq_false (show ¬ 20 < q by omega), decide_eq_true h3, decide_eq_false h4]; rfl)
          go_enter Try.func20, Try.ntmps20
          go_wp2
          go_ret
          exact ⟨by rw [E.out]; rfl, B0.out⟩
      · have E := hide (show grt n q lp = false by unfold grt; rw [decide_eq_false (show ¬ 4 < n by omega), decide_eq_false (show ¬ 20 < q by omega), decide_eq_false h3]; rfl)
        go_enter Try.func20, Try.ntmps20
        go_wp2
        go_ret
        exact ⟨by rw [E.out]; rfl, B0.out⟩
end Go.Proofs.Ytghdiolnonejaaa
end

section
namespace Go.Proofs.Ytghdiolnonejaaa
open Go Go.RowKit
attribute [local go_sem ↓] Go.wp_at_zero Go.wp_at_succ
theorem row3 {W : World} {g : Nat} {t : TypeId} {vs : List Value} (h : Row W g t vs) (l : vs.length = 3) (y0 y1 y2 : Value) :
    Row (((W.setCell ⟨g, 0, none⟩ y0).setCell ⟨g, 1, none⟩ y1).setCell ⟨g, 2, none⟩ y2) g t [y0, y1, y2] := by
  obtain ⟨a, b, c, rfl⟩ : ∃ a b c, vs = [a, b, c] := by
    match vs, l with
    | [a, b, c], _ => exact ⟨a, b, c, rfl⟩
  exact ((h.set 0 y0).set 1 y1).set 2 y2
def set3 (W : World) (g : Nat) (y0 y1 y2 : Value) : World := ((W.setCell ⟨g, 0, none⟩ y0).setCell ⟨g, 1, none⟩ y1).setCell ⟨g, 2, none⟩ y2
theorem DgT.set3 {W : World} {A B : Option Addr} {d : Pl.Dg} {g : Nat} {vs : List Value} (h : DgT W A B d) (hr : Row W g 24 vs) (y0 y1 y2 : Value) : DgT (((W.setCell ⟨g, 0, none⟩ y0).setCell ⟨g, 1, none⟩ y1).setCell ⟨g, 2, none⟩ y2) A B d :=
  ((h.store hr (by decide) y0).store (hr.set 0 y0) (by decide) y1).store ((hr.set 0 y0).set 1 y1) (by decide) y2
theorem below3 {w W : World} {g : Nat} (h : Below w.heap.size w W) (hg : w.heap.size ≤ g) (y0 y1 y2 : Value) : Below w.heap.size w (((W.setCell ⟨g, 0, none⟩ y0).setCell ⟨g, 1, none⟩ y1).setCell ⟨g, 2, none⟩ y2) :=
  ((h.setCell (by show _ ≤ g; exact hg) y0).setCell (by show _ ≤ g; exact hg) y1).setCell (by show _ ≤ g; exact hg) y2
end Go.Proofs.Ytghdiolnonejaaa
end
