/-
  Walks: the law on the lists of moves (MovesListed). (Printed by wip/mw/gen/listed.py.)
-/
import Derived.Test.YtobbepmlmbbamaaXx
import Derived.Test.YtobbepmlmbbamaaXw
import Derived.Deep.DeepCutAuto
set_option linter.unusedVariables false
set_option linter.unusedSimpArgs false
namespace Go.Proofs.Ytobbepmlmbbamaa
open Go Go.RowKit
attribute [local go_sem ↓] Go.wp_at_zero Go.wp_at_succ

/-- Two growing lists of moves of the call's own. -/
structure LS (w : World) (vR vS : Value) (rs ss : List Mv) (W : World) : Prop where
  r : W.ownsRow w.heap.size 28 5 vR rs.length (mvs rs)
  s : W.ownsRow w.heap.size 28 5 vS ss.length (mvs ss)
  ne : ∀ g, vR.ownBlock = some g → vS.ownBlock = some g → False
  bel : Below w.heap.size w W
section
variable {w W W' W2 : World} {vR vS : Value} {rs ss : List Mv} {m : Mv} {g n c : Nat}
theorem LS.below (h : LS w vR vS rs ss W) (hb : Below W.heap.size W W') : LS w vR vS rs ss W' := ⟨own_below h.r hb, own_below h.s hb, h.ne, h.bel.trans (hb.mono h.bel.size)⟩
theorem LS.alloc (h : LS w vR vS rs ss W) (o : Obj) : LS w vR vS rs ss (W.alloc o) := h.below ((Below.refl _ _).alloc (Nat.le_refl _) o)
theorem LS.drewN (h : LS w vR vS rs ss W) (n : Nat) : LS w vR vS rs ss (W.drewN n) := ⟨h.r, h.s, h.ne, below_drewN h.bel n⟩
theorem apart {v u : Value} (ne : ∀ g, v.ownBlock = some g → u.ownBlock = some g → False) : u.ownBlock = none ∨ u.ownBlock ≠ v.ownBlock := by
  cases hu : u.ownBlock with
  | none => exact .inl rfl
  | some g => exact .inr (fun e => ne g e.symm hu)
theorem LS.pushR (h : LS w vR vS rs ss W) (own : W2.ownsRow w.heap.size 28 5 (.slice (some ⟨g, 0, none⟩) n c) (rs.length + 1) (mvs rs ++ m.cells)) (gr : W.grownBy W2 vR.ownBlock) (hat : vR.ownBlock = some g ∨ g = W.heap.size) : LS w (.slice (some ⟨g, 0, none⟩) n c) vS (rs ++ [m]) ss W2 := by
  refine ⟨by rw [mvs_app, List.length_append]; exact own, h.s.kept gr (apart h.ne), fun k hk hs => ?_, h.bel.grown gr h.bel.size (fun k hk => (h.r.lt k hk).1)⟩
  have hk : g = k := by simpa [Value.ownBlock] using hk
  subst hk
  rcases hat with h1 | h1
  · exact h.ne g h1 hs
  · have := (h.s.lt g hs).2
    omega
theorem LS.pushS (h : LS w vR vS rs ss W) (own : W2.ownsRow w.heap.size 28 5 (.slice (some ⟨g, 0, none⟩) n c) (ss.length + 1) (mvs ss ++ m.cells)) (gr : W.grownBy W2 vS.ownBlock) (hat : vS.ownBlock = some g ∨ g = W.heap.size) : LS w vR (.slice (some ⟨g, 0, none⟩) n c) rs (ss ++ [m]) W2 := by
  refine ⟨h.r.kept gr (apart fun k a b => h.ne k b a), by rw [mvs_app, List.length_append]; exact own, fun k hr hk => ?_, h.bel.grown gr h.bel.size (fun k hk => (h.s.lt k hk).1)⟩
  have hk : g = k := by simpa [Value.ownBlock] using hk
  subst hk
  rcases hat with h1 | h1
  · exact h.ne g hr h1
  · have := (h.r.lt g hr).2
    omega
end
/-- Is the move among the first q? -/
def fnd (L : List Mv) (z : Mv) (q : Nat) : Bool := (L.take q).any (fun y => eqM y z)
theorem fnd_s {L : List Mv} {z y : Mv} {q : Nat} (h : L[q]? = some y) : fnd L z (q + 1) = (fnd L z q || eqM y z) := by
  unfold fnd
  obtain ⟨hq, e⟩ := List.getElem?_eq_some_iff.1 h
  rw [List.take_succ_eq_append_getElem hq, List.any_append, e]
  simp
theorem fnd_all {L : List Mv} {z : Mv} : fnd L z L.length = true ↔ z ∈ L := by
  unfold fnd
  rw [List.take_length, List.any_eq_true]
  constructor
  · rintro ⟨y, h, e⟩; rw [eqM_iff] at e; exact e ▸ h
  · intro h; exact ⟨z, h, eqM_iff.2 rfl⟩
theorem filt_s {L : List Mv} {y : Mv} {q : Nat} (p : Mv → Bool) (h : L[q]? = some y) : (L.take (q + 1)).filter p = (L.take q).filter p ++ if p y then [y] else [] := by
  obtain ⟨hq, e⟩ := List.getElem?_eq_some_iff.1 h
  rw [List.take_succ_eq_append_getElem hq, List.filter_append, e]
  simp [List.filter_cons]
theorem filt_len {L : List Mv} (p : Mv → Bool) (q : Nat) : ((L.take q).filter p).length ≤ L.length := by
  have a := List.length_filter_le p (L.take q)
  have b : (L.take q).length ≤ L.length := by rw [List.length_take]; omega
  omega
theorem pkN_len (x y : Int) : ∀ k, (pkN x y k).length ≤ 2 * k
  | 0 => Nat.le_refl _
  | k + 1 => by
    have a := pkN_len x y k
    show (pkN x y k ++ [_, _]).length ≤ _
    rw [List.length_append]
    simp only [List.length_cons, List.length_nil]
    omega
theorem pkNY_len (x : Int) : ∀ k, (pkNY x k).length ≤ 6 * k
  | 0 => Nat.le_refl _
  | k + 1 => by
    have a := pkNY_len x k
    have b := pkN_len x ((k : Int) - 2) 3
    show (pkNY x k ++ pkN x ((k : Int) - 2) 3).length ≤ _
    rw [List.length_append]
    omega
theorem pkNX_len {n : Nat} (hn : n ≤ 64) : ∀ k, (pkNX n k).length ≤ 1548 * k
  | 0 => Nat.le_refl _
  | k + 1 => by
    have a := pkNX_len hn k
    have b := pkNY_len ((k : Int) - 2) (4 * n + 2)
    show (pkNX n k ++ pkNY ((k : Int) - 2) (4 * n + 2)).length ≤ _
    rw [List.length_append]
    omega
theorem allL_le {d : Pl.Dg} (hn : d.n ≤ 64) : (allL d).length ≤ 500000 := by
  have a := cu_le (d := d) hn
  have b := un_le (d := d) hn
  have c := sel_len d (pkNX d.n (4 * d.n + 2))
  have c2 := pkNX_len hn (4 * d.n + 2)
  have e := up_le (d := d) hn
  have f := slL_len d (4 * d.n)
  unfold allL
  simp only [List.length_append]
  omega
theorem eqM_false {a b : Mv} (h : a ≠ b) : eqM a b = false := by
  cases he : eqM a b with
  | false => rfl
  | true => exact absurd (eqM_iff.1 he) h
theorem remL_le {d : Pl.Dg} (hn : d.n ≤ 64) : (remL d).length ≤ 5000 := by
  have b := un_le (d := d) hn
  have e := up_le (d := d) hn
  unfold remL
  rw [List.length_append]
  omega
set_option maxRecDepth 100000 in
set_option maxHeartbeats 16000000 in
theorem listed_valid (d : Pl.Dg) (hd : Pl.Valid d) (A B : Option Addr) (cp cq m : Nat) (k x y s : Int) (o : Bool) (w : World) (hm : m = 4 * d.n) (hg : DgAt w A B d) :
    Calls Try.prog 10 #[.agg #[.slice A d.n cp, .slice B m cq, .int .i64 d.lp], (Mv.mk k x y s o).v] w fun e w' => e = .returned (.bool true) ∧ Below w.heap.size w w' := by
  have hn := hd.wf.few
  have HM := hide hm
  have HG := hide hg
  clear hm hg
  have X0 := hide (show Row ((w.alloc (.cells #[.slice A d.n cp, .slice B m cq, .int .i64 d.lp] 24)).alloc (.cells #[.int .i64 k, .int .i64 x, .int .i64 y, .int .i64 s, .bool o] 28)) w.heap.size 24 [.slice A d.n cp, .slice B m cq, .int .i64 d.lp] from (row_at (vs := [_, _, _]) rfl).alloc _)
  have X1 := hide (show Row ((w.alloc (.cells #[.slice A d.n cp, .slice B m cq, .int .i64 d.lp] 24)).alloc (.cells #[.int .i64 k, .int .i64 x, .int .i64 y, .int .i64 s, .bool o] 28)) (w.heap.size + 1) 28 [.int .i64 k, .int .i64 x, .int .i64 y, .int .i64 s, .bool o] from row_at (vs := [_, _, _, _, _]) (by simp))
  have B0 := hide (show Below w.heap.size w ((w.alloc (.cells #[.slice A d.n cp, .slice B m cq, .int .i64 d.lp] 24)).alloc (.cells #[.int .i64 k, .int .i64 x, .int .i64 y, .int .i64 s, .bool o] 28)) from ((Below.refl _ _).alloc (Nat.le_refl _) _).alloc (by simp) _)
  unfold Mv.v
  go_enter Try.func10, Try.ntmps10
  go_wp2_with fail
  refine (awake_true _).mono ?_
  rintro e w1 ⟨rfl, hb1⟩
  have Y0 := hide (X0.out.below hb1)
  have Y1 := hide (X1.out.below hb1)
  have B1 := hide (B0.out.trans (hb1.mono B0.out.size))
  clear X0 X1 B0 hb1
  obtain ⟨d0, d1, d2, d3⟩ := box3 Y0.out
  go_wp2_with fail
  refine (small_any A B d.n m cp cq (.int .i64 d.lp) w1).mono ?_
  rintro e w2 ⟨he, hb2⟩
  have Z0 := hide (Y0.out.below hb2)
  have Z1 := hide (Y1.out.below hb2)
  have B2 := hide (B1.out.trans (hb2.mono B1.out.size))
  clear Y0 Y1 B1 hb2 d0 d1 d2 d3
  obtain ⟨d0, d1, d2, d3⟩ := box3 Z0.out
  rcases he with rfl | rfl
  · go_wp2
    go_ret
    exact ⟨rfl, B2.out⟩
  · by_cases h7 : (7 : Int) < (d.n : Int)
    · go_wp2
      go_ret
      exact ⟨rfl, B2.out⟩
    · go_wp2_with fail
      refine (valid_yes d hd A B cp cq m _ HM.out (HG.out.keep B2.out)).mono ?_
      rintro e w3 ⟨rfl, hb3⟩
      have U0 := hide (Z0.out.below hb3)
      have U1 := hide (Z1.out.below hb3)
      have B3 := hide (B2.out.trans (hb3.mono B2.out.size))
      clear Z0 Z1 B2 hb3 d0 d1 d2 d3
      obtain ⟨d0, d1, d2, d3⟩ := box3 U0.out
      go_wp2_with fail
      refine (All_any d hd A B cp cq m _ HM.out (HG.out.keep B3.out)).mono ?_
      rintro e w0 ⟨v, rfl, hv, hb4⟩
      have V0 := hide (U0.out.below hb4)
      have V1 := hide (U1.out.below hb4)
      have B4 := hide (B3.out.trans (hb4.mono B3.out.size))
      clear U0 U1 B3 hb4 d0 d1 d2 d3
      obtain ⟨A5, c5, rfl, hV⟩ := hv.at.mv
      obtain ⟨N5, hN5⟩ : ∃ n, n = (allL d).length := ⟨_, rfl⟩
      have hlen := allL_le (d := d) hn
      have hlenL := allL_le (d := d) hn
      rw [← hN5] at hV hlen ⊢
      have HN5 := hide hN5
      have HV := hide hV
      clear hV hv hN5
      go_wp2
      go_loopg [6, 7, 8, 9] N5 (fun g s6 s7 s8 s9 wx => ∃ (q : Nat) (vR vS : Value), q + g = N5 ∧ s9 = .int .i64 (q : Int) ∧ s6 = .bool (fnd (allL d) ⟨k, x, y, s, o⟩ q) ∧ vR = s7 ∧ vS = s8 ∧ LS w0 vR vS (((allL d).take q).filter kRem) (((allL d).take q).filter kSl) wx)
      case atStart => exact ⟨0, .slice none 0 0, .slice none 0 0, by omega, rfl, by simp [fnd], rfl, rfl, ⟨by simp [mvs], .inl ⟨rfl, rfl⟩⟩, ⟨by simp [mvs], .inl ⟨rfl, rfl⟩⟩, (fun g h => by cases h), Below.refl _ _⟩
      case round =>
        obtain ⟨q, vR, vS, hkg, rfl, rfl, rfl, rfl, hl⟩ := hrel
        have LW0 := hide hl
        have HKG := hide hkg
        clear hl
        by_cases hq : q < N5
        · have hqi : (q : Int) < (N5 : Int) := by omega
          have q0 : (0 : Int) ≤ (q : Int) := by omega
          obtain ⟨g5, zk, zx, zy, zs, zo, rfl, hgl, hz, c0, c1, c2, c3, c4⟩ := (HV.out.keep LW0.out.bel).at_ hq
          have HZ := hide hz
          have SEEN := hide (fnd_s (z := ⟨k, x, y, s, o⟩) hz)
          obtain ⟨m0, m1, m2, m3, m4, m5⟩ := box5 (V1.out.below LW0.out.bel)
          have M10 := hide (V1.out.below LW0.out.bel)
          clear hz hkg
          go_upto_region 11 with fail
          go_cut [6] (fun s6 wx => s6 = .bool (fnd (allL d) ⟨k, x, y, s, o⟩ (q + 1)) ∧ ∃ n, wx = wr.drewN n)
          case first =>
            obtain ⟨fb, hfb⟩ : ∃ b, b = fnd (allL d) ⟨k, x, y, s, o⟩ q := ⟨_, rfl⟩
            have S2 := hide (show fnd (allL d) ⟨k, x, y, s, o⟩ (q + 1) = (fb || eqM ⟨zk, zx, zy, zs, zo⟩ ⟨k, x, y, s, o⟩) by rw [hfb]; exact SEEN.out)
            rw [← hfb]
            clear hfb SEEN LW0 HV V0 V1
            cases fb with
            | true =>
              go_quiet (fail)
              go_wp2_with fail
              go_meet
              exact ⟨by rw [S2.out]; rfl, _, rfl⟩
            | false =>
              by_cases e1 : zk = k
              · subst e1
                by_cases e2 : zx = x
                · subst e2
                  by_cases e3 : zy = y
                  · subst e3
                    by_cases e4 : zs = s
                    · subst e4
                      by_cases e5 : zo = o
                      · subst e5
                        have EQ := hide (show eqM ⟨zk, zx, zy, zs, zo⟩ ⟨zk, zx, zy, zs, zo⟩ = true from eqM_iff.2 rfl)
                        go_quiet (fail)
                        go_wp2_with fail
                        go_meet
                        exact ⟨by rw [S2.out, EQ.out]; rfl, _, rfl⟩
                      · have EQ := hide (show eqM ⟨zk, zx, zy, zs, zo⟩ ⟨zk, zx, zy, zs, o⟩ = false from eqM_false (fun h => e5 (by injection h)))
                        go_quiet (fail)
                        go_wp2_with fail
                        go_meet
                        exact ⟨by rw [S2.out, EQ.out]; rfl, _, rfl⟩
                    · have EQ := hide (show eqM ⟨zk, zx, zy, zs, zo⟩ ⟨zk, zx, zy, s, o⟩ = false from eqM_false (fun h => e4 (by injection h)))
                      go_quiet (fail)
                      go_wp2_with fail
                      go_meet
                      exact ⟨by rw [S2.out, EQ.out]; rfl, _, rfl⟩
                  · have EQ := hide (show eqM ⟨zk, zx, zy, zs, zo⟩ ⟨zk, zx, y, s, o⟩ = false from eqM_false (fun h => e3 (by injection h)))
                    go_quiet (fail)
                    go_wp2_with fail
                    go_meet
                    exact ⟨by rw [S2.out, EQ.out]; rfl, _, rfl⟩
                · have EQ := hide (show eqM ⟨zk, zx, zy, zs, zo⟩ ⟨zk, x, y, s, o⟩ = false from eqM_false (fun h => e2 (by injection h)))
                  go_quiet (fail)
                  go_wp2_with fail
                  go_meet
                  exact ⟨by rw [S2.out, EQ.out]; rfl, _, rfl⟩
              · have EQ := hide (show eqM ⟨zk, zx, zy, zs, zo⟩ ⟨k, x, y, s, o⟩ = false from eqM_false (fun h => e1 (by injection h)))
                go_quiet (fail)
                go_wp2_with fail
                go_meet
                exact ⟨by rw [S2.out, EQ.out]; rfl, _, rfl⟩
          case rest =>
            obtain ⟨rfl, nn, rfl⟩ := hcut
            obtain ⟨W, hW⟩ : ∃ W, W = wr.drewN nn := ⟨_, rfl⟩
            have LW := hide (show LS w0 vR vS (((allL d).take q).filter kRem) (((allL d).take q).filter kSl) W by rw [hW]; exact LW0.out.drewN nn)
            have f0 : W.cell? ⟨g5, q * 5, none⟩ = some (.int .i64 zk) := by rw [hW]; exact c0
            have f1 : W.cell? ⟨g5, q * 5 + 1, none⟩ = some (.int .i64 zx) := by rw [hW]; exact c1
            have f2 : W.cell? ⟨g5, q * 5 + 2, none⟩ = some (.int .i64 zy) := by rw [hW]; exact c2
            have f3 : W.cell? ⟨g5, q * 5 + 3, none⟩ = some (.int .i64 zs) := by rw [hW]; exact c3
            have f4 : W.cell? ⟨g5, q * 5 + 4, none⟩ = some (.bool zo) := by rw [hW]; exact c4
            have hglW : g5 < W.heap.size := by rw [hW]; exact hgl
            rw [← hW]
            obtain ⟨fb, hfb⟩ : ∃ b, b = fnd (allL d) ⟨k, x, y, s, o⟩ (q + 1) := ⟨_, rfl⟩
            rw [← hfb]
            have FS := hide hfb.symm
            clear hW hfb LW0 c0 c1 c2 c3 c4 m0 m1 m2 m3 m4 m5 SEEN hgl M10
            by_cases k2 : zk = 2
            · subst k2
              have FR := hide (show ((allL d).take (q + 1)).filter kRem = ((allL d).take q).filter kRem ++ [⟨2, zx, zy, zs, zo⟩] by rw [filt_s kRem HZ.out]; rfl)
              have FL := hide (show ((allL d).take (q + 1)).filter kSl = ((allL d).take q).filter kSl ++ [] by rw [filt_s kSl HZ.out]; rfl)
              obtain ⟨n0, hn0, hz0, hz1, hz2⟩ := info_parts moveInfo
              have A0 := hide (LW.out.alloc (.cells (Mv.cells ⟨2, zx, zy, zs, zo⟩).toArray 28)).r
              have A1 : ∀ u ∈ Mv.cells ⟨2, zx, zy, zs, zo⟩, u.oneCell' = true := by simp [Mv.cells, Value.oneCell']
              have A2 : (((allL d).take q).filter kRem).length + 1 ≤ maxLen := by have := filt_len (L := allL d) kRem q; unfold maxLen; omega
              have A3 : ((((allL d).take q).filter kRem).length + 1) * 40 ≤ 140737488355328 := by have := filt_len (L := allL d) kRem q; omega
              have A4 : w0.heap.size ≤ (W.alloc (.cells (Mv.cells ⟨2, zx, zy, zs, zo⟩).toArray 28)).heap.size := (LW.out.alloc _).bel.size
              have A6 := hide (five_news W W.heap.size rfl ⟨2, zx, zy, zs, zo⟩)
              go_wp2_with (at_builtin; refine wpList_append_lies _ (by rfl) _ _ 31 (by rfl) w0.heap.size 28 n0 (.agg #[.int .i64 0, .int .i64 0, .int .i64 0, .int .i64 0, .bool false]) 5 40 Try.underlying31 hn0 hz0 hz1 hz2 rfl (by omega) vR (((allL d).take q).filter kRem).length (mvs (((allL d).take q).filter kRem)) (by rfl) A0.out ⟨W.heap.size, 0, none⟩ 1 1 (Mv.cells ⟨2, zx, zy, zs, zo⟩) (by rfl) (by rfl) A6.out A1 (by omega) A2 A3 A4 (W.heap.size + 1) (by simp) ?_; intro g2 c2 w2 own2 grow2 at2 lt2; have LW2 := hide ((LW.out.alloc (.cells (Mv.cells ⟨2, zx, zy, zs, zo⟩).toArray 28)).pushR (m := ⟨2, zx, zy, zs, zo⟩) own2 grow2 (by simpa using at2)); clear own2 grow2 at2)
              go_roundg (gk - 1)
              case measure => have := HKG.out; omega
              case rel => exact ⟨q + 1, (.slice (some ⟨g2, 0, none⟩) ((((allL d).take q).filter kRem).length + 1) c2), vS, by have := HKG.out; omega, by go_num, by rw [FS.out], rfl, rfl, by rw [FR.out, FL.out]; simpa using LW2.out⟩
            · by_cases k4 : zk = 4
              · subst k4
                have FR := hide (show ((allL d).take (q + 1)).filter kRem = ((allL d).take q).filter kRem ++ [⟨4, zx, zy, zs, zo⟩] by rw [filt_s kRem HZ.out]; rfl)
                have FL := hide (show ((allL d).take (q + 1)).filter kSl = ((allL d).take q).filter kSl ++ [] by rw [filt_s kSl HZ.out]; rfl)
                clear k2
                obtain ⟨n0, hn0, hz0, hz1, hz2⟩ := info_parts moveInfo
                have A0 := hide (LW.out.alloc (.cells (Mv.cells ⟨4, zx, zy, zs, zo⟩).toArray 28)).r
                have A1 : ∀ u ∈ Mv.cells ⟨4, zx, zy, zs, zo⟩, u.oneCell' = true := by simp [Mv.cells, Value.oneCell']
                have A2 : (((allL d).take q).filter kRem).length + 1 ≤ maxLen := by have := filt_len (L := allL d) kRem q; unfold maxLen; omega
                have A3 : ((((allL d).take q).filter kRem).length + 1) * 40 ≤ 140737488355328 := by have := filt_len (L := allL d) kRem q; omega
                have A4 : w0.heap.size ≤ (W.alloc (.cells (Mv.cells ⟨4, zx, zy, zs, zo⟩).toArray 28)).heap.size := (LW.out.alloc _).bel.size
                have A6 := hide (five_news W W.heap.size rfl ⟨4, zx, zy, zs, zo⟩)
                go_wp2_with (at_builtin; refine wpList_append_lies _ (by rfl) _ _ 31 (by rfl) w0.heap.size 28 n0 (.agg #[.int .i64 0, .int .i64 0, .int .i64 0, .int .i64 0, .bool false]) 5 40 Try.underlying31 hn0 hz0 hz1 hz2 rfl (by omega) vR (((allL d).take q).filter kRem).length (mvs (((allL d).take q).filter kRem)) (by rfl) A0.out ⟨W.heap.size, 0, none⟩ 1 1 (Mv.cells ⟨4, zx, zy, zs, zo⟩) (by rfl) (by rfl) A6.out A1 (by omega) A2 A3 A4 (W.heap.size + 1) (by simp) ?_; intro g2 c2 w2 own2 grow2 at2 lt2; have LW2 := hide ((LW.out.alloc (.cells (Mv.cells ⟨4, zx, zy, zs, zo⟩).toArray 28)).pushR (m := ⟨4, zx, zy, zs, zo⟩) own2 grow2 (by simpa using at2)); clear own2 grow2 at2)
                go_roundg (gk - 1)
                case measure => have := HKG.out; omega
                case rel => exact ⟨q + 1, (.slice (some ⟨g2, 0, none⟩) ((((allL d).take q).filter kRem).length + 1) c2), vS, by have := HKG.out; omega, by go_num, by rw [FS.out], rfl, rfl, by rw [FR.out, FL.out]; simpa using LW2.out⟩
              · by_cases k5 : zk = 5
                · subst k5
                  have FR := hide (show ((allL d).take (q + 1)).filter kRem = ((allL d).take q).filter kRem ++ [] by rw [filt_s kRem HZ.out]; rfl)
                  have FL := hide (show ((allL d).take (q + 1)).filter kSl = ((allL d).take q).filter kSl ++ [⟨5, zx, zy, zs, zo⟩] by rw [filt_s kSl HZ.out]; rfl)
                  clear k2 k4
                  obtain ⟨n0, hn0, hz0, hz1, hz2⟩ := info_parts moveInfo
                  have A0 := hide (LW.out.alloc (.cells (Mv.cells ⟨5, zx, zy, zs, zo⟩).toArray 28)).s
                  have A1 : ∀ u ∈ Mv.cells ⟨5, zx, zy, zs, zo⟩, u.oneCell' = true := by simp [Mv.cells, Value.oneCell']
                  have A2 : (((allL d).take q).filter kSl).length + 1 ≤ maxLen := by have := filt_len (L := allL d) kSl q; unfold maxLen; omega
                  have A3 : ((((allL d).take q).filter kSl).length + 1) * 40 ≤ 140737488355328 := by have := filt_len (L := allL d) kSl q; omega
                  have A4 : w0.heap.size ≤ (W.alloc (.cells (Mv.cells ⟨5, zx, zy, zs, zo⟩).toArray 28)).heap.size := (LW.out.alloc _).bel.size
                  have A6 := hide (five_news W W.heap.size rfl ⟨5, zx, zy, zs, zo⟩)
                  go_wp2_with (at_builtin; refine wpList_append_lies _ (by rfl) _ _ 31 (by rfl) w0.heap.size 28 n0 (.agg #[.int .i64 0, .int .i64 0, .int .i64 0, .int .i64 0, .bool false]) 5 40 Try.underlying31 hn0 hz0 hz1 hz2 rfl (by omega) vS (((allL d).take q).filter kSl).length (mvs (((allL d).take q).filter kSl)) (by rfl) A0.out ⟨W.heap.size, 0, none⟩ 1 1 (Mv.cells ⟨5, zx, zy, zs, zo⟩) (by rfl) (by rfl) A6.out A1 (by omega) A2 A3 A4 (W.heap.size + 1) (by simp) ?_; intro g2 c2 w2 own2 grow2 at2 lt2; have LW2 := hide ((LW.out.alloc (.cells (Mv.cells ⟨5, zx, zy, zs, zo⟩).toArray 28)).pushS (m := ⟨5, zx, zy, zs, zo⟩) own2 grow2 (by simpa using at2)); clear own2 grow2 at2)
                  go_roundg (gk - 1)
                  case measure => have := HKG.out; omega
                  case rel => exact ⟨q + 1, vR, (.slice (some ⟨g2, 0, none⟩) ((((allL d).take q).filter kSl).length + 1) c2), by have := HKG.out; omega, by go_num, by rw [FS.out], rfl, rfl, by rw [FR.out, FL.out]; simpa using LW2.out⟩
                · have t2 : (zk == 2) = false := by rw [beq_eq_false_iff_ne]; exact k2
                  have t4 : (zk == 4) = false := by rw [beq_eq_false_iff_ne]; exact k4
                  have t5 : (zk == 5) = false := by rw [beq_eq_false_iff_ne]; exact k5
                  have FR := hide (show ((allL d).take (q + 1)).filter kRem = ((allL d).take q).filter kRem ++ [] by
                    rw [filt_s kRem HZ.out, show kRem ⟨zk, zx, zy, zs, zo⟩ = false by unfold kRem; simp only [t2, t4]; rfl]; rfl)
                  have FL := hide (show ((allL d).take (q + 1)).filter kSl = ((allL d).take q).filter kSl ++ [] by
                    rw [filt_s kSl HZ.out, show kSl ⟨zk, zx, zy, zs, zo⟩ = false by unfold kSl; exact t5]; rfl)
                  clear k2 k4 k5
                  go_wp2
                  go_roundg (gk - 1)
                  case measure => have := HKG.out; omega
                  case rel => exact ⟨q + 1, vR, vS, by have := HKG.out; omega, by go_num, by rw [FS.out], rfl, rfl, by rw [FR.out, FL.out, List.append_nil, List.append_nil]; exact LW.out⟩
        · have hqi : ¬ ((q : Int) < (N5 : Int)) := by omega
          have e : q = (allL d).length := by rw [← HN5.out]; omega
          have L5 := hide (show LS w0 vR vS (remL d) (slL d (4 * d.n)) wr by
            have h := LW0.out
            rw [e, List.take_length, all_rem, all_sl] at h
            exact h)
          have FND := hide (show fnd (allL d) ⟨k, x, y, s, o⟩ q = true ↔ (⟨k, x, y, s, o⟩ : Mv) ∈ allL d by rw [e]; exact fnd_all)
          have R5 := hide (V0.out.below LW0.out.bel)
          have M5 := hide (V1.out.below LW0.out.bel)
          have B5 := hide (B4.out.trans (LW0.out.bel.mono B4.out.size))
          clear e hkg HV V0 V1 B4 LW0 HN5
          obtain ⟨fb, hfb⟩ : ∃ b, b = fnd (allL d) ⟨k, x, y, s, o⟩ q := ⟨_, rfl⟩
          have FB := hide hfb
          rw [← hfb]
          clear hfb
          obtain ⟨r0, r1, r2, r3⟩ := box3 R5.out
          obtain ⟨m0, m1, m2, m3, m4, m5⟩ := box5 M5.out
          go_wp2_with fail
          refine (apply_any d hd A B cp cq m ⟨k, x, y, s, o⟩ _ HM.out (HG.out.keep B5.out)).mono ?_
          intro e w6 hres
          clear r0 r1 r2 r3 m0 m1 m2 m3 m4 m5
          by_cases hin : (⟨k, x, y, s, o⟩ : Mv) ∈ allL d
          · have hc := listed_ok hin
            have hfb : fb = true := by rw [FB.out]; exact FND.out.2 hin
            subst hfb
            clear hin
            by_cases k5 : k = 5
            · subst k5
              obtain ⟨A8, B8, c8, c9', k9, x9, y9, s9, o9, hmv, rfl, hT⟩ := (hres.2.1 hc).split
              have RB := hide hres.2.2
              clear hmv hT hres hc
              obtain ⟨N9, hN9⟩ : ∃ n, n = (apD d ⟨5, x, y, s, o⟩).n := ⟨_, rfl⟩
              obtain ⟨N4, hN4⟩ : ∃ n, n = 4 * (apD d ⟨5, x, y, s, o⟩).n := ⟨_, rfl⟩
              obtain ⟨L9, hL9⟩ : ∃ n, n = (apD d ⟨5, x, y, s, o⟩).lp := ⟨_, rfl⟩
              rw [← hN4, ← hN9, ← hL9]
              clear hN9 hN4 hL9
              have M6 := hide (((M5.out.below RB.out).alloc (.cells #[.slice A8 N9 c8, .slice B8 N4 c9', .int .i64 (L9 : Int)] 24)).alloc (.cells #[.int .i64 k9, .int .i64 x9, .int .i64 y9, .int .i64 s9, .bool o9] 28))
              have hs6 : w.heap.size + 1 < w6.heap.size := (M5.out.below RB.out).lt
              have hs60 : w.heap.size < w6.heap.size := by omega
              obtain ⟨m0, m1, m2, m3, m4, m5⟩ := box5 (M5.out.below RB.out)
              obtain ⟨r0, r1, r2, r3⟩ := box3 (R5.out.below RB.out)
              have TA := hide (((L5.out.below RB.out).alloc (.cells #[.slice A8 N9 c8, .slice B8 N4 c9', .int .i64 (L9 : Int)] 24)).alloc (.cells #[.int .i64 k9, .int .i64 x9, .int .i64 y9, .int .i64 s9, .bool o9] 28))
              have TR0 := hide (((R5.out.below RB.out).alloc (.cells #[.slice A8 N9 c8, .slice B8 N4 c9', .int .i64 (L9 : Int)] 24)).alloc (.cells #[.int .i64 k9, .int .i64 x9, .int .i64 y9, .int .i64 s9, .bool o9] 28))
              have TB := hide ((B5.out.trans (RB.out.mono B5.out.size)).trans ((((Below.refl w6.heap.size w6).alloc (Nat.le_refl _) (.cells #[.slice A8 N9 c8, .slice B8 N4 c9', .int .i64 (L9 : Int)] 24)).alloc (by simp) (.cells #[.int .i64 k9, .int .i64 x9, .int .i64 y9, .int .i64 s9, .bool o9] 28)).mono (B5.out.trans (RB.out.mono B5.out.size)).size))
              obtain ⟨t0, t1, t2, t3⟩ := box3 TR0.out
              go_wp2_with fail
              refine (Removing_any d hd A B cp cq m _ HM.out (HG.out.keep TB.out)).mono ?_
              rintro e w7 ⟨v7, rfl, hv7, hb7⟩
              obtain ⟨A7, c7, rfl, hV7⟩ := hv7.at.mv
              have TA7 := hide (TA.out.below hb7)
              have TR7 := hide (TR0.out.below hb7)
              have TB7 := hide (TB.out.trans (hb7.mono TB.out.size))
              obtain ⟨AR, cR, rfl, hVR⟩ := (show MovesAt w7 vR (remL d) from ⟨_, TA7.out.r⟩).mv
              obtain ⟨AS, cS, rfl, hVS⟩ := (show MovesAt w7 vS (slL d (4 * d.n)) from ⟨_, TA7.out.s⟩).mv
              have HV7 := hide hV7
              have HVR := hide hVR
              have HVS := hide hVS
              obtain ⟨NR, hNR⟩ : ∃ n, n = (remL d).length := ⟨_, rfl⟩
              obtain ⟨NS, hNS⟩ : ∃ n, n = (slL d (4 * d.n)).length := ⟨_, rfl⟩
              have lr : NR ≤ 5000 := by rw [hNR]; exact remL_le hn
              have ls : NS ≤ 256 := by have := slL_len d (4 * d.n); omega
              have HVR2 := hide (show MovesV w7 AR NR (remL d) by rw [hNR]; exact HVR.out)
              have HV72 := hide (show MovesV w7 A7 NR (remL d) by rw [hNR]; exact HV7.out)
              have HVS2 := hide (show MovesV w7 AS NS (slL d (4 * d.n)) by rw [hNS]; exact HVS.out)
              rw [← hNR, ← hNS]
              have HNS := hide hNS
              clear hv7 hb7 hV7 hVR hVS HV7 HVR HVS hNR hNS TA TA7 TR0 TB t0 t1 t2 t3
              go_wp2_with fail
              refine (same_moves (remL d) AR A7 NR cR c7 _ HVR2.out HV72.out (by omega)).mono ?_
              rintro e w8 ⟨rfl, hb8⟩
              have TR8 := hide (TR7.out.below hb8)
              have TB8 := hide (TB7.out.trans (hb8.mono TB7.out.size))
              have HVS8 := hide (HVS2.out.keep hb8)
              clear hb8 HVR2 HV72 HVS2 TR7 TB7
              obtain ⟨t0, t1, t2, t3⟩ := box3 TR8.out
              go_wp2_with fail
              refine (Slides_any d hd A B cp cq m _ HM.out (HG.out.keep TB8.out)).mono ?_
              rintro e w9 ⟨v9, rfl, hv9, hb9⟩
              rw [HM.out] at hv9
              obtain ⟨A9, c9, rfl, hV9⟩ := hv9.mv
              have HV9 := hide (show MovesV w9 A9 NS (slL d (4 * d.n)) by rw [HNS.out]; exact hV9)
              have HVS9 := hide (HVS8.out.keep hb9)
              have TB9 := hide (TB8.out.trans (hb9.mono TB8.out.size))
              rw [← HNS.out]
              clear hv9 hV9 hb9 HVS8 TB8 TR8 t0 t1 t2 t3
              go_wp2_with fail
              refine (same_moves (slL d (4 * d.n)) AS A9 NS cS c9 _ HVS9.out HV9.out (by omega)).mono ?_
              rintro e w10 ⟨rfl, hb10⟩
              have TB10 := hide (TB9.out.trans (hb10.mono TB9.out.size))
              clear hb10
              go_wp2
              go_ret
              exact ⟨rfl, TB10.out⟩
            · have tk : (k != 5) = true := by rw [bne_iff_ne]; exact k5
              clear k5
              obtain ⟨A8, B8, c8, c9', k9, x9, y9, s9, o9, hmv, rfl, hT⟩ := (hres.2.1 hc).split
              have RB := hide hres.2.2
              clear hmv hT hres hc
              obtain ⟨N9, hN9⟩ : ∃ n, n = (apD d ⟨k, x, y, s, o⟩).n := ⟨_, rfl⟩
              obtain ⟨N4, hN4⟩ : ∃ n, n = 4 * (apD d ⟨k, x, y, s, o⟩).n := ⟨_, rfl⟩
              obtain ⟨L9, hL9⟩ : ∃ n, n = (apD d ⟨k, x, y, s, o⟩).lp := ⟨_, rfl⟩
              rw [← hN4, ← hN9, ← hL9]
              clear hN9 hN4 hL9
              have M6 := hide (((M5.out.below RB.out).alloc (.cells #[.slice A8 N9 c8, .slice B8 N4 c9', .int .i64 (L9 : Int)] 24)).alloc (.cells #[.int .i64 k9, .int .i64 x9, .int .i64 y9, .int .i64 s9, .bool o9] 28))
              have hs6 : w.heap.size + 1 < w6.heap.size := (M5.out.below RB.out).lt
              have hs60 : w.heap.size < w6.heap.size := by omega
              obtain ⟨m0, m1, m2, m3, m4, m5⟩ := box5 (M5.out.below RB.out)
              obtain ⟨r0, r1, r2, r3⟩ := box3 (R5.out.below RB.out)
              have TA := hide (((L5.out.below RB.out).alloc (.cells #[.slice A8 N9 c8, .slice B8 N4 c9', .int .i64 (L9 : Int)] 24)).alloc (.cells #[.int .i64 k9, .int .i64 x9, .int .i64 y9, .int .i64 s9, .bool o9] 28))
              have TR0 := hide (((R5.out.below RB.out).alloc (.cells #[.slice A8 N9 c8, .slice B8 N4 c9', .int .i64 (L9 : Int)] 24)).alloc (.cells #[.int .i64 k9, .int .i64 x9, .int .i64 y9, .int .i64 s9, .bool o9] 28))
              have TB := hide ((B5.out.trans (RB.out.mono B5.out.size)).trans ((((Below.refl w6.heap.size w6).alloc (Nat.le_refl _) (.cells #[.slice A8 N9 c8, .slice B8 N4 c9', .int .i64 (L9 : Int)] 24)).alloc (by simp) (.cells #[.int .i64 k9, .int .i64 x9, .int .i64 y9, .int .i64 s9, .bool o9] 28)).mono (B5.out.trans (RB.out.mono B5.out.size)).size))
              obtain ⟨t0, t1, t2, t3⟩ := box3 TR0.out
              go_wp2_with fail
              refine (Removing_any d hd A B cp cq m _ HM.out (HG.out.keep TB.out)).mono ?_
              rintro e w7 ⟨v7, rfl, hv7, hb7⟩
              obtain ⟨A7, c7, rfl, hV7⟩ := hv7.at.mv
              have TA7 := hide (TA.out.below hb7)
              have TR7 := hide (TR0.out.below hb7)
              have TB7 := hide (TB.out.trans (hb7.mono TB.out.size))
              obtain ⟨AR, cR, rfl, hVR⟩ := (show MovesAt w7 vR (remL d) from ⟨_, TA7.out.r⟩).mv
              obtain ⟨AS, cS, rfl, hVS⟩ := (show MovesAt w7 vS (slL d (4 * d.n)) from ⟨_, TA7.out.s⟩).mv
              have HV7 := hide hV7
              have HVR := hide hVR
              have HVS := hide hVS
              obtain ⟨NR, hNR⟩ : ∃ n, n = (remL d).length := ⟨_, rfl⟩
              obtain ⟨NS, hNS⟩ : ∃ n, n = (slL d (4 * d.n)).length := ⟨_, rfl⟩
              have lr : NR ≤ 5000 := by rw [hNR]; exact remL_le hn
              have ls : NS ≤ 256 := by have := slL_len d (4 * d.n); omega
              have HVR2 := hide (show MovesV w7 AR NR (remL d) by rw [hNR]; exact HVR.out)
              have HV72 := hide (show MovesV w7 A7 NR (remL d) by rw [hNR]; exact HV7.out)
              have HVS2 := hide (show MovesV w7 AS NS (slL d (4 * d.n)) by rw [hNS]; exact HVS.out)
              rw [← hNR, ← hNS]
              have HNS := hide hNS
              clear hv7 hb7 hV7 hVR hVS HV7 HVR HVS hNR hNS TA TA7 TR0 TB t0 t1 t2 t3
              go_wp2_with fail
              refine (same_moves (remL d) AR A7 NR cR c7 _ HVR2.out HV72.out (by omega)).mono ?_
              rintro e w8 ⟨rfl, hb8⟩
              have TR8 := hide (TR7.out.below hb8)
              have TB8 := hide (TB7.out.trans (hb8.mono TB7.out.size))
              have HVS8 := hide (HVS2.out.keep hb8)
              clear hb8 HVR2 HV72 HVS2 TR7 TB7
              obtain ⟨t0, t1, t2, t3⟩ := box3 TR8.out
              go_wp2_with fail
              refine (Slides_any d hd A B cp cq m _ HM.out (HG.out.keep TB8.out)).mono ?_
              rintro e w9 ⟨v9, rfl, hv9, hb9⟩
              rw [HM.out] at hv9
              obtain ⟨A9, c9, rfl, hV9⟩ := hv9.mv
              have HV9 := hide (show MovesV w9 A9 NS (slL d (4 * d.n)) by rw [HNS.out]; exact hV9)
              have HVS9 := hide (HVS8.out.keep hb9)
              have TB9 := hide (TB8.out.trans (hb9.mono TB8.out.size))
              rw [← HNS.out]
              clear hv9 hV9 hb9 HVS8 TB8 TR8 t0 t1 t2 t3
              go_wp2_with fail
              refine (same_moves (slL d (4 * d.n)) AS A9 NS cS c9 _ HVS9.out HV9.out (by omega)).mono ?_
              rintro e w10 ⟨rfl, hb10⟩
              have TB10 := hide (TB9.out.trans (hb10.mono TB9.out.size))
              clear hb10
              go_wp2
              go_ret
              exact ⟨rfl, TB10.out⟩
          · have hfb : fb = false := by
              cases hb : fb with
              | false => rfl
              | true => rw [hb] at FB; exact absurd (FND.out.1 FB.out.symm) hin
            subst hfb
            by_cases k5 : k = 5
            · subst k5
              by_cases hc : apC d ⟨5, x, y, s, o⟩ = 0
              · clear hin
                obtain ⟨A8, B8, c8, c9', k9, x9, y9, s9, o9, hmv, rfl, hT⟩ := (hres.2.1 hc).split
                have RB := hide hres.2.2
                clear hmv hT hres hc
                obtain ⟨N9, hN9⟩ : ∃ n, n = (apD d ⟨5, x, y, s, o⟩).n := ⟨_, rfl⟩
                obtain ⟨N4, hN4⟩ : ∃ n, n = 4 * (apD d ⟨5, x, y, s, o⟩).n := ⟨_, rfl⟩
                obtain ⟨L9, hL9⟩ : ∃ n, n = (apD d ⟨5, x, y, s, o⟩).lp := ⟨_, rfl⟩
                rw [← hN4, ← hN9, ← hL9]
                clear hN9 hN4 hL9
                have M6 := hide (((M5.out.below RB.out).alloc (.cells #[.slice A8 N9 c8, .slice B8 N4 c9', .int .i64 (L9 : Int)] 24)).alloc (.cells #[.int .i64 k9, .int .i64 x9, .int .i64 y9, .int .i64 s9, .bool o9] 28))
                have hs6 : w.heap.size + 1 < w6.heap.size := (M5.out.below RB.out).lt
                have hs60 : w.heap.size < w6.heap.size := by omega
                obtain ⟨m0, m1, m2, m3, m4, m5⟩ := box5 (M5.out.below RB.out)
                obtain ⟨r0, r1, r2, r3⟩ := box3 (R5.out.below RB.out)
                have TA := hide (((L5.out.below RB.out).alloc (.cells #[.slice A8 N9 c8, .slice B8 N4 c9', .int .i64 (L9 : Int)] 24)).alloc (.cells #[.int .i64 k9, .int .i64 x9, .int .i64 y9, .int .i64 s9, .bool o9] 28))
                have TR0 := hide (((R5.out.below RB.out).alloc (.cells #[.slice A8 N9 c8, .slice B8 N4 c9', .int .i64 (L9 : Int)] 24)).alloc (.cells #[.int .i64 k9, .int .i64 x9, .int .i64 y9, .int .i64 s9, .bool o9] 28))
                have TB := hide ((B5.out.trans (RB.out.mono B5.out.size)).trans ((((Below.refl w6.heap.size w6).alloc (Nat.le_refl _) (.cells #[.slice A8 N9 c8, .slice B8 N4 c9', .int .i64 (L9 : Int)] 24)).alloc (by simp) (.cells #[.int .i64 k9, .int .i64 x9, .int .i64 y9, .int .i64 s9, .bool o9] 28)).mono (B5.out.trans (RB.out.mono B5.out.size)).size))
                obtain ⟨t0, t1, t2, t3⟩ := box3 TR0.out
                go_wp2_with fail
                refine (Removing_any d hd A B cp cq m _ HM.out (HG.out.keep TB.out)).mono ?_
                rintro e w7 ⟨v7, rfl, hv7, hb7⟩
                obtain ⟨A7, c7, rfl, hV7⟩ := hv7.at.mv
                have TA7 := hide (TA.out.below hb7)
                have TR7 := hide (TR0.out.below hb7)
                have TB7 := hide (TB.out.trans (hb7.mono TB.out.size))
                obtain ⟨AR, cR, rfl, hVR⟩ := (show MovesAt w7 vR (remL d) from ⟨_, TA7.out.r⟩).mv
                obtain ⟨AS, cS, rfl, hVS⟩ := (show MovesAt w7 vS (slL d (4 * d.n)) from ⟨_, TA7.out.s⟩).mv
                have HV7 := hide hV7
                have HVR := hide hVR
                have HVS := hide hVS
                obtain ⟨NR, hNR⟩ : ∃ n, n = (remL d).length := ⟨_, rfl⟩
                obtain ⟨NS, hNS⟩ : ∃ n, n = (slL d (4 * d.n)).length := ⟨_, rfl⟩
                have lr : NR ≤ 5000 := by rw [hNR]; exact remL_le hn
                have ls : NS ≤ 256 := by have := slL_len d (4 * d.n); omega
                have HVR2 := hide (show MovesV w7 AR NR (remL d) by rw [hNR]; exact HVR.out)
                have HV72 := hide (show MovesV w7 A7 NR (remL d) by rw [hNR]; exact HV7.out)
                have HVS2 := hide (show MovesV w7 AS NS (slL d (4 * d.n)) by rw [hNS]; exact HVS.out)
                rw [← hNR, ← hNS]
                have HNS := hide hNS
                clear hv7 hb7 hV7 hVR hVS HV7 HVR HVS hNR hNS TA TA7 TR0 TB t0 t1 t2 t3
                go_wp2_with fail
                refine (same_moves (remL d) AR A7 NR cR c7 _ HVR2.out HV72.out (by omega)).mono ?_
                rintro e w8 ⟨rfl, hb8⟩
                have TR8 := hide (TR7.out.below hb8)
                have TB8 := hide (TB7.out.trans (hb8.mono TB7.out.size))
                have HVS8 := hide (HVS2.out.keep hb8)
                clear hb8 HVR2 HV72 HVS2 TR7 TB7
                obtain ⟨t0, t1, t2, t3⟩ := box3 TR8.out
                go_wp2_with fail
                refine (Slides_any d hd A B cp cq m _ HM.out (HG.out.keep TB8.out)).mono ?_
                rintro e w9 ⟨v9, rfl, hv9, hb9⟩
                rw [HM.out] at hv9
                obtain ⟨A9, c9, rfl, hV9⟩ := hv9.mv
                have HV9 := hide (show MovesV w9 A9 NS (slL d (4 * d.n)) by rw [HNS.out]; exact hV9)
                have HVS9 := hide (HVS8.out.keep hb9)
                have TB9 := hide (TB8.out.trans (hb9.mono TB8.out.size))
                rw [← HNS.out]
                clear hv9 hV9 hb9 HVS8 TB8 TR8 t0 t1 t2 t3
                go_wp2_with fail
                refine (same_moves (slL d (4 * d.n)) AS A9 NS cS c9 _ HVS9.out HV9.out (by omega)).mono ?_
                rintro e w10 ⟨rfl, hb10⟩
                have TB10 := hide (TB9.out.trans (hb10.mono TB9.out.size))
                clear hb10
                go_wp2
                go_ret
                exact ⟨rfl, TB10.out⟩
              · clear hin
                have hE := ResErr.split (hres.1 hc)
                have RB := hide hres.2.2
                obtain ⟨cc, hcc⟩ : ∃ c, c = apC d ⟨5, x, y, s, o⟩ := ⟨_, rfl⟩
                rw [← hcc] at hE hc
                subst hE
                have tc : (cc == 0) = false := by rw [beq_eq_false_iff_ne]; exact hc
                have tc2 : (cc != 0) = true := by rw [bne_iff_ne]; exact hc
                clear hcc hc hres
                have hs6 : w.heap.size + 1 < w6.heap.size := (M5.out.below RB.out).lt
                have hs60 : w.heap.size < w6.heap.size := by omega
                obtain ⟨m0, m1, m2, m3, m4, m5⟩ := box5 (M5.out.below RB.out)
                obtain ⟨r0, r1, r2, r3⟩ := box3 (R5.out.below RB.out)
                have TA := hide (((L5.out.below RB.out).alloc (.cells #[.slice none 0 0, .slice none 0 0, .int .i64 0] 24)).alloc (.cells #[.int .i64 0, .int .i64 0, .int .i64 0, .int .i64 0, .bool false] 28))
                have TR0 := hide (((R5.out.below RB.out).alloc (.cells #[.slice none 0 0, .slice none 0 0, .int .i64 0] 24)).alloc (.cells #[.int .i64 0, .int .i64 0, .int .i64 0, .int .i64 0, .bool false] 28))
                have TB := hide ((B5.out.trans (RB.out.mono B5.out.size)).trans ((((Below.refl w6.heap.size w6).alloc (Nat.le_refl _) (.cells #[.slice none 0 0, .slice none 0 0, .int .i64 0] 24)).alloc (by simp) (.cells #[.int .i64 0, .int .i64 0, .int .i64 0, .int .i64 0, .bool false] 28)).mono (B5.out.trans (RB.out.mono B5.out.size)).size))
                obtain ⟨t0, t1, t2, t3⟩ := box3 TR0.out
                go_wp2_with fail
                refine (Removing_any d hd A B cp cq m _ HM.out (HG.out.keep TB.out)).mono ?_
                rintro e w7 ⟨v7, rfl, hv7, hb7⟩
                obtain ⟨A7, c7, rfl, hV7⟩ := hv7.at.mv
                have TA7 := hide (TA.out.below hb7)
                have TR7 := hide (TR0.out.below hb7)
                have TB7 := hide (TB.out.trans (hb7.mono TB.out.size))
                obtain ⟨AR, cR, rfl, hVR⟩ := (show MovesAt w7 vR (remL d) from ⟨_, TA7.out.r⟩).mv
                obtain ⟨AS, cS, rfl, hVS⟩ := (show MovesAt w7 vS (slL d (4 * d.n)) from ⟨_, TA7.out.s⟩).mv
                have HV7 := hide hV7
                have HVR := hide hVR
                have HVS := hide hVS
                obtain ⟨NR, hNR⟩ : ∃ n, n = (remL d).length := ⟨_, rfl⟩
                obtain ⟨NS, hNS⟩ : ∃ n, n = (slL d (4 * d.n)).length := ⟨_, rfl⟩
                have lr : NR ≤ 5000 := by rw [hNR]; exact remL_le hn
                have ls : NS ≤ 256 := by have := slL_len d (4 * d.n); omega
                have HVR2 := hide (show MovesV w7 AR NR (remL d) by rw [hNR]; exact HVR.out)
                have HV72 := hide (show MovesV w7 A7 NR (remL d) by rw [hNR]; exact HV7.out)
                have HVS2 := hide (show MovesV w7 AS NS (slL d (4 * d.n)) by rw [hNS]; exact HVS.out)
                rw [← hNR, ← hNS]
                have HNS := hide hNS
                clear hv7 hb7 hV7 hVR hVS HV7 HVR HVS hNR hNS TA TA7 TR0 TB t0 t1 t2 t3
                go_wp2_with fail
                refine (same_moves (remL d) AR A7 NR cR c7 _ HVR2.out HV72.out (by omega)).mono ?_
                rintro e w8 ⟨rfl, hb8⟩
                have TR8 := hide (TR7.out.below hb8)
                have TB8 := hide (TB7.out.trans (hb8.mono TB7.out.size))
                have HVS8 := hide (HVS2.out.keep hb8)
                clear hb8 HVR2 HV72 HVS2 TR7 TB7
                obtain ⟨t0, t1, t2, t3⟩ := box3 TR8.out
                go_wp2_with fail
                refine (Slides_any d hd A B cp cq m _ HM.out (HG.out.keep TB8.out)).mono ?_
                rintro e w9 ⟨v9, rfl, hv9, hb9⟩
                rw [HM.out] at hv9
                obtain ⟨A9, c9, rfl, hV9⟩ := hv9.mv
                have HV9 := hide (show MovesV w9 A9 NS (slL d (4 * d.n)) by rw [HNS.out]; exact hV9)
                have HVS9 := hide (HVS8.out.keep hb9)
                have TB9 := hide (TB8.out.trans (hb9.mono TB8.out.size))
                rw [← HNS.out]
                clear hv9 hV9 hb9 HVS8 TB8 TR8 t0 t1 t2 t3
                go_wp2_with fail
                refine (same_moves (slL d (4 * d.n)) AS A9 NS cS c9 _ HVS9.out HV9.out (by omega)).mono ?_
                rintro e w10 ⟨rfl, hb10⟩
                have TB10 := hide (TB9.out.trans (hb10.mono TB9.out.size))
                clear hb10
                go_wp2
                go_ret
                exact ⟨rfl, TB10.out⟩
            · have hc : apC d ⟨k, x, y, s, o⟩ ≠ 0 := fun h => hin ((listed (z := ⟨k, x, y, s, o⟩) k5).2 h)
              have tk : (k != 5) = true := by rw [bne_iff_ne]; exact k5
              clear hin k5
              have hE := ResErr.split (hres.1 hc)
              have RB := hide hres.2.2
              obtain ⟨cc, hcc⟩ : ∃ c, c = apC d ⟨k, x, y, s, o⟩ := ⟨_, rfl⟩
              rw [← hcc] at hE hc
              subst hE
              have tc : (cc == 0) = false := by rw [beq_eq_false_iff_ne]; exact hc
              have tc2 : (cc != 0) = true := by rw [bne_iff_ne]; exact hc
              clear hcc hc hres
              have hs6 : w.heap.size + 1 < w6.heap.size := (M5.out.below RB.out).lt
              have hs60 : w.heap.size < w6.heap.size := by omega
              obtain ⟨m0, m1, m2, m3, m4, m5⟩ := box5 (M5.out.below RB.out)
              obtain ⟨r0, r1, r2, r3⟩ := box3 (R5.out.below RB.out)
              have TA := hide (((L5.out.below RB.out).alloc (.cells #[.slice none 0 0, .slice none 0 0, .int .i64 0] 24)).alloc (.cells #[.int .i64 0, .int .i64 0, .int .i64 0, .int .i64 0, .bool false] 28))
              have TR0 := hide (((R5.out.below RB.out).alloc (.cells #[.slice none 0 0, .slice none 0 0, .int .i64 0] 24)).alloc (.cells #[.int .i64 0, .int .i64 0, .int .i64 0, .int .i64 0, .bool false] 28))
              have TB := hide ((B5.out.trans (RB.out.mono B5.out.size)).trans ((((Below.refl w6.heap.size w6).alloc (Nat.le_refl _) (.cells #[.slice none 0 0, .slice none 0 0, .int .i64 0] 24)).alloc (by simp) (.cells #[.int .i64 0, .int .i64 0, .int .i64 0, .int .i64 0, .bool false] 28)).mono (B5.out.trans (RB.out.mono B5.out.size)).size))
              obtain ⟨t0, t1, t2, t3⟩ := box3 TR0.out
              go_wp2_with fail
              refine (Removing_any d hd A B cp cq m _ HM.out (HG.out.keep TB.out)).mono ?_
              rintro e w7 ⟨v7, rfl, hv7, hb7⟩
              obtain ⟨A7, c7, rfl, hV7⟩ := hv7.at.mv
              have TA7 := hide (TA.out.below hb7)
              have TR7 := hide (TR0.out.below hb7)
              have TB7 := hide (TB.out.trans (hb7.mono TB.out.size))
              obtain ⟨AR, cR, rfl, hVR⟩ := (show MovesAt w7 vR (remL d) from ⟨_, TA7.out.r⟩).mv
              obtain ⟨AS, cS, rfl, hVS⟩ := (show MovesAt w7 vS (slL d (4 * d.n)) from ⟨_, TA7.out.s⟩).mv
              have HV7 := hide hV7
              have HVR := hide hVR
              have HVS := hide hVS
              obtain ⟨NR, hNR⟩ : ∃ n, n = (remL d).length := ⟨_, rfl⟩
              obtain ⟨NS, hNS⟩ : ∃ n, n = (slL d (4 * d.n)).length := ⟨_, rfl⟩
              have lr : NR ≤ 5000 := by rw [hNR]; exact remL_le hn
              have ls : NS ≤ 256 := by have := slL_len d (4 * d.n); omega
              have HVR2 := hide (show MovesV w7 AR NR (remL d) by rw [hNR]; exact HVR.out)
              have HV72 := hide (show MovesV w7 A7 NR (remL d) by rw [hNR]; exact HV7.out)
              have HVS2 := hide (show MovesV w7 AS NS (slL d (4 * d.n)) by rw [hNS]; exact HVS.out)
              rw [← hNR, ← hNS]
              have HNS := hide hNS
              clear hv7 hb7 hV7 hVR hVS HV7 HVR HVS hNR hNS TA TA7 TR0 TB t0 t1 t2 t3
              go_wp2_with fail
              refine (same_moves (remL d) AR A7 NR cR c7 _ HVR2.out HV72.out (by omega)).mono ?_
              rintro e w8 ⟨rfl, hb8⟩
              have TR8 := hide (TR7.out.below hb8)
              have TB8 := hide (TB7.out.trans (hb8.mono TB7.out.size))
              have HVS8 := hide (HVS2.out.keep hb8)
              clear hb8 HVR2 HV72 HVS2 TR7 TB7
              obtain ⟨t0, t1, t2, t3⟩ := box3 TR8.out
              go_wp2_with fail
              refine (Slides_any d hd A B cp cq m _ HM.out (HG.out.keep TB8.out)).mono ?_
              rintro e w9 ⟨v9, rfl, hv9, hb9⟩
              rw [HM.out] at hv9
              obtain ⟨A9, c9, rfl, hV9⟩ := hv9.mv
              have HV9 := hide (show MovesV w9 A9 NS (slL d (4 * d.n)) by rw [HNS.out]; exact hV9)
              have HVS9 := hide (HVS8.out.keep hb9)
              have TB9 := hide (TB8.out.trans (hb9.mono TB8.out.size))
              rw [← HNS.out]
              clear hv9 hV9 hb9 HVS8 TB8 TR8 t0 t1 t2 t3
              go_wp2_with fail
              refine (same_moves (slL d (4 * d.n)) AS A9 NS cS c9 _ HVS9.out HV9.out (by omega)).mono ?_
              rintro e w10 ⟨rfl, hb10⟩
              have TB10 := hide (TB9.out.trans (hb10.mono TB9.out.size))
              clear hb10
              go_wp2
              go_ret
              exact ⟨rfl, TB10.out⟩
set_option maxRecDepth 100000 in
set_option maxHeartbeats 4000000 in
theorem listed_bad (sg mt : List Int) (lp : Int) (A B : Option Addr) (n q cp cq : Nat) (k x y s : Int) (o : Bool) (w : World) (hs : IntsAt w A n sg) (hm : IntsAt w B q mt) (hn : n ≤ maxLen) (hq : q ≤ maxLen) (hlp : -9223372036854775808 ≤ lp ∧ lp ≤ 9223372036854775807) (hv : ¬ Pl.VL sg mt lp) :
    Calls Try.prog 10 #[.agg #[.slice A n cp, .slice B q cq, .int .i64 lp], (Mv.mk k x y s o).v] w fun e w' => e = .returned (.bool true) ∧ Below w.heap.size w w' := by
  have HS := hide hs
  have HM := hide hm
  clear hs hm
  have X0 := hide (show Row ((w.alloc (.cells #[.slice A n cp, .slice B q cq, .int .i64 lp] 24)).alloc (.cells #[.int .i64 k, .int .i64 x, .int .i64 y, .int .i64 s, .bool o] 28)) w.heap.size 24 [.slice A n cp, .slice B q cq, .int .i64 lp] from (row_at (vs := [_, _, _]) rfl).alloc _)
  have B0 := hide (show Below w.heap.size w ((w.alloc (.cells #[.slice A n cp, .slice B q cq, .int .i64 lp] 24)).alloc (.cells #[.int .i64 k, .int .i64 x, .int .i64 y, .int .i64 s, .bool o] 28)) from ((Below.refl _ _).alloc (Nat.le_refl _) _).alloc (by simp) _)
  unfold Mv.v
  go_enter Try.func10, Try.ntmps10
  go_wp2_with fail
  refine (awake_true _).mono ?_
  rintro e w1 ⟨rfl, hb1⟩
  have Y0 := hide (X0.out.below hb1)
  have B1 := hide (B0.out.trans (hb1.mono B0.out.size))
  clear X0 B0 hb1
  obtain ⟨d0, d1, d2, d3⟩ := box3 Y0.out
  go_wp2_with fail
  refine (small_any A B n q cp cq (.int .i64 lp) w1).mono ?_
  rintro e w2 ⟨he, hb2⟩
  have Z0 := hide (Y0.out.below hb2)
  have B2 := hide (B1.out.trans (hb2.mono B1.out.size))
  clear Y0 B1 hb2 d0 d1 d2 d3
  obtain ⟨d0, d1, d2, d3⟩ := box3 Z0.out
  rcases he with rfl | rfl
  · go_wp2
    go_ret
    exact ⟨rfl, B2.out⟩
  · by_cases h7 : (7 : Int) < (n : Int)
    · go_wp2
      go_ret
      exact ⟨rfl, B2.out⟩
    · go_wp2_with fail
      refine (valid_any sg mt lp A B n q cp cq _ (HS.out.keep B2.out) (HM.out.keep B2.out) hn hq hlp).mono ?_
      rintro e w3 ⟨rfl, hb3⟩
      rw [Pl.vb_false hv]
      have B3 := hide (B2.out.trans (hb3.mono B2.out.size))
      clear hb3
      go_wp2
      go_ret
      exact ⟨rfl, B3.out⟩
theorem listed_walk (sg mt : List Int) (lp : Int) (A B : Option Addr) (n q cp cq : Nat) (k x y s : Int) (o : Bool) (w : World) (hs : IntsAt w A n sg) (hm : IntsAt w B q mt) (hn : n ≤ maxLen) (hq : q ≤ maxLen) (hlp : -9223372036854775808 ≤ lp ∧ lp ≤ 9223372036854775807) :
    Calls Try.prog 10 #[.agg #[.slice A n cp, .slice B q cq, .int .i64 lp], (Mv.mk k x y s o).v] w fun e w' => e = .returned (.bool true) ∧ Below w.heap.size w w' := by
  by_cases hv : Pl.VL sg mt lp
  · have hl := hs.len
    have hl2 := hm.len
    have hl3 := hv.len
    have en : (Pl.mk sg mt lp).n = n := hl
    have em : nats (Pl.mk sg mt lp).mt = mt := Pl.nats_mk hv.2.1
    have el : ((Pl.mk sg mt lp).lp : Int) = lp := by show ((lp.toNat : Nat) : Int) = lp; have := hv.2.2; omega
    have h := listed_valid (Pl.mk sg mt lp) hv.1 A B cp cq q k x y s o w (by rw [en]; omega) ⟨by rw [en]; exact hs, by rw [en, em, show 4 * n = q by omega]; exact hm⟩
    rw [en, el] at h
    exact h
  · exact listed_bad sg mt lp A B n q cp cq k x y s o w hs hm hn hq hlp hv
end Go.Proofs.Ytobbepmlmbbamaa
