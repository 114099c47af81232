/-
  The texts Wy, Wq in one.
-/
import Derived.Test.YtobbepmlmbbamaaBAV13
import Derived.Test.YtobbepmlmbbamaaBAV12
set_option linter.unusedVariables false
set_option linter.unusedSimpArgs false

section
/-
  Walks: what poke makes its crossings by.
-/
namespace Go.Proofs.Ytobbepmlmbbamaa
open Go Go.RowKit

theorem pF_any (n u0 u1 gn gf t : Nat) (s : Int) (w : World) (hs : s = t) (ht : t < 4) (hn : n ≤ 64) (hu : u0 < 4) (h1 : Row w gn 3 [.int .i64 (n : Int)]) (h2 : Row w gf 86 [.int .i64 (u0 : Int), .int .i64 (u1 : Int)]) :
    Calls Try.prog 86 #[.int .i64 s, .pointer (some ⟨gn, 0, none⟩), .pointer (some ⟨gf, 0, none⟩)] w fun e w' => e = .returned (.int .i64 (plc n u0 t : Nat)) ∧ w' = w := by
  subst hs
  have c0 := h1.cell (i := 0) (by simp)
  obtain ⟨a0, a1, a2⟩ := box2 h2
  simp only [List.getElem_cons_zero] at c0
  go_enter Try.func86, Try.ntmps86
  go_wp2_with fail
  refine (place_any n u0 t _ (by omega) hu ht).mono ?_
  rintro e w1 ⟨rfl, rfl⟩
  go_wp2
  go_ret
  exact ⟨rfl, rfl⟩
theorem qF_any (n u0 u1 gn gf t : Nat) (s : Int) (w : World) (hs : s = t) (ht : t < 4) (hn : n ≤ 64) (hu : u1 < 4) (h1 : Row w gn 3 [.int .i64 (n : Int)]) (h2 : Row w gf 86 [.int .i64 (u0 : Int), .int .i64 (u1 : Int)]) :
    Calls Try.prog 88 #[.int .i64 s, .pointer (some ⟨gn, 0, none⟩), .pointer (some ⟨gf, 0, none⟩)] w fun e w' => e = .returned (.int .i64 (plc (n + 1) u1 t : Nat)) ∧ w' = w := by
  subst hs
  have c0 := h1.cell (i := 0) (by simp)
  obtain ⟨a0, a1, a2⟩ := box2 h2
  simp only [List.getElem_cons_zero] at c0
  have e1 : ((n + 1 : Nat) : Int).toNat = n + 1 := by omega
  go_enter Try.func88, Try.ntmps88
  clear e1
  go_wp2_with fail
  refine (place_i ((n : Int) + 1) (u1 : Int) (t : Int) _ (by omega) (by omega) (by omega)).mono ?_
  rintro e w1 ⟨rfl, rfl⟩
  go_wp2
  go_ret
  exact ⟨rfl, rfl⟩
theorem row_far {W : World} {g t : Nat} {vs : List Value} {base : Nat} {v : Value} {n : Nat} {xs : List Value} (h : Row W g t vs) (ht : t ≠ 3) (ho : W.ownsRow base 3 1 v n xs) : some g ≠ v.ownBlock := by
  intro e
  obtain ⟨cs, fr, h3⟩ := ownsRow_block ho g e.symm
  rw [h] at h3
  injection h3 with h3
  injection h3 with _ h4
  exact ht h4
def leadM (d : Pl.Dg) (mt : List Nat) (x : Int) (i o : Nat) : List Nat := if x < 0 then jn mt i o else jn (jn mt x.toNat i) o (d.m x.toNat)
/-- Where poke stands while it mates half-edges. -/
structure PK (w : World) (gd gn gr gf g1 c1 n1 g2 c2 n2 base n u0 u1 : Nat) (s5 m5 dv ss : List Value) (lpr : Int) (mt : List Nat) (W : World) : Prop where
  s : Row W w.heap.size 64 s5
  m : Row W (w.heap.size + 1) 28 m5
  rd : ∃ vs, Row W (w.heap.size + 1 + 1) 24 vs ∧ vs.length = 3
  rm : ∃ us, Row W (w.heap.size + 1 + 1 + 1) 28 us ∧ us.length = 5
  d : Row W gd 24 dv
  nb : Row W gn 3 [.int .i64 (n : Int)]
  f : Row W gf 86 [.int .i64 (u0 : Int), .int .i64 (u1 : Int)]
  r : Row W gr 24 [.slice (some ⟨g1, 0, none⟩) n1 c1, .slice (some ⟨g2, 0, none⟩) n2 c2, .int .i64 lpr]
  o1 : W.ownsRow base 3 1 (.slice (some ⟨g1, 0, none⟩) n1 c1) n1 ss
  o2 : OwnN W base g2 n2 c2 mt
  ne : g1 ≠ g2
  bel : Below w.heap.size w W
  a1 : w.heap.size + 1 + 1 + 1 < gd
  a2 : w.heap.size + 1 + 1 + 1 < gn
  a3 : w.heap.size + 1 + 1 + 1 < gr
  a5 : gn < base
  a6 : gr ≠ gd
section
variable {w : World} {gd gn gr gf g1 c1 n1 g2 c2 n2 base n u0 u1 : Nat} {s5 m5 dv ss : List Value} {lpr : Int} {mt : List Nat} {W W2 : World}
theorem PK.drew (h : PK w gd gn gr gf g1 c1 n1 g2 c2 n2 base n u0 u1 s5 m5 dv ss lpr mt W) : PK w gd gn gr gf g1 c1 n1 g2 c2 n2 base n u0 u1 s5 m5 dv ss lpr mt W.drew :=
  ⟨h.s, h.m, h.rd, h.rm, h.d, h.nb, h.f, h.r, h.o1, h.o2, h.ne, h.bel.drew, h.a1, h.a2, h.a3, h.a5, h.a6⟩
theorem PK.cast (h : PK w gd gn gr gf g1 c1 n1 g2 c2 n2 base n u0 u1 s5 m5 dv ss lpr mt W) (e : W2 = W) : PK w gd gn gr gf g1 c1 n1 g2 c2 n2 base n u0 u1 s5 m5 dv ss lpr mt W2 := e ▸ h
theorem PK.lob (h : PK w gd gn gr gf g1 c1 n1 g2 c2 n2 base n u0 u1 s5 m5 dv ss lpr mt W) (hn2 : 0 < n2) : base ≤ g2 ∧ g2 < W.heap.size := by
  obtain ⟨g, e, h1, h2⟩ := owns_pos hn2 h.o2
  injection e with e
  injection e with e
  subst e
  exact ⟨h1, h2⟩
theorem PK.join {mt' : List Nat} (h : PK w gd gn gr gf g1 c1 n1 g2 c2 n2 base n u0 u1 s5 m5 dv ss lpr mt W) (own : OwnN W2 base g2 n2 c2 mt') (gw : W.grownBy W2 (some g2)) : PK w gd gn gr gf g1 c1 n1 g2 c2 n2 base n u0 u1 s5 m5 dv ss lpr mt' W2 := by
  have f1 : ∀ {g : Nat} {t : TypeId} {vs : List Value}, t ≠ 3 → Row W g t vs → Row W2 g t vs := fun ht hr => hr.grown gw (row_far hr ht h.o2)
  have hb : ∀ k, some g2 = some k → w.heap.size ≤ k := fun k hk => by
    injection hk with hk
    have h1 := h.a5
    have h2 := h.a2
    have h3 := World.ownsRow.lt h.o2 g2 rfl
    omega
  obtain ⟨vs, r1, l1⟩ := h.rd
  obtain ⟨us, r2, l2⟩ := h.rm
  refine ⟨f1 (by decide) h.s, f1 (by decide) h.m, ⟨vs, f1 (by decide) r1, l1⟩, ⟨us, f1 (by decide) r2, l2⟩, f1 (by decide) h.d, h.nb.grown gw ?_, f1 (by decide) h.f, f1 (by decide) h.r, own_grown h.o1 gw h.ne, own, h.ne, h.bel.grown gw h.bel.size hb, h.a1, h.a2, h.a3, h.a5, h.a6⟩
  intro e
  injection e with e
  have h1 := h.a5
  have h3 := World.ownsRow.lt h.o2 g2 rfl
  omega
theorem PK.loops (h : PK w gd gn gr gf g1 c1 n1 g2 c2 n2 base n u0 u1 s5 m5 dv ss lpr mt W) (v : Int) : PK w gd gn gr gf g1 c1 n1 g2 c2 n2 base n u0 u1 s5 m5 dv ss v mt (W.setCell ⟨gr, 2, none⟩ (.int .i64 v)) := by
  have h3 := h.a3
  have e1 := row_far h.r (by decide) h.o1
  have e2 := row_far h.r (by decide) h.o2
  have e3 : gn ≠ gr := fun e => by
    have h5 := h.nb
    rw [e] at h5
    have h6 := h.r
    unfold Row at h5 h6
    rw [h5] at h6
    injection h6 with h6
    injection h6 with _ h7
    exact absurd h7 (by decide)
  have e4 : gf ≠ gr := fun e => by
    have h5 := h.f
    rw [e] at h5
    have h6 := h.r
    unfold Row at h5 h6
    rw [h5] at h6
    injection h6 with h6
    injection h6 with _ h7
    exact absurd h7 (by decide)
  obtain ⟨vs, r1, l1⟩ := h.rd
  obtain ⟨us, r2, l2⟩ := h.rm
  refine ⟨h.s.other (by show _ ≠ gr; omega) _, h.m.other (by show _ ≠ gr; omega) _, ⟨vs, r1.other (by show _ ≠ gr; omega) _, l1⟩, ⟨us, r2.other (by show _ ≠ gr; omega) _, l2⟩, h.d.other (by show _ ≠ gr; exact Ne.symm h.a6) _, h.nb.other e3 _, h.f.other e4 _, h.r.set 2 _, own_set h.o1 (fun e => e1 (by rw [e]; rfl)), own_set h.o2 (fun e => e2 (by rw [e]; rfl)), h.ne, h.bel.setCell (by show _ ≤ gr; omega) _, h.a1, h.a2, h.a3, h.a5, h.a6⟩
end
set_option maxRecDepth 100000 in
set_option maxHeartbeats 2000000 in
theorem lead_any (d : Pl.Dg) (hd : Pl.Wf d) (A B : Option Addr) (cp cq m i o : Nat) (gd gn gr gf g1 c1 n1 g2 c2 n2 base n u0 u1 : Nat) (s5 m5 ss : List Value) (x lp : Int) (mt : List Nat) (w W : World) (hm : m = 4 * d.n) (hg : DgAt w A B d) (hx : x < 4 * (d.n : Int)) (hlp : -10 ≤ lp ∧ lp ≤ 1000)
    (hp : PK w gd gn gr gf g1 c1 n1 g2 c2 n2 base n u0 u1 s5 m5 [.slice A d.n cp, .slice B m cq, .int .i64 (d.lp : Int)] ss lp mt W) (hi : i < n2) (hoo : o < n2) (hmn : m ≤ n2) (hn : n2 ≤ 1000) :
    Calls Try.prog 89 #[.int .i64 x, .int .i64 (i : Int), .int .i64 (o : Int), .pointer (some ⟨gr, 0, none⟩), .pointer (some ⟨gd, 0, none⟩)] W fun e w' => e = .returned (.tuple #[]) ∧ PK w gd gn gr gf g1 c1 n1 g2 c2 n2 base n u0 u1 s5 m5 [.slice A d.n cp, .slice B m cq, .int .i64 (d.lp : Int)] ss (if x < 0 then lp - 1 else lp) (leadM d mt x i o) w' := by
  have HM := hide hm
  have HG := hide hg
  have HP := hide hp
  clear hm hg hp
  obtain ⟨r0, r1, r2, r3⟩ := box3 HP.out.r
  obtain ⟨d0, d1, d2, d3⟩ := box3 HP.out.d
  by_cases hx0 : x < 0
  · have HE := hide (show leadM d mt x i o = jn mt i o by unfold leadM; rw [if_pos hx0])
    go_enter Try.func89, Try.ntmps89
    go_wp2_with fail
    refine (join_any base g2 n2 c2 i o mt _ HP.out.o2 hi hoo (by omega)).mono ?_
    rintro e w1 ⟨rfl, own1, gr1⟩
    have HP1 := hide (HP.out.join own1 gr1)
    clear own1 gr1 r0 r1 r2 r3 d0 d1 d2 d3
    obtain ⟨r0, r1, r2, r3⟩ := box3 HP1.out.r
    go_wp2
    refine bodyPost_ret (results_none rfl _ _ _) rfl ?_
    refine ⟨rfl, ?_⟩
    rw [HE.out]
    exact HP1.out.loops _
  · obtain ⟨q, rfl⟩ := Int.eq_ofNat_of_zero_le (show 0 ≤ x by omega)
    have HE := hide (show leadM d mt (q : Int) i o = jn (jn mt q i) o (d.m q) by unfold leadM; rw [if_neg (by omega), Int.toNat_natCast])
    have hq : q < 4 * d.n := by omega
    have hqm : q < m := by have := HM.out; omega
    have iq : (0 : Int) ≤ (q : Int) := by omega
    have jq : (q : Int) < (m : Int) := by omega
    have hmq := hd.lt q hq
    have hmq2 : d.m q < n2 := by have := HM.out; omega
    go_enter Try.func89, Try.ntmps89
    go_wp2_with fail
    refine (join_any base g2 n2 c2 q i mt _ HP.out.o2 (by omega) hi (by omega)).mono ?_
    rintro e w1 ⟨rfl, own1, gr1⟩
    have HP1 := hide (HP.out.join own1 gr1)
    clear own1 gr1 r0 r1 r2 r3 d0 d1 d2 d3
    obtain ⟨r0, r1, r2, r3⟩ := box3 HP1.out.r
    obtain ⟨d0, d1, d2, d3⟩ := box3 HP1.out.d
    have HG1 := hide (HG.out.keep HP1.out.bel)
    obtain ⟨mb, mo, rfl, cm⟩ := mate_at HG1.out.m hq
    obtain ⟨u, hu⟩ : ∃ u, u = d.m q := ⟨_, rfl⟩
    rw [← hu] at cm hmq2
    have HU := hide hu
    clear hu hmq
    go_upto_region 4 with fail
    go_still_tail 8, (by kernel_rfl)
    change wpList _ _ _ _ _ w1.drew
    obtain ⟨W6, hW6⟩ : ∃ W6 : World, W6 = w1.drew := ⟨_, rfl⟩
    rw [← hW6]
    have HP6 := hide (HP1.out.drew.cast hW6)
    clear hW6 r0 r1 r2 r3 d0 d1 d2 d3 cm
    go_wp2_with fail
    refine (join_any base g2 n2 c2 o u _ W6 HP6.out.o2 hoo hmq2 (by omega)).mono ?_
    rintro e w7 ⟨rfl, own7, gr7⟩
    have HP7 := hide (HP6.out.join own7 gr7)
    clear own7 gr7
    go_wp2
    go_end0
    refine ⟨rfl, ?_⟩
    first
      | (rw [HE.out, ← HU.out]; exact HP7.out)
      | (rw [if_neg (show ¬ ((q : Int) < 0) by omega), HE.out, ← HU.out]; exact HP7.out)
end Go.Proofs.Ytobbepmlmbbamaa
end

section
/-
  Walks: pokeable.
-/
namespace Go.Proofs.Ytobbepmlmbbamaa
open Go Go.RowKit

def needP (x y sg : Int) : Nat := (if x < 0 then 1 else 0) + (if y < 0 ∧ sg = 0 then 1 else 0)
/-- What pokeable answers. -/
def pkC (d : Pl.Dg) (F P : List Nat) (x y sg : Int) : Int :=
  if d.lp < needP x y sg then 6 else if 0 ≤ x ∧ 0 ≤ y ∧ x ≠ y ∧ nearB F P d x.toNat y.toNat = false then 6 else if 64 < d.n + 2 then 5 else 0
def PkPost (d : Pl.Dg) (F P : List Nat) (x y sg : Int) (w : World) (e : Ending) (w' : World) : Prop := e = .returned (.int .i64 (pkC d F P x y sg)) ∧ Below w.heap.size w w'
set_option maxRecDepth 100000 in
set_option maxHeartbeats 2000000 in
theorem pokeable_any (d : Pl.Dg) (F P : List Nat) (A B L R : Option Addr) (cp cq cl cr m : Nat) (k x y sg : Int) (ov : Bool) (w : World) (hm : m = 4 * d.n) (hs : ShAt w A B L R d F P) (hn : d.n ≤ 64) (hlp : d.lp ≤ 64) (hx : -2 ≤ x ∧ x < 4 * d.n) (hy : -2 ≤ y ∧ y < 4 * d.n) :
    Calls Try.prog 84 #[sheetV A B L R d.n m d.lp cp cq cl cr, .agg #[.int .i64 k, .int .i64 x, .int .i64 y, .int .i64 sg, .bool ov]] w (PkPost d F P x y sg w) := by
  unfold sheetV
  obtain ⟨W, hW⟩ : ∃ W, W = (w.alloc (.cells #[.slice A d.n cp, .slice B m cq, .int .i64 d.lp, .slice L m cl, .slice R d.n cr] 64)).alloc (.cells #[.int .i64 k, .int .i64 x, .int .i64 y, .int .i64 sg, .bool ov] 28) := ⟨_, rfl⟩
  have BX := hide (show Row W w.heap.size 64 [.slice A d.n cp, .slice B m cq, .int .i64 d.lp, .slice L m cl, .slice R d.n cr] by rw [hW]; exact (Row.new w _ [_, _, _, _, _]).alloc _)
  have BM := hide (show Row W (w.heap.size + 1) 28 [.int .i64 k, .int .i64 x, .int .i64 y, .int .i64 sg, .bool ov] by rw [hW]; exact row_at (vs := [_, _, _, _, _]) (by simp))
  have B0 := hide (show Below w.heap.size w W by rw [hW]; exact ((Below.refl _ _).alloc (Nat.le_refl _) _).alloc (by simp) _)
  have HS := hide (hs.keep B0.out)
  have HM := hide hm
  have HW := hide hW
  clear hs hW hm
  go_enter Try.func84, Try.ntmps84
  go_upto_region 2 with (fail)
  rw [← HW.out]
  obtain ⟨f0, f1, f2, f3, f4, f5⟩ := box5 BX.out
  obtain ⟨m0, m1, m2, m3, m4, m5⟩ := box5 BM.out
  by_cases hx0 : 0 ≤ x <;> by_cases hy0 : 0 ≤ y
  · obtain ⟨a, rfl⟩ := Int.eq_ofNat_of_zero_le hx0
    obtain ⟨b, rfl⟩ := Int.eq_ofNat_of_zero_le hy0
    have t1 : decide ((d.lp : Int) < 0) = false := by simp
    have HN := hide (show ∀ a b : Nat, needP (a : Int) (b : Int) sg = 0 from fun a b => by unfold needP; rw [if_neg (by omega), if_neg (by omega)])
    by_cases hab : a = b
    · subst hab
      go_wp2
      all_goals
        go_ret
        refine ⟨ret_int ?_, B0.out⟩
        unfold pkC
        rw [HN.out, if_neg (by omega), if_neg (by simp)]
        first | rw [if_pos (by omega)] | rw [if_neg (by omega)]
    · have t2 : ((a : Int) != (b : Int)) = true := by rw [bne_iff_ne]; omega
      go_wp2_with fail
      refine (near_any d F P A B L R cp cq cl cr m a b _ HM.out HS.out hn (by omega) (by omega)).mono ?_
      rintro e w1 ⟨rfl, hb1⟩
      have B1 := hide (B0.out.trans (hb1.mono B0.out.size))
      obtain ⟨q0, q1, q2, q3, q4, q5⟩ := box5 (BX.out.below hb1)
      clear hb1
      cases hnb : nearB F P d a b with
      | true =>
        have HNB := hide hnb
        clear hnb
        go_wp2
        all_goals
          go_ret
          refine ⟨ret_int ?_, B1.out⟩
          unfold pkC
          rw [HN.out, if_neg (by omega), if_neg (by simp [HNB.out])]
          first | rw [if_pos (by omega)] | rw [if_neg (by omega)]
      | false =>
        have HNB := hide hnb
        clear hnb
        go_wp2
        all_goals
          go_ret
          refine ⟨ret_int ?_, B1.out⟩
          unfold pkC
          rw [HN.out, if_neg (by omega), if_pos ⟨by omega, by omega, by omega, by simpa using HNB.out⟩]
  all_goals
    by_cases hs0 : sg = 0
    all_goals
      go_wp2
      all_goals
        go_ret
        refine ⟨ret_int ?_, B0.out⟩
        unfold pkC needP
        simp only [ne_eq, beq_iff_eq, beq_eq_false_iff_ne, and_true] at *
        repeat' split
        all_goals omega
end Go.Proofs.Ytobbepmlmbbamaa
end
