/-
  The texts Yc, Yd, Ye, Yf in one.
-/
import Derived.Test.YtobbepmlmbbamaaYab
import Derived.Test.YtobbepmlmbbamaaXy
set_option linter.unusedVariables false
set_option linter.unusedSimpArgs false

section
/-
  Walks: choices, Choose.
-/
namespace Go.Proofs.Ytobbepmlmbbamaa
open Go Go.RowKit
attribute [local go_sem ↓] Go.wp_at_zero Go.wp_at_succ

/-- The choices of a walk at a valid diagram. -/
noncomputable def chL (d : Pl.Dg) (most : Int) : List Mv := keepM d.n most (allL d)
theorem chL_le {d : Pl.Dg} (hn : d.n ≤ 64) (most : Int) : (chL d most).length ≤ 500000 := by
  have a := allL_le hn
  have b := List.length_filter_le (fun z => !dels d.n most z) (allL d)
  unfold chL keepM
  omega
set_option maxRecDepth 100000 in
set_option maxHeartbeats 4000000 in
theorem choices_any (d : Pl.Dg) (hd : Pl.Valid d) (A B : Option Addr) (cp cq m : Nat) (most : Int) (w : World) (hm : m = 4 * d.n) (hg : DgAt w A B d) :
    Calls Try.prog 40 #[.agg #[.slice A d.n cp, .slice B m cq, .int .i64 d.lp], .int .i64 most] w fun e w' => ∃ v, e = .returned v ∧ MovesIn w.heap.size w' v (chL d most) ∧ Below w.heap.size w w' := by
  have HM := hide hm
  have HG := hide hg
  have hn := hd.wf.few
  clear hm hg
  have b3 : Below w.heap.size w (((w.alloc (.cells #[.slice A d.n cp, .slice B m cq, .int .i64 (d.lp : Int)] 24)).alloc (.cells #[.int .i64 most] 3)).alloc (.cells #[.int .i64 (d.n : Int)] 3)) := (((Below.refl _ _).alloc (Nat.le_refl _) _).alloc (by simp) _).alloc (by simp; omega) _
  have R0 := hide (((row_at (W := w) (g := w.heap.size) (t := 24) (vs := [.slice A d.n cp, .slice B m cq, .int .i64 (d.lp : Int)]) rfl).alloc (.cells #[.int .i64 most] 3)).alloc (.cells #[.int .i64 (d.n : Int)] 3))
  have C0 := hide (show CB (((w.alloc (.cells #[.slice A d.n cp, .slice B m cq, .int .i64 (d.lp : Int)] 24)).alloc (.cells #[.int .i64 most] 3)).alloc (.cells #[.int .i64 (d.n : Int)] 3)) (w.heap.size + 1 + 1) (w.heap.size + 1) d.n most from
    ⟨row_at (vs := [_]) (by simp), (row_at (vs := [_]) (by simp)).alloc _⟩)
  have B0 := hide b3
  clear b3
  go_enter Try.func40, Try.ntmps40
  go_wp2_with fail
  refine (All_any d hd A B cp cq m _ HM.out (HG.out.keep B0.out)).mono ?_
  rintro e w1 ⟨v, rfl, ⟨b, hb, hb2, own⟩, hb1⟩
  have C1 := hide (C0.out.below hb1)
  have B1 := hide (B0.out.trans (hb1.mono B0.out.size))
  have hbig : w.heap.size + 1 + 1 < (((w.alloc (.cells #[.slice A d.n cp, .slice B m cq, .int .i64 (d.lp : Int)] 24)).alloc (.cells #[.int .i64 most] 3)).alloc (.cells #[.int .i64 (d.n : Int)] 3)).heap.size := C0.out.n.lt
  have hs := hb1.size
  have k1 : w.heap.size ≤ b := by omega
  have k2 : w.heap.size ≤ w1.heap.size := by omega
  have k3 : w.heap.size + 1 + 1 < b := by omega
  have k4 : w.heap.size + 1 < b := by omega
  obtain ⟨A5, c5, rfl⟩ := owns_slice own
  have OWN := hide own
  have lal := allL_le hn
  obtain ⟨N5, hN5⟩ : ∃ n, n = (allL d).length := ⟨_, rfl⟩
  have O1 := OWN.out
  rw [← hN5] at O1 lal ⊢
  have OWN1 := hide O1
  have HN5 := hide hN5
  clear hb1 hbig hs R0 C0 B0 O1 OWN own hN5 hb
  go_wp2_with fail
  refine (delete_any (allL d) A5 c5 (w.heap.size + 1 + 1) (w.heap.size + 1) d.n N5 w.heap.size b most w1 OWN1.out HN5.out C1.out hn (by omega) k1 k2 k3 k4).mono ?_
  rintro e w2 ⟨v, rfl, own2, hb2'⟩
  have O2 := hide own2
  have B2 := hide (B1.out.trans hb2')
  have S2 := hide (show b ≤ w2.heap.size from by have := hb2'.size; have := HN5.out; exact Nat.le_trans hb2 (by have := hb2'.size; omega))
  clear own2 hb2'
  go_wp2
  go_ret
  exact ⟨_, rfl, ⟨b, k1, S2.out, O2.out⟩, B2.out⟩
/-- The number of a choice. -/
def chI (c : Int) (n : Nat) : Nat := ((c.tmod n + n).tmod n).toNat
theorem chI_v {c : Int} {n : Nat} (hn : 0 < n) : -(n : Int) < c.tmod n ∧ c.tmod n < n ∧ (c.tmod n + n).tmod n = (chI c n : Int) ∧ chI c n < n := by
  have h1 : -(n : Int) < c.tmod n := by
    have e := Int.neg_tmod c (n : Int)
    have := Int.tmod_lt_of_pos (-c) (show (0 : Int) < n by omega)
    omega
  have h2 : c.tmod n < n := Int.tmod_lt_of_pos c (by omega)
  have h3 : 0 ≤ (c.tmod n + n).tmod n := Int.tmod_nonneg _ (by omega)
  have h4 : (c.tmod n + n).tmod n < n := Int.tmod_lt_of_pos _ (by omega)
  unfold chI
  omega
def ChPost (L : List Mv) (c : Int) (w : World) (e : Ending) (w' : World) : Prop :=
  (L = [] → e = .returned (.tuple #[nilM, .bool false])) ∧ (∀ z, L[chI c L.length]? = some z → e = .returned (.tuple #[z.v, .bool true])) ∧ Below w.heap.size w w'
theorem ChPost.split {L : List Mv} {c : Int} {w w' : World} {e : Ending} (h : ChPost L c w e w') : (L = [] ∧ e = .returned (.tuple #[.agg #[.int .i64 0, .int .i64 0, .int .i64 0, .int .i64 0, .bool false], .bool false]) ∧ Below w.heap.size w w') ∨ ∃ k x y s o, L[chI c L.length]? = some ⟨k, x, y, s, o⟩ ∧ e = .returned (.tuple #[.agg #[.int .i64 k, .int .i64 x, .int .i64 y, .int .i64 s, .bool o], .bool true]) ∧ Below w.heap.size w w' := by
  rcases Nat.eq_zero_or_pos L.length with h0 | h0
  · have := List.eq_nil_of_length_eq_zero h0
    exact .inl ⟨this, h.1 this, h.2.2⟩
  · obtain ⟨z, hz⟩ : ∃ z, L[chI c L.length]? = some z := ⟨_, List.getElem?_eq_getElem (chI_v h0).2.2.2⟩
    obtain ⟨k, x, y, s, o⟩ := z
    exact .inr ⟨k, x, y, s, o, hz, h.2.1 _ hz, h.2.2⟩
set_option maxRecDepth 100000 in
set_option maxHeartbeats 4000000 in
theorem Choose_any (d : Pl.Dg) (hd : Pl.Valid d) (A B : Option Addr) (cp cq m : Nat) (c most : Int) (w : World) (hm : m = 4 * d.n) (hg : DgAt w A B d) :
    Calls Try.prog 16 #[.agg #[.slice A d.n cp, .slice B m cq, .int .i64 d.lp], .int .i64 c, .int .i64 most] w (ChPost (chL d most) c w) := by
  have HM := hide hm
  have HG := hide hg
  have hn := hd.wf.few
  clear hm hg
  have R0 := hide ((row_at (W := w) (g := w.heap.size) (t := 24) (vs := [.slice A d.n cp, .slice B m cq, .int .i64 (d.lp : Int)]) rfl).alloc (.cells #[.int .i64 0, .int .i64 0, .int .i64 0, .int .i64 0, .bool false] 28))
  have M0 := hide (row_at (W := w.alloc (.cells #[.slice A d.n cp, .slice B m cq, .int .i64 (d.lp : Int)] 24)) (g := w.heap.size + 1) (t := 28) (vs := [.int .i64 0, .int .i64 0, .int .i64 0, .int .i64 0, .bool false]) (by simp))
  have B0 := hide (show Below w.heap.size w ((w.alloc (.cells #[.slice A d.n cp, .slice B m cq, .int .i64 (d.lp : Int)] 24)).alloc (.cells #[.int .i64 0, .int .i64 0, .int .i64 0, .int .i64 0, .bool false] 28)) from ((Below.refl _ _).alloc (Nat.le_refl _) _).alloc (by simp) _)
  go_enter Try.func16, Try.ntmps16
  go_wp2_with fail
  refine (choices_any d hd A B cp cq m most _ HM.out (HG.out.keep B0.out)).mono ?_
  rintro e w1 ⟨v, rfl, hv, hb1⟩
  have M1 := hide (M0.out.below hb1)
  have B1 := hide (B0.out.trans (hb1.mono B0.out.size))
  obtain ⟨A5, c5, rfl, hV⟩ := hv.at.mv
  have lch := chL_le hn most
  obtain ⟨L, hL⟩ : ∃ L, L = chL d most := ⟨_, rfl⟩
  rw [← hL] at hV lch ⊢
  obtain ⟨N5, hN5⟩ : ∃ n, n = L.length := ⟨_, rfl⟩
  rw [← hN5] at hV lch ⊢
  have HL := hide hL
  have HN5 := hide hN5
  have HV := hide hV
  obtain ⟨m0, m1, m2, m3, m4, m5⟩ := box5 M1.out
  clear hV hv hL hN5 hb1 R0 M0 B0
  by_cases h0 : N5 = 0
  · subst h0
    have E := hide (show L = [] from List.eq_nil_of_length_eq_zero HN5.out.symm)
    go_wp2
    refine bodyPost_ret (v := .tuple #[nilM, .bool false]) ?_ rfl ?_
    · obtain ⟨e0, e1, e2, e3, e4, e5⟩ := box5 (row5 M1.out rfl (.int .i64 0) (.int .i64 0) (.int .i64 0) (.int .i64 0) (.bool false))
      unfold nilM
      simp [results, Try.results16, go_sem, e0, e1, e2, e3, e4]
    · rw [← HL.out]
      refine ⟨fun _ => rfl, fun z hz => ?_, ?_⟩
      · rw [E.out] at hz; cases hz
      · exact ((((B1.out.setCell (by show w.heap.size ≤ w.heap.size + 1; omega) _).setCell (by show w.heap.size ≤ w.heap.size + 1; omega) _).setCell (by show w.heap.size ≤ w.heap.size + 1; omega) _).setCell (by show w.heap.size ≤ w.heap.size + 1; omega) _).setCell (by show w.heap.size ≤ w.heap.size + 1; omega) _
  · obtain ⟨i1, i2, i3, i4⟩ := chI_v (c := c) (n := N5) (by omega)
    obtain ⟨r, hr⟩ : ∃ r, r = c.tmod (N5 : Int) := ⟨_, rfl⟩
    rw [← hr] at i1 i2 i3
    obtain ⟨i, hi⟩ : ∃ i, i = chI c N5 := ⟨_, rfl⟩
    rw [← hi] at i3 i4
    have HI := hide hi
    have n0 : (N5 : Int) ≠ 0 := by omega
    have hr2 : c.tmod (N5 : Int) = r := hr.symm
    have k0 : (0 : Int) ≤ (i : Int) := by omega
    have k1 : (i : Int) < (N5 : Int) := by omega
    have k2 : 0 ≤ r + (N5 : Int) := by omega
    have k3 : r + (N5 : Int) ≤ 1000000 := by omega
    obtain ⟨g5, zk, zx, zy, zs, zo, rfl, hgl, hz, c0, c1, c2, c3, c4⟩ := HV.out.at_ i4
    have HZ := hide hz
    have hw1 : w.heap.size + 1 < w1.heap.size := M1.out.lt
    clear hi hr hz h0
    go_wp2
    refine bodyPost_ret (v := .tuple #[.agg #[.int .i64 zk, .int .i64 zx, .int .i64 zy, .int .i64 zs, .bool zo], .bool true]) ?_ rfl ?_
    · obtain ⟨e0, e1, e2, e3, e4, e5⟩ := box5 (row5 M1.out rfl (.int .i64 zk) (.int .i64 zx) (.int .i64 zy) (.int .i64 zs) (.bool zo))
      simp [results, Try.results16, go_sem, e0, e1, e2, e3, e4]
    · rw [← HL.out]
      refine ⟨fun h => ?_, fun z hz => ?_, ?_⟩
      · rw [h] at HZ; cases HZ.out
      · rw [← HN5.out, ← HI.out, HZ.out] at hz
        obtain rfl := Option.some.inj hz
        rfl
      · exact ((((B1.out.setCell (by show w.heap.size ≤ w.heap.size + 1; omega) _).setCell (by show w.heap.size ≤ w.heap.size + 1; omega) _).setCell (by show w.heap.size ≤ w.heap.size + 1; omega) _).setCell (by show w.heap.size ≤ w.heap.size + 1; omega) _).setCell (by show w.heap.size ≤ w.heap.size + 1; omega) _
end Go.Proofs.Ytobbepmlmbbamaa
end

section
/-
  Walks: Clone of every diagram, Equal of equal ones; the example of the chapter on walks.
-/
namespace Go.Proofs.Ytobbepmlmbbamaa
open Go Go.RowKit
attribute [local go_sem ↓] Go.wp_at_zero Go.wp_at_succ

theorem cl0 (A : Option Addr) (c : Nat) (w : World) : Calls Try.prog 116 #[.slice A 0 c] w fun e w' => ∃ (A' : Option Addr) (c' : Nat), e = .returned (.slice A' 0 c') ∧ Below w.heap.size w w' := by
  cases A with
  | none =>
    refine (Try.slices_Clone_int_nil 0 c w).mono ?_
    rintro e w' ⟨rfl, rfl⟩
    exact ⟨none, 0, rfl, Below.refl _ _⟩
  | some a =>
    refine (Try.slices_Clone_int_zero a c w).mono ?_
    rintro e w' ⟨v, rfl, own, _, hb⟩
    obtain ⟨A', c', rfl⟩ := owns_slice own
    exact ⟨A', c', rfl, hb⟩
set_option maxRecDepth 100000 in
set_option maxHeartbeats 2000000 in
theorem clone_zero (A B : Option Addr) (cp cq : Nat) (lp : Int) (w : World) :
    Calls Try.prog 72 #[.agg #[.slice A 0 cp, .slice B 0 cq, .int .i64 lp]] w fun e w' => ∃ (A9 B9 : Option Addr) (c8 c9 : Nat), e = .returned (.agg #[.slice A9 0 c8, .slice B9 0 c9, .int .i64 lp]) ∧ Below w.heap.size w w' := by
  have HGS := hide (GS.start w (.slice A 0 cp) (.slice B 0 cq) (.int .i64 lp) (.slice none 0 0) (.slice none 0 0) (.int .i64 0))
  go_enter Try.func72, Try.ntmps72
  go_wp2_with fail
  obtain ⟨V0, hV0⟩ : ∃ V : World, V = (w.alloc (.cells #[.slice A 0 cp, .slice B 0 cq, .int .i64 lp] 24)).alloc (.cells #[.slice none 0 0, .slice none 0 0, .int .i64 0] 24) := ⟨_, rfl⟩
  rw [← hV0] at HGS ⊢
  have hv0 : w.heap.size + 2 ≤ V0.heap.size := by rw [hV0]; simp
  clear hV0
  obtain ⟨c0, c1, c2, c3, c4, c5, c6, _⟩ := HGS.out.all
  go_region_held3 (fun w' => w'.cell? ⟨w.heap.size, 0, none⟩ = some (.slice A 0 cp) ∧ w'.cell? ⟨w.heap.size, 1, none⟩ = some (.slice B 0 cq) ∧ w'.cell? ⟨w.heap.size, 2, none⟩ = some (.int .i64 lp) ∧ w'.cell? ⟨w.heap.size + 1, 0, none⟩ = some (cv w' ⟨w.heap.size + 1, 0, none⟩) ∧ w'.cell? ⟨w.heap.size + 1, 1, none⟩ = some (cv w' ⟨w.heap.size + 1, 1, none⟩) ∧ w'.cell? ⟨w.heap.size + 1, 2, none⟩ = some (cv w' ⟨w.heap.size + 1, 2, none⟩) ∧ (∀ o, w'.frozen? ⟨w.heap.size + 1, o, none⟩ = false) ∧ GS w w.heap.size (.slice A 0 cp) (.slice B 0 cq) (.int .i64 lp) w')
    ((go_split_ands; refine GS.all ?_; (repeat (first | (with_reducible assumption) | (with_reducible exact HGS.out) | (with_reducible refine GS.set ?_ _ _) | (with_reducible refine GS.drew ?_) | (with_reducible refine GS.below ?_ hbb) | (with_reducible refine GS.below ?_ hba)))))
    (first
      | (have hxa := hba
         clear hxa
         go_at_call 116
         refine Calls.mono (cl0 B cq _) ?_
         rintro e wb ⟨Ab, kb, rfl, hbb⟩)
      | (go_at_call 116
         refine Calls.mono (cl0 A cp _) ?_
         rintro e wa ⟨Aa, ka, rfl, hba⟩))
  clear c0 c1 c2 c3 c4 c5 c6
  have G5 := hide ((HGS.out.drew.below hba).below hbb)
  go_wp2
  refine bodyPost_ret (v := .agg #[.slice Aa 0 ka, .slice Ab 0 kb, .int .i64 lp]) ?_ rfl ⟨Aa, Ab, ka, kb, rfl, ?_⟩
  · obtain ⟨e0, e1, e2⟩ := G5.out.fin (.slice Aa 0 ka) (.slice Ab 0 kb) (.int .i64 lp)
    simp [results, Try.results72, go_sem, e0, e1, e2]
  · exact ((G5.out.bel.setCell (by show _ ≤ w.heap.size + 1; omega) _).setCell (by show _ ≤ w.heap.size + 1; omega) _).setCell (by show _ ≤ w.heap.size + 1; omega) _
theorem clone_all (d : Pl.Dg) (A B : Option Addr) (cp cq m : Nat) (w : World) (hm : m = 4 * d.n) (hg : DgAt w A B d) (hn : d.n ≤ 64) :
    Calls Try.prog 72 #[.agg #[.slice A d.n cp, .slice B m cq, .int .i64 d.lp]] w fun e w' => ∃ (A9 B9 : Option Addr) (c8 c9 : Nat), e = .returned (.agg #[.slice A9 d.n c8, .slice B9 m c9, .int .i64 d.lp]) ∧ DgT w' A9 B9 d ∧ Below w.heap.size w w' := by
  rcases Nat.eq_zero_or_pos d.n with h0 | h0
  · have hs := hg.s.len
    have hmm := hg.m.len
    subst hm
    rw [h0] at hs hmm
    have := clone_zero A B cp cq d.lp w
    rw [h0]
    refine this.mono ?_
    rintro e w' ⟨A9, B9, c8, c9, rfl, hb⟩
    exact ⟨A9, B9, c8, c9, rfl, ⟨⟨by rw [h0]; simpa using hs, fun h => by omega⟩, ⟨by rw [h0]; simpa using hmm, fun h => by omega⟩⟩, hb⟩
  · refine (clone_any d A B cp cq m w hm hg ⟨h0, hn⟩).mono ?_
    rintro e w' ⟨g1, c1, g2, c2, rfl, o1, o2, _, hb⟩
    exact ⟨_, _, c1, c2, rfl, ⟨own_intsT o1, by rw [← hm]; exact o2.intsT⟩, hb⟩
/-- slices.Equal of two equal rows; diagram.Equal of two equal diagrams. -/
theorem eqI (A B : Option Addr) (n c e : Nat) (xs : List Int) (w : World) (ha : IntsAt w A n xs) (hb : IntsAt w B n xs) (hn : n ≤ 100000) :
    Calls Try.prog 73 #[.slice A n c, .slice B n e] w fun r w' => r = .returned (.bool true) ∧ Below w.heap.size w w' := by
  rcases Nat.eq_zero_or_pos n with h0 | h0
  · subst h0
    refine (Try.slices_Equal_int_empty A B c 0 e w (by omega)).mono ?_
    rintro r w' ⟨rfl, rfl⟩
    exact ⟨rfl, Below.refl _ _⟩
  · have hl := ha.len
    obtain ⟨b, o, rfl, _⟩ := ha.at_ (k := 0) h0
    obtain ⟨b2, o2, rfl, _⟩ := hb.at_ (k := 0) h0
    refine (Try.slices_Equal_int b o n c b2 o2 n e xs xs w (by omega) (by omega) (by omega) (by omega) (fun j hj => ?_) (fun j hj => ?_)).mono ?_
    · obtain ⟨b', o', e1, hc⟩ := ha.at_ (k := j) (by omega)
      injection e1 with e1
      injection e1 with e1 e2
      subst e1
      subst e2
      exact hc
    · obtain ⟨b', o', e1, hc⟩ := hb.at_ (k := j) (by omega)
      injection e1 with e1
      injection e1 with e1 e2
      subst e1
      subst e2
      exact hc
    · rintro r w' ⟨rfl, q, rfl⟩
      exact ⟨by simp, below_drewN (Below.refl _ _) q⟩
set_option maxRecDepth 100000 in
set_option maxHeartbeats 2000000 in
theorem equal_yes (sg mt : List Int) (lp : Int) (A B A2 B2 : Option Addr) (n q cp cq cp2 cq2 : Nat) (w : World) (hs : IntsAt w A n sg) (hm : IntsAt w B q mt) (hs2 : IntsAt w A2 n sg) (hm2 : IntsAt w B2 q mt) (hn : n ≤ 100000) (hq : q ≤ 100000) :
    Calls Try.prog 39 #[.agg #[.slice A n cp, .slice B q cq, .int .i64 lp], .agg #[.slice A2 n cp2, .slice B2 q cq2, .int .i64 lp]] w fun e w' => e = .returned (.bool true) ∧ Below w.heap.size w w' := by
  have HS := hide hs
  have HM := hide hm
  have HS2 := hide hs2
  have HM2 := hide hm2
  clear hs hm hs2 hm2
  have R0 := hide ((row_at (W := w) (g := w.heap.size) (t := 24) (vs := [.slice A n cp, .slice B q cq, .int .i64 lp]) rfl).alloc (.cells #[.slice A2 n cp2, .slice B2 q cq2, .int .i64 lp] 24))
  have R1 := hide (row_at (W := w.alloc (.cells #[.slice A n cp, .slice B q cq, .int .i64 lp] 24)) (g := w.heap.size + 1) (t := 24) (vs := [.slice A2 n cp2, .slice B2 q cq2, .int .i64 lp]) (by simp))
  have B0 := hide (show Below w.heap.size w ((w.alloc (.cells #[.slice A n cp, .slice B q cq, .int .i64 lp] 24)).alloc (.cells #[.slice A2 n cp2, .slice B2 q cq2, .int .i64 lp] 24)) from ((Below.refl _ _).alloc (Nat.le_refl _) _).alloc (by simp) _)
  go_enter Try.func39, Try.ntmps39
  go_wp2_with fail
  refine (eqI A A2 n cp cp2 sg _ (HS.out.keep B0.out) (HS2.out.keep B0.out) hn).mono ?_
  rintro e w1 ⟨rfl, hb1⟩
  have S0 := hide (R0.out.below hb1)
  have S1 := hide (R1.out.below hb1)
  have B1 := hide (B0.out.trans (hb1.mono B0.out.size))
  clear hb1 R0 R1 B0
  obtain ⟨d0, d1, d2, d3⟩ := box3 S0.out
  obtain ⟨e0, e1, e2, e3⟩ := box3 S1.out
  go_wp2_with fail
  refine (eqI B B2 q cq cq2 mt _ (HM.out.keep B1.out) (HM2.out.keep B1.out) hq).mono ?_
  rintro e w2 ⟨rfl, hb2⟩
  have T0 := hide (S0.out.below hb2)
  have T1 := hide (S1.out.below hb2)
  have B2' := hide (B1.out.trans (hb2.mono B1.out.size))
  clear hb2 S0 S1 B1 d0 d1 d2 d3 e0 e1 e2 e3
  obtain ⟨d0, d1, d2, d3⟩ := box3 T0.out
  obtain ⟨e0, e1, e2, e3⟩ := box3 T1.out
  go_wp2
  go_ret
  exact ⟨rfl, B2'.out⟩
end Go.Proofs.Ytobbepmlmbbamaa
end

section
/-
  Walks: the example of the chapter on walks; the limits of the statements; Walk where there is no choice.
-/
namespace Go.Proofs.Ytobbepmlmbbamaa
open Go Go.RowKit
attribute [local go_sem ↓] Go.wp_at_zero Go.wp_at_succ

/-- The loop of the example. -/
def lone : Pl.Dg := ⟨[], [], 1⟩
theorem lone_all : allL lone = [⟨1, -1, 0, -1, false⟩, ⟨1, -1, 0, -1, true⟩, ⟨1, -1, 0, 1, false⟩, ⟨1, -1, 0, 1, true⟩] ++ sel lone (pkNX 0 2) := by
  have e : sel lone (cuC 1) = [⟨1, -1, 0, -1, false⟩, ⟨1, -1, 0, -1, true⟩, ⟨1, -1, 0, 1, false⟩, ⟨1, -1, 0, 1, true⟩] := by
    rw [← cu_sel lone 1 (by decide)]
    rfl
  show sel lone (cuC 1) ++ sel lone [] ++ sel lone (pkNX 0 2) ++ sel lone [] ++ [] = _
  rw [e]
  simp [sel_nil]
theorem lone_one : chL lone 1 = [⟨1, -1, 0, -1, false⟩, ⟨1, -1, 0, -1, true⟩, ⟨1, -1, 0, 1, false⟩, ⟨1, -1, 0, 1, true⟩] := by
  unfold chL keepM
  rw [lone_all, List.filter_append, filter_none (p := fun z => !dels lone.n 1 z) (l := sel lone (pkNX 0 2)) (fun z hz => by
    have hk := pkNX_kind (mem_sel.1 hz).1
    unfold dels
    rw [hk]
    rfl)]
  rfl
theorem lone_zero : chL lone 0 = [] := by
  unfold chL keepM
  rw [lone_all, List.filter_append, filter_none (p := fun z => !dels lone.n 0 z) (l := sel lone (pkNX 0 2)) (fun z hz => by
    have hk := pkNX_kind (mem_sel.1 hz).1
    unfold dels
    rw [hk]
    rfl)]
  rfl
theorem lone_valid : Pl.Valid lone := valid_empty (by decide)
set_option maxRecDepth 100000 in
set_option maxHeartbeats 4000000 in
theorem awake11 (w : World) : Calls Try.prog 14 #[] w fun e w' => e = .returned (.bool true) ∧ Below w.heap.size w w' := by
  have R0 := hide (row_at (W := w) (g := w.heap.size) (t := 24) (vs := [.slice none 0 0, .slice none 0 0, .int .i64 1]) rfl)
  have B0 := hide (show Below w.heap.size w (w.alloc (.cells #[.slice none 0 0, .slice none 0 0, .int .i64 1] 24)) from (Below.refl _ _).alloc (Nat.le_refl _) _)
  go_enter Try.func14, Try.ntmps14
  go_wp2_with fail
  refine (Choose_any lone lone_valid none none 0 0 0 5 1 _ rfl (none_at _ 1)).mono ?_
  intro e w1 h1
  rw [lone_one] at h1
  have e1 := h1.2.1 ⟨1, -1, 0, -1, true⟩ rfl
  unfold Mv.v at e1
  subst e1
  have R1 := hide (R0.out.below h1.2.2)
  have B1 := hide (B0.out.trans (h1.2.2.mono B0.out.size))
  clear h1 R0 B0
  obtain ⟨d0, d1, d2, d3⟩ := box3 R1.out
  have M1 := hide (row_at (W := w1) (g := w1.heap.size) (t := 28) (vs := [.int .i64 1, .int .i64 (-1), .int .i64 0, .int .i64 (-1), .bool true]) rfl)
  have R2 := hide (R1.out.alloc (.cells #[.int .i64 1, .int .i64 (-1), .int .i64 0, .int .i64 (-1), .bool true] 28))
  have B2 := hide (B1.out.alloc B1.out.size (.cells #[.int .i64 1, .int .i64 (-1), .int .i64 0, .int .i64 (-1), .bool true] 28))
  have hw1 : w.heap.size < w1.heap.size := R1.out.lt
  go_wp2_with fail
  refine (Choose_any lone lone_valid none none 0 0 0 5 0 _ rfl (none_at _ 1)).mono ?_
  intro e w3 h3
  rw [lone_zero] at h3
  have e3 := h3.1 rfl
  unfold nilM at e3
  subst e3
  have M3 := hide (M1.out.below h3.2.2)
  have B3 := hide (B2.out.trans (h3.2.2.mono B2.out.size))
  have hw3 : w1.heap.size < w3.heap.size := M3.out.lt
  clear h3 R1 R2 B1 B2 M1 d0 d1 d2 d3
  obtain ⟨m0, m1, m2, m3, m4, m5⟩ := box5 M3.out
  go_wp2
  go_ret
  exact ⟨rfl, B3.out.alloc B3.out.size _⟩
/-- great. -/
def grt (n q : Nat) (lp : Int) : Bool := decide (4 < n) || decide (20 < q) || (decide (4 < lp) && decide (lp ≤ 64))
set_option maxRecDepth 100000 in
set_option maxHeartbeats 4000000 in
theorem great_any (A B : Option Addr) (n q cp cq : Nat) (lp : Int) (w : World) : Calls Try.prog 15 #[.agg #[.slice A n cp, .slice B q cq, .int .i64 lp]] w fun e w' => e = .returned (.bool (grt n q lp)) ∧ Below w.heap.size w w' := by
  have B0 := hide (show Below w.heap.size w (w.alloc (.cells #[.slice A n cp, .slice B q cq, .int .i64 lp] 24)) from (Below.refl _ _).alloc (Nat.le_refl _) _)
  by_cases h1 : (4 : Int) < (n : Int)
  · have E := hide (show grt n q lp = true by unfold grt; rw [decide_eq_true (show 4 < n by omega)]; rfl)
    go_enter Try.func15, Try.ntmps15
    go_wp2
    go_ret
    exact ⟨by rw [E.out]; rfl, B0.out⟩
  · by_cases h2 : (20 : Int) < (q : Int)
    · have E := hide (show grt n q lp = true by unfold grt; rw [decide_eq_false (show ¬ 4 < n by omega), decide_eq_true (show 20 < q by omega)]; rfl)
      go_enter Try.func15, Try.ntmps15
      go_wp2
      go_ret
      exact ⟨by rw [E.out]; rfl, B0.out⟩
    · by_cases h3 : 4 < lp
      · by_cases h4 : lp ≤ 64
        · have E := hide (show grt n q lp = true by unfold grt; rw [decide_eq_false (show ¬ 4 < n by omega), decide_eq_false (show ¬ 20 < q by omega), decide_eq_true h3, decide_eq_true h4]; rfl)
          go_enter Try.func15, Try.ntmps15
          go_wp2
          go_ret
          exact ⟨by rw [E.out]; rfl, B0.out⟩
        · have E := hide (show grt n q lp = false by unfold grt; rw [decide_eq_false (show ¬ 4 < n by omega), decide_eq_false (show ¬ 20 < q by omega), decide_eq_true h3, decide_eq_false h4]; rfl)
          go_enter Try.func15, Try.ntmps15
          go_wp2
          go_ret
          exact ⟨by rw [E.out]; rfl, B0.out⟩
      · have E := hide (show grt n q lp = false by unfold grt; rw [decide_eq_false (show ¬ 4 < n by omega), decide_eq_false (show ¬ 20 < q by omega), decide_eq_false h3]; rfl)
        go_enter Try.func15, Try.ntmps15
        go_wp2
        go_ret
        exact ⟨by rw [E.out]; rfl, B0.out⟩
end Go.Proofs.Ytobbepmlmbbamaa
end

section
/-
  Walks: Walk where there is no choice.
-/
namespace Go.Proofs.Ytobbepmlmbbamaa
open Go Go.RowKit
attribute [local go_sem ↓] Go.wp_at_zero Go.wp_at_succ

theorem row3 {W : World} {g : Nat} {t : TypeId} {vs : List Value} (h : Row W g t vs) (l : vs.length = 3) (y0 y1 y2 : Value) :
    Row (((W.setCell ⟨g, 0, none⟩ y0).setCell ⟨g, 1, none⟩ y1).setCell ⟨g, 2, none⟩ y2) g t [y0, y1, y2] := by
  obtain ⟨a, b, c, rfl⟩ : ∃ a b c, vs = [a, b, c] := by
    match vs, l with
    | [a, b, c], _ => exact ⟨a, b, c, rfl⟩
  exact ((h.set 0 y0).set 1 y1).set 2 y2
def set3 (W : World) (g : Nat) (y0 y1 y2 : Value) : World := ((W.setCell ⟨g, 0, none⟩ y0).setCell ⟨g, 1, none⟩ y1).setCell ⟨g, 2, none⟩ y2
theorem DgT.set3 {W : World} {A B : Option Addr} {d : Pl.Dg} {g : Nat} {vs : List Value} (h : DgT W A B d) (hr : Row W g 24 vs) (y0 y1 y2 : Value) : DgT (((W.setCell ⟨g, 0, none⟩ y0).setCell ⟨g, 1, none⟩ y1).setCell ⟨g, 2, none⟩ y2) A B d :=
  ((h.store hr (by decide) y0).store (hr.set 0 y0) (by decide) y1).store ((hr.set 0 y0).set 1 y1) (by decide) y2
theorem below3 {w W : World} {g : Nat} (h : Below w.heap.size w W) (hg : w.heap.size ≤ g) (y0 y1 y2 : Value) : Below w.heap.size w (((W.setCell ⟨g, 0, none⟩ y0).setCell ⟨g, 1, none⟩ y1).setCell ⟨g, 2, none⟩ y2) :=
  ((h.setCell (by show _ ≤ g; exact hg) y0).setCell (by show _ ≤ g; exact hg) y1).setCell (by show _ ≤ g; exact hg) y2
/-- A copy of the diagram, no moves, no error. -/
def StayPost (d : Pl.Dg) (m : Nat) (w : World) (e : Ending) (w' : World) : Prop := ∃ (A9 B9 : Option Addr) (c8 c9 : Nat), e = .returned (.tuple #[.agg #[.slice A9 d.n c8, .slice B9 m c9, .int .i64 d.lp], .slice none 0 0, .int .i64 0]) ∧ DgT w' A9 B9 d ∧ Below w.heap.size w w'
set_option maxRecDepth 100000 in
set_option maxHeartbeats 8000000 in
theorem walk_stays (d : Pl.Dg) (hd : Pl.Valid d) (A B C : Option Addr) (cp cq m nc cc : Nat) (cs : List Int) (most : Int) (w : World) (hm : m = 4 * d.n) (hg : DgAt w A B d) (hc : IntsAt w C nc cs) (hnc : nc ≤ 10000) (hno : chL d most = []) :
    Calls Try.prog 38 #[.agg #[.slice A d.n cp, .slice B m cq, .int .i64 d.lp], .slice C nc cc, .int .i64 most] w (StayPost d m w) := by
  have HM := hide hm
  have HG := hide hg
  have HCS := hide hc
  have HNO := hide hno
  have hn := hd.wf.few
  clear hm hg hc hno
  have R0 := hide ((row_at (W := w) (g := w.heap.size) (t := 24) (vs := [.slice A d.n cp, .slice B m cq, .int .i64 (d.lp : Int)]) rfl).alloc (.cells #[.slice none 0 0, .slice none 0 0, .int .i64 0] 24))
  have S0 := hide (row_at (W := w.alloc (.cells #[.slice A d.n cp, .slice B m cq, .int .i64 (d.lp : Int)] 24)) (g := w.heap.size + 1) (t := 24) (vs := [.slice none 0 0, .slice none 0 0, .int .i64 0]) (by simp))
  have B0 := hide (show Below w.heap.size w ((w.alloc (.cells #[.slice A d.n cp, .slice B m cq, .int .i64 (d.lp : Int)] 24)).alloc (.cells #[.slice none 0 0, .slice none 0 0, .int .i64 0] 24)) from ((Below.refl _ _).alloc (Nat.le_refl _) _).alloc (by simp) _)
  go_enter Try.func38, Try.ntmps38
  go_wp2_with fail
  refine (valid_yes d hd A B cp cq m _ HM.out (HG.out.keep B0.out)).mono ?_
  rintro e w1 ⟨rfl, hb1⟩
  have R1 := hide (R0.out.below hb1)
  have S1 := hide (S0.out.below hb1)
  have B1 := hide (B0.out.trans (hb1.mono B0.out.size))
  clear hb1 R0 S0 B0
  obtain ⟨d0, d1, d2, d3⟩ := box3 R1.out
  have hnc1 : ¬ ((10000 : Int) < (nc : Int)) := by omega
  go_wp2_with fail
  refine (clone_all d A B cp cq m _ HM.out (HG.out.keep B1.out) hn).mono ?_
  rintro e w2 ⟨A9, B9, c8, c9, rfl, hT, hb2⟩
  have S2 := hide ((S1.out.below hb2).alloc (.cells #[.slice A9 d.n c8, .slice B9 m c9, .int .i64 (d.lp : Int)] 24))
  have AT2 := hide (row_at (W := w2) (g := w2.heap.size) (t := 24) (vs := [.slice A9 d.n c8, .slice B9 m c9, .int .i64 (d.lp : Int)]) rfl)
  have B2 := hide ((B1.out.trans (hb2.mono B1.out.size)).alloc (B1.out.trans (hb2.mono B1.out.size)).size (.cells #[.slice A9 d.n c8, .slice B9 m c9, .int .i64 (d.lp : Int)] 24))
  have T2 := hide (hT.keep ((Below.refl w2.heap.size w2).alloc (Nat.le_refl _) (.cells #[.slice A9 d.n c8, .slice B9 m c9, .int .i64 (d.lp : Int)] 24)))
  have hw2 : w.heap.size + 1 < w2.heap.size := (S1.out.below hb2).lt
  clear hb2 hT d0 d1 d2 d3 R1 S1 B1
  obtain ⟨V, hV⟩ : ∃ V, V = w2.alloc (.cells #[.slice A9 d.n c8, .slice B9 m c9, .int .i64 (d.lp : Int)] 24) := ⟨_, rfl⟩
  go_wp2
  rw [← hV] at S2 AT2 B2 T2 ⊢
  obtain ⟨ga, hga⟩ : ∃ g, g = w2.heap.size := ⟨_, rfl⟩
  rw [← hga] at AT2 hw2 ⊢
  clear hV hga
  go_loopg [10, 12, 13, 14, 15, 16, 17, 30] nc (fun g s10 s12 s13 s14 s15 s16 s17 s30 wx => ∃ k : Nat, k + g = nc ∧ s30 = .int .i64 (k : Int) ∧ s10 = .slice none 0 0 ∧ wx = V)
  case atStart => exact ⟨0, by omega, rfl, rfl, rfl⟩
  case round =>
    obtain ⟨k, hkg, rfl, rfl, rfl⟩ := hrel
    have HKG := hide hkg
    obtain ⟨d0, d1, d2, d3⟩ := box3 AT2.out
    by_cases hk : k < nc
    · have hki : (k : Int) < (nc : Int) := by omega
      have k0 : (0 : Int) ≤ (k : Int) := by omega
      obtain ⟨b, o, rfl, x1⟩ := (HCS.out.keep B2.out).at_ hk
      obtain ⟨u, hu⟩ : ∃ u, u = cs.getD k 0 := ⟨_, rfl⟩
      rw [← hu] at x1
      clear hu hkg
      go_wp2_with fail
      refine (Choose_any d hd A9 B9 c8 c9 m u most _ HM.out T2.out.at).mono ?_
      intro e w3 h3
      have e3 := h3.1 HNO.out
      unfold nilM at e3
      subst e3
      have S3 := hide (S2.out.below h3.2.2)
      have AT3 := hide (AT2.out.below h3.2.2)
      have B3 := hide (B2.out.trans (h3.2.2.mono B2.out.size))
      have T3 := hide (T2.out.keep h3.2.2)
      have hw3 : ga < w3.heap.size := (AT2.out.below h3.2.2).lt
      have hw30 : w.heap.size + 1 < w3.heap.size := by omega
      clear h3 S2 AT2 T2 x1 d0 d1 d2 d3
      obtain ⟨e0, e1, e2, e3⟩ := box3 AT3.out
      obtain ⟨f0, f1, f2, f3⟩ := box3 S3.out
      go_wp2
      have TT := T3.out.set3 S3.out (.slice A9 d.n c8) (.slice B9 m c9) (.int .i64 (d.lp : Int))
      have RR := row3 S3.out rfl (.slice A9 d.n c8) (.slice B9 m c9) (.int .i64 (d.lp : Int))
      have BB := below3 B3.out (show w.heap.size ≤ w.heap.size + 1 by omega) (.slice A9 d.n c8) (.slice B9 m c9) (.int .i64 (d.lp : Int))
      refine bodyPost_ret (v := .tuple #[.agg #[.slice A9 d.n c8, .slice B9 m c9, .int .i64 (d.lp : Int)], .slice none 0 0, .int .i64 0]) ?_ rfl ⟨A9, B9, c8, c9, rfl, TT.keep ((Below.refl _ _).alloc (Nat.le_refl _) _), BB.alloc BB.size _⟩
      obtain ⟨r0, r1, r2, r3⟩ := box3 (RR.alloc (.cells #[.int .i64 0, .int .i64 0, .int .i64 0, .int .i64 0, .bool false] 28))
      simp [results, Try.results38, go_sem, r0, r1, r2]
    · have hki : ¬ ((k : Int) < (nc : Int)) := by omega
      clear hkg
      clear d0 d1 d2 d3
      obtain ⟨e0, e1, e2, e3⟩ := box3 AT2.out
      obtain ⟨f0, f1, f2, f3⟩ := box3 S2.out
      go_wp2
      refine bodyPost_ret (v := .tuple #[.agg #[.slice A9 d.n c8, .slice B9 m c9, .int .i64 (d.lp : Int)], .slice none 0 0, .int .i64 0]) ?_ rfl ⟨A9, B9, c8, c9, rfl, T2.out.set3 S2.out _ _ _, below3 B2.out (by omega) _ _ _⟩
      obtain ⟨r0, r1, r2, r3⟩ := box3 (row3 S2.out rfl (.slice A9 d.n c8) (.slice B9 m c9) (.int .i64 (d.lp : Int)))
      simp [results, Try.results38, go_sem, r0, r1, r2]
end Go.Proofs.Ytobbepmlmbbamaa
end
