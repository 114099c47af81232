/-
  The texts Za, Zb in one.
-/
import Derived.Test.YtobbepmlmbbamaaBV33
import Derived.Test.YtobbepmlmbbamaaBAV25
import Derived.Test.YtobbepmlmbbamaaBV35
set_option linter.unusedVariables false
set_option linter.unusedSimpArgs false

section
/-
  What Apply answers: the new diagram is valid, and has as many components.
-/
namespace Go.Proofs.Ytobbepmlmbbamaa
open Go Go.RowKit

theorem apC_zero {d : Pl.Dg} {m : Mv} (h : apC d m = 0) : (1 ≤ m.kind ∧ m.kind ≤ 5) ∧ inR d.n m ∧
    (if m.kind = 1 then curlableC d m.x else if m.kind = 2 then uncC d m.x.toNat else if m.kind = 3 then pkQ d m.x m.y m.sign else if m.kind = 4 then unpC d m.x.toNat m.y.toNat else sldC d m.x.toNat) = 0 := by
  unfold apC at h
  by_cases hk : m.kind < 1 ∨ 5 < m.kind
  · rw [if_pos hk] at h; exact absurd h (by decide)
  · rw [if_neg hk] at h
    by_cases hv : Pl.vb (inR d.n m) = false
    · rw [if_pos hv] at h; exact absurd h (by decide)
    · rw [if_neg hv] at h
      exact ⟨by omega, Pl.vb_iff.1 (by simpa using hv), h⟩
/-- Curl. -/
theorem crl_ok {d : Pl.Dg} (hd : Pl.Valid d) {x s : Int} {ov : Bool} (hx : -1 ≤ x ∧ x < 4 * d.n) (hs : s = 1 ∨ s = -1) (h : curlableC d x = 0) : Pl.Valid (crl d x s ov) ∧ Pl.Same d (crl d x s ov) := by
  unfold curlableC at h
  obtain ⟨a1, a2, a3, a4, n1, n2, n3, n4, n5, n6⟩ := (kq d.n s ov hs).bd
  have hl := hd.wf.len
  by_cases hx0 : x < 0
  · rw [if_pos hx0] at h
    have hlp : ¬ d.lp = 0 := fun e => by rw [if_pos e] at h; exact absurd h (by decide)
    rw [if_neg hlp] at h
    have hn : d.n + 1 ≤ 64 := Nat.le_of_not_lt fun e => by unfold fullC at h; rw [if_pos e] at h; exact absurd h (by decide)
    have hv := crl_loop hd (x := x) (ov := ov) hs hn hx0
    have hm := crl_mloop hd.wf (x := x) (ov := ov) hs hx0
    refine ⟨hv, Pl.Kd.same0 hd hv (crl_kd hd.wf hs hn ?_ ?_) (fun h hh => ?_) ?_ ?_⟩
    · rw [hm, if_neg (Ne.symm n1), if_neg n5, if_neg n4, if_pos rfl]
    · rw [hm, if_neg (Ne.symm n2), if_neg n6, if_pos rfl]
    · rw [hm, if_neg (by omega), if_neg (by omega), if_neg (by omega), if_neg (by omega), app_m (by omega)]; rfl
    · rw [hm, if_pos rfl]
    · show d.lp = (if x < 0 then d.lp - 1 else d.lp) + 1
      rw [if_pos hx0]; omega
  · rw [if_neg hx0] at h
    obtain ⟨k, rfl⟩ := Int.eq_ofNat_of_zero_le (Int.not_lt.1 hx0)
    have hk : k < 4 * d.n := by omega
    rw [Int.toNat_natCast] at h
    by_cases ho : Pl.out d k = true
    · rw [if_pos ho] at h
      have hn : d.n + 1 ≤ 64 := Nat.le_of_not_lt fun e => by unfold fullC at h; rw [if_pos e] at h; exact absurd h (by decide)
      have hv := crl_edge hd (ov := ov) hs hn hk ho
      have hy := hd.wf.lt k hk
      have hne := hd.wf.ne k hk
      have e : (crl d (k : Int) s ov).mt = jn (jn (jn (d.mt ++ List.replicate 4 0) (kO0 d.n s ov) (kI1 d.n s ov)) (kO1 d.n s ov) (d.m k)) k (kI0 d.n s ov) := by
        unfold crl; simp only [if_neg (show ¬ ((k : Int) < 0) by omega), Int.toNat_natCast]
      have hm : ∀ z, (crl d (k : Int) s ov).m z = if z = kI0 d.n s ov then k else if z = k then kI0 d.n s ov else if z = d.m k then kO1 d.n s ov else if z = kO1 d.n s ov then d.m k else if z = kI1 d.n s ov then kO0 d.n s ov else if z = kO0 d.n s ov then kI1 d.n s ov else (d.mt ++ List.replicate 4 0).getD z z := fun z => by
        show (crl d (k : Int) s ov).mt.getD z z = _
        rw [e, jn_m _ _ _ _ _ (by rw [jn_len, jn_len]; simp; omega) (by rw [jn_len, jn_len]; simp; omega), jn_m _ _ _ _ _ (by rw [jn_len]; simp; omega) (by rw [jn_len]; simp; omega), jn_m _ _ _ _ _ (by simp; omega) (by simp; omega)]
      refine ⟨hv, Pl.Kd.same hd hv (crl_kd hd.wf hs hn ?_ ?_) hk (fun h hh h1 h2 => ?_) ?_ ?_ ?_ ?_ ?_⟩
      · rw [hm, if_neg (Ne.symm n1), if_neg (by omega), if_neg (by omega), if_neg n5, if_neg n4, if_pos rfl]
      · rw [hm, if_neg (Ne.symm n2), if_neg (by omega), if_neg (by omega), if_neg n6, if_pos rfl]
      · rw [hm, if_neg (by omega), if_neg h1, if_neg h2, if_neg (by omega), if_neg (by omega), if_neg (by omega), app_m (by omega)]; rfl
      · rw [hm, if_neg (Ne.symm n3), if_neg (by omega), if_neg (by omega), if_pos rfl]
      · rw [hm, if_neg (by omega), if_neg hne, if_pos rfl]
      · rw [hm, if_neg (by omega), if_pos rfl]
      · rw [hm, if_pos rfl]
      · show d.lp = if (k : Int) < 0 then d.lp - 1 else d.lp
        rw [if_neg (by omega)]
    · rw [if_neg ho] at h; exact absurd h (by decide)
theorem kk_div (d : Pl.Dg) (c : Nat) : kk d c / 4 = c := by unfold kk; split <;> (try split) <;> omega
theorem jn_jl (l : List Nat) (a b : Nat) : jn l a b = Pl.jl l a b := rfl
/-- Uncurl. -/
theorem unD_ok {d : Pl.Dg} (hd : Pl.Valid d) {c : Nat} (hc : c < d.n) (h : uncC d c = 0) : Pl.Valid (unD d c) ∧ Pl.Same d (unD d c) := by
  have hw := hd.wf
  have ho := kk_lt hc
  have hod := kk_div d c
  unfold uncC at h
  by_cases hk : d.m (kk d c) / 4 = c
  · rw [if_pos hk] at h
    have hk2 : d.m (kk d c) / 4 = kk d c / 4 := by rw [hod, hk]
    unfold unD unM
    by_cases hn : d.m (kA d c) = kB d c
    · rw [if_pos hn] at h
      have hl : d.lp + 1 ≤ 64 := Nat.le_of_not_lt fun e => by rw [if_pos e] at h; exact absurd h (by decide)
      rw [if_pos hn, if_pos hn]
      have v := Pl.kink_valid0 hd ho hk2 hn hl
      have s := Pl.kink_same0 hd ho hk2 hn hl rfl
      rw [hod] at v s
      exact ⟨v, s⟩
    · rw [if_neg hn, if_neg hn]
      have hA := kA_lt hc
      have hB := kB_lt hw hc
      have nAB : d.m (kA d c) ≠ d.m (kB d c) := fun e => hw.ne _ ho (Pl.tn_inj (hw.bij.inj _ _ hA hB e).symm)
      have hmt : ∀ z, z < 4 * d.n → (jn d.mt (d.m (kA d c)) (d.m (kB d c))).getD z 0 = if z = d.m (kA d c) then d.m (kB d c) else if z = d.m (kB d c) then d.m (kA d c) else d.m z := fun z hz => by
        rw [jn_jl, Pl.jl_at (by rw [hw.len]; exact hw.lt _ hA) (by rw [hw.len]; exact hw.lt _ hB), Pl.dg_m hw hz]
        by_cases z1 : z = d.m (kB d c)
        · rw [if_pos z1, if_neg (fun e => nAB (e.symm.trans z1)), if_pos z1]
        · rw [if_neg z1, if_neg z1]
      have v := Pl.kink_valid hd ho hk2 hn hw.lp hmt
      have s := Pl.kink_same hd ho hk2 hn hw.lp rfl hmt
      rw [hod] at v s
      exact ⟨v, s⟩
  · rw [if_neg hk] at h; exact absurd h (by decide)
/-- The lens that find finds. -/
theorem lens_lens {d : Pl.Dg} (hd : Pl.Wf d) {x y i : Nat} (hxy : x < y) (hy : y < d.n) (h : lensI d x y = some i) :
    Pl.Lens d (lnH x y i) (d.m (lnH x y i)) ∧ ((x = lnH x y i / 4 ∧ y = d.m (lnH x y i) / 4) ∨ (x = d.m (lnH x y i) / 4 ∧ y = lnH x y i / 4)) ∧ Pl.nx d (lnH x y i) = Pl.tn (d.m (lnH x y i)) 3 ∧ d.m (Pl.tn (d.m (lnH x y i)) 3) = Pl.tn (lnH x y i) 1 := by
  obtain ⟨h1, h2, h3⟩ := lens_is h
  have hi := lens_lt h
  have hl : lnH x y i < 4 * d.n := by unfold lnH; split <;> omega
  have hu := hd.lt _ hl
  have e1 : d.m (Pl.tn (d.m (lnH x y i)) 3) = Pl.tn (lnH x y i) 1 := by
    unfold Pl.nx at h2
    unfold Pl.tn at h2 ⊢
    omega
  have e2 : Pl.nx d (lnH x y i) / 4 = d.m (lnH x y i) / 4 := by unfold Pl.nx; rw [Pl.tn_div]
  have e3 : lnH x y i / 4 = if i < 4 then x else y := by unfold lnH; split <;> omega
  rw [e2] at h1
  unfold lnO at h1
  have hp : (x = lnH x y i / 4 ∧ y = d.m (lnH x y i) / 4) ∨ (x = d.m (lnH x y i) / 4 ∧ y = lnH x y i / 4) := by
    by_cases h4 : i < 4
    · rw [if_pos h4] at h1 e3; exact .inl ⟨e3.symm, h1.symm⟩
    · rw [if_neg h4] at h1 e3; exact .inr ⟨h1.symm, e3.symm⟩
  refine ⟨⟨hl, rfl, by rw [← e1, hd.inv _ (Pl.tn_lt hu)], fun e => ?_⟩, hp, rfl, e1⟩
  rcases hp with ⟨a, b⟩ | ⟨a, b⟩ <;> omega
theorem unp_at {d : Pl.Dg} (hd : Pl.Valid d) {h u : Nat} (L : Pl.Lens d h u) (l : Ln) (e2 : l.p2 = Pl.tn h 2) (e3 : l.p3 = Pl.tn h 3) (f0 : l.q0 = Pl.tn u 2) (f3 : l.q3 = Pl.tn u 1) :
    unpL d l = d.lp + (if d.m (Pl.tn h 2) = Pl.tn u 2 then 1 else 0) + (if Pl.lA d h u (Pl.tn h 3) = Pl.tn u 1 then 1 else 0) ∧
    ∀ z, z < 4 * d.n → z / 4 ≠ h / 4 → z / 4 ≠ u / 4 → (unpB d l).getD z 0 = Pl.lB d h u z := by
  have hw := hd.wf
  have hh := L.hh
  have hu := L.hu hw
  have A := L.la hd
  have E := L.ne
  have hA : Pl.tn h 2 < 4 * d.n := Pl.tn_lt hh
  have hB : Pl.tn u 2 < 4 * d.n := Pl.tn_lt hu
  have h3 : Pl.tn h 3 < 4 * d.n := Pl.tn_lt hh
  have u1 : Pl.tn u 1 < 4 * d.n := Pl.tn_lt hu
  have al : ∀ z, z < 4 * d.n → z ≠ Pl.tn h 2 → z ≠ Pl.tn u 2 → (unpA d l).getD z 0 = Pl.lA d h u z := fun z hz z1 z2 => by
    unfold unpA
    rw [e2, f0, Pl.dg_m hw hA, Pl.dg_m hw hB]
    by_cases c : d.m (Pl.tn h 2) = Pl.tn u 2
    · rw [if_pos c, Pl.Lens.lA_c c, Pl.dg_m hw hz]
    · rw [if_neg c, jn_jl, Pl.jl_at (by rw [hw.len]; exact hw.lt _ hA) (by rw [hw.len]; exact hw.lt _ hB), Pl.dg_m hw hz]
      obtain ⟨b1, b2, b3⟩ := L.lA_e hw c
      by_cases z4 : z = d.m (Pl.tn u 2)
      · rw [if_pos z4, z4, b2]
      · rw [if_neg z4]
        by_cases z3 : z = d.m (Pl.tn h 2)
        · rw [if_pos z3, z3, b1]
        · rw [if_neg z3, b3 z z1 z2 z3 z4]
  have alen : (unpA d l).length = 4 * d.n := by unfold unpA; split <;> simp [jn_len, hw.len]
  have a3 := al (Pl.tn h 3) h3 (Pl.tn_ne (by omega)) (Pl.pm E)
  have a1 := al (Pl.tn u 1) u1 (Ne.symm (Pl.pm E)) (Pl.tn_ne (by omega))
  constructor
  · unfold unpL
    rw [e2, f0, e3, f3, Pl.dg_m hw hA, a3]
  · intro z hz n1 n2
    have z0 : ∀ k, z ≠ Pl.tn h k := fun k e => n1 (by rw [e, Pl.tn_div])
    have z1 : ∀ k, z ≠ Pl.tn u k := fun k e => n2 (by rw [e, Pl.tn_div])
    unfold unpB
    rw [e3, f3, a3, a1]
    by_cases c : Pl.lA d h u (Pl.tn h 3) = Pl.tn u 1
    · rw [if_pos c, Pl.Lens.lB_c c, al z hz (z0 2) (z1 2)]
    · rw [if_neg c, jn_jl, Pl.jl_at (by rw [alen]; exact A.hm.ab.maps _ h3) (by rw [alen]; exact A.hm.ab.maps _ u1), al z hz (z0 2) (z1 2)]
      obtain ⟨b1, b2, b3⟩ := L.lB_e hd c
      by_cases z4 : z = Pl.lA d h u (Pl.tn u 1)
      · rw [if_pos z4, z4, b2]
      · rw [if_neg z4]
        by_cases z3 : z = Pl.lA d h u (Pl.tn h 3)
        · rw [if_pos z3, z3, b1]
        · rw [if_neg z3, b3 z (z0 3) (z1 1) z3 z4]
/-- Unpoke. -/
theorem unpD_ok {d : Pl.Dg} (hd : Pl.Valid d) {x y : Nat} (hxy : x < y) (hy : y < d.n) (h : unpC d x y = 0) : Pl.Valid (unpD d x y) ∧ Pl.Same d (unpD d x y) := by
  unfold unpC at h
  unfold unpD
  cases hL : lensI d x y with
  | none => rw [hL] at h; exact absurd (show (6 : Int) = 0 from h) (by decide)
  | some i =>
    rw [hL] at h
    have h' : (if 64 < unpL d (lensOf d (lnH x y i)) then (5 : Int) else 0) = 0 := h
    have hl : unpL d (lensOf d (lnH x y i)) ≤ 64 := Nat.le_of_not_lt fun e => by rw [if_pos e] at h'; exact absurd h' (by decide)
    obtain ⟨L, hp, e1, e2⟩ := lens_lens hd.wf hxy hy hL
    obtain ⟨g1, g2⟩ := unp_at hd L (lensOf d (lnH x y i)) rfl (by show Pl.tn (d.m (Pl.nx d (lnH x y i))) 2 = _; rw [e1, e2]; exact Pl.tn12 _) rfl (by show Pl.tn (Pl.nx d (lnH x y i)) 2 = _; rw [e1]; exact Pl.tn32 _)
    have hmt : ∀ z, Pl.stay d [x, y] z → (unpB d (lensOf d (lnH x y i))).getD z 0 = Pl.lB d (lnH x y i) (d.m (lnH x y i)) z := fun z hz => by
      have hz2 : ¬ (z / 4 = x ∨ z / 4 = y) := by have := hz.2; simpa using this
      refine g2 z hz.1 ?_ ?_ <;> rcases hp with ⟨a, b⟩ | ⟨a, b⟩ <;> omega
    exact ⟨L.valid hd hxy hp hl hmt, L.same hd hxy hp hl g1 hmt⟩
theorem sldD_ok {d : Pl.Dg} (hd : Pl.Valid d) {h : Nat} (hh : h < 4 * d.n) (hi : is3 d h) : Pl.Valid (sldD d h) ∧ Pl.Same d (sldD d h) :=
  have hw := (Pl.Valid.iff.1 hd).1
  ⟨sld_valid hd hh hi, (tr_of hh hi).same hd rfl rfl (sF_len hw h 3) (sld_m hw hh hi)⟩
end Go.Proofs.Ytobbepmlmbbamaa
end

section
/-
  What Apply answers: the new diagram is valid, and has as many components: pokes, and all moves in one.
-/
namespace Go.Proofs.Ytobbepmlmbbamaa
open Go Go.RowKit

theorem fwd_nat (d : Pl.Dg) (x : Nat) : fwd d (x : Int) = Pl.out d x := by
  unfold fwd
  rw [if_neg (by omega), if_pos (by omega), Int.toNat_natCast]
theorem plc_pp (n s t : Nat) (h : s ≤ 4) : plc n s t = Pl.pp n (4 - s) t := by unfold plc Pl.pp; omega
theorem un_le (d : Pl.Dg) (x y : Int) (ov : Bool) : un0 d x y ov ≤ 4 ∧ un1 d x y ov ≤ 4 := by
  unfold un0 un1 lnS th0 th1
  cases ov <;> cases fwd d x <;> cases fwd d y <;> decide
def pkF (d : Pl.Dg) (x y : Int) (ov : Bool) : Nat := 4 - un0 d x y ov
def pkG (d : Pl.Dg) (x y : Int) (ov : Bool) : Nat := 4 - un1 d x y ov
theorem pP_pp (d : Pl.Dg) (x y : Int) (ov : Bool) (t : Nat) : pP d x y ov t = Pl.pp d.n (pkF d x y ov) t := plc_pp _ _ _ (un_le d x y ov).1
theorem pQ_pp (d : Pl.Dg) (x y : Int) (ov : Bool) (t : Nat) : pQ d x y ov t = Pl.pp (d.n + 1) (pkG d x y ov) t := plc_pp _ _ _ (un_le d x y ov).2
theorem pk0_l0 (d : Pl.Dg) (x y : Int) (ov : Bool) : pk0 d x y ov = Pl.pkL0 d (pkF d x y ov) (pkG d x y ov) := by
  unfold pk0 Pl.pkL0
  rw [pP_pp, pQ_pp, pQ_pp, pP_pp]
  rfl
theorem app_s0 (l : List Int) (a b : Int) (c : Nat) (h : c < l.length) : (l ++ [a, b]).getD c 0 = l.getD c 0 := by
  rw [List.getD_eq_getElem?_getD, List.getD_eq_getElem?_getD, List.getElem?_append_left h]
theorem app_s1 (l : List Int) (a b : Int) : (l ++ [a, b]).getD l.length 0 = a := by
  rw [List.getD_eq_getElem?_getD, List.getElem?_append_right (Nat.le_refl _)]; simp
theorem app_s2 (l : List Int) (a b : Int) : (l ++ [a, b]).getD (l.length + 1) 0 = b := by
  rw [List.getD_eq_getElem?_getD, List.getElem?_append_right (by omega)]; simp
theorem out_pp (d : Pl.Dg) (n f t : Nat) : Pl.out d (Pl.pp n f t) = ((t + f) % 4 == 2 || ((t + f) % 4 == 1 && d.s n == 1) || ((t + f) % 4 == 3 && d.s n == -1)) := by
  unfold Pl.out
  rw [show Pl.pp n f t % 4 = (t + f) % 4 by unfold Pl.pp; omega, show Pl.pp n f t / 4 = n by unfold Pl.pp; omega]
theorem pk_pd {d : Pl.Dg} (hd : Pl.Valid d) (x y sg : Int) (ov : Bool) (hn : d.n + 2 ≤ 64) (hl : (pkL d x y sg).toNat ≤ 64) : Pl.Pd d (pkD d x y sg ov) (pkF d x y ov) (pkG d x y ov) (fwd d x) (fwd d y) := by
  have s0 : (pkD d x y sg ov).s d.n = sgn2 (un0 d x y ov) (ov0 d x y ov) := app_s1 _ _ _
  have s1 : (pkD d x y sg ov).s (d.n + 1) = sgn2 (un1 d x y ov) (ov1 d x y ov) := app_s2 _ _ _
  refine ⟨hn, by unfold Pl.Dg.n pkD; simp, hl, fun c hc => app_s0 _ _ _ _ hc, by rw [s0]; unfold sgn2; split <;> simp, by rw [s1]; unfold sgn2; split <;> simp, ?_, ?_, ?_, ?_, ?_, ?_, ?_, ?_⟩
  all_goals
    rw [out_pp]
    first
      | rw [s0]
      | rw [s1]
    try unfold pkF
    try unfold pkG
    try unfold sgn2
    try unfold un0
    try unfold un1
    try unfold ov0
    try unfold ov1
    try unfold lnS
    try unfold th0
    try unfold th1
    try unfold plc
    cases ov <;> cases fwd d x <;> cases fwd d y <;> decide
theorem pk_ok {d : Pl.Dg} (hd : Pl.Valid d) {x y sg : Int} {ov : Bool} (hin : inR d.n ⟨3, x, y, sg, ov⟩) (h : pkQ d x y sg = 0) : Pl.Valid (pkD d x y sg ov) ∧ Pl.Same d (pkD d x y sg ov) ∧
    ∃ c1 c2, Pl.Out d (pkD d x y sg ov) (pkF d x y ov) (pkG d x y ov) c1 c2 ∧ d.lp = (pkD d x y sg ov).lp + c1 + c2 := by
  have hw := hd.wf
  have hlp := hw.lp
  unfold inR at hin
  simp only at hin
  rw [if_neg (by decide), if_neg (by decide), if_neg (by decide), if_neg (by decide)] at hin
  obtain ⟨x1, x2, y1, y2, hs⟩ := hin
  unfold pkQ at h
  have hneed : ¬ d.lp < needP x y sg := fun e => by rw [if_pos e] at h; exact absurd h (by decide)
  rw [if_neg hneed] at h
  have hnear : ¬ Pl.vb (0 ≤ x ∧ 0 ≤ y ∧ x ≠ y ∧ ¬ nearP d x.toNat y.toNat) = true := fun e => by rw [if_pos e] at h; exact absurd h (by decide)
  rw [if_neg hnear] at h
  have hn : d.n + 2 ≤ 64 := Nat.le_of_not_lt fun e => by rw [if_pos e] at h; exact absurd h (by decide)
  rw [Pl.vb_iff] at hnear
  unfold needP at hneed
  have mt : (pkD d x y sg ov).mt = pkM d x y sg ov := rfl
  have lpe : (pkD d x y sg ov).lp = (pkL d x y sg).toNat := rfl
  by_cases hs0 : sg = 0
  · subst hs0
    have eM : pkM d x y 0 ov = leadM d (leadM d (pk0 d x y ov) y (pQ d x y ov 0) (pP d x y ov 2)) x (pP d x y ov 3) (pQ d x y ov 3) := by
      unfold pkM; rw [if_neg (by simp), if_neg (by decide), if_neg (by decide)]
    rw [eM, pk0_l0, pQ_pp, pP_pp, pP_pp, pQ_pp] at mt
    by_cases hx : x < 0 <;> by_cases hy : y < 0
    · rw [if_pos hx, if_pos ⟨hy, rfl⟩] at hneed
      have eL : (pkL d x y 0).toNat = d.lp - 2 := by unfold pkL; simp [hx, hy]; try omega
      have K := pk_pd hd x y 0 ov hn (by rw [eL]; omega)
      have mt' := mt
      unfold leadM at mt'
      rw [if_pos hx, if_pos hy] at mt'
      have Y := K.yloop hd
      have v := Y.1.xloop hd K mt'
      have O := K.out_loops hd v mt'
      exact ⟨v, O.same hd v (by rw [lpe, eL]; omega), 1, 1, O, by rw [lpe, eL]; omega⟩
    · obtain ⟨k, rfl⟩ := Int.eq_ofNat_of_zero_le (Int.not_lt.1 hy)
      have hk : k < 4 * d.n := by omega
      rw [if_pos hx, if_neg (fun e => hy e.1)] at hneed
      have eL : (pkL d x (k : Int) 0).toNat = d.lp - 1 := by unfold pkL; simp [hx, hy]; try omega
      have K := pk_pd hd x (k : Int) 0 ov hn (by rw [eL]; omega)
      have mt' := mt
      unfold leadM at mt'
      rw [if_pos hx, if_neg hy, Int.toNat_natCast] at mt'
      obtain ⟨b, Y, _⟩ := K.yedge hd hk (fwd_nat d k).symm
      have v := Y.xloop hd K mt'
      have O := K.out_yedge hd v hk mt'
      exact ⟨v, O.same hd v (by rw [lpe, eL]; omega), 0, 1, O, by rw [lpe, eL]; omega⟩
    · obtain ⟨k, rfl⟩ := Int.eq_ofNat_of_zero_le (Int.not_lt.1 hx)
      have hk : k < 4 * d.n := by omega
      rw [if_neg hx, if_pos ⟨hy, rfl⟩] at hneed
      have eL : (pkL d (k : Int) y 0).toNat = d.lp - 1 := by unfold pkL; simp [hx, hy]; try omega
      have K := pk_pd hd (k : Int) y 0 ov hn (by rw [eL]; omega)
      have mt' := mt
      unfold leadM at mt'
      rw [if_neg hx, if_pos hy, Int.toNat_natCast] at mt'
      have Y := K.yloop hd
      have v := Y.1.xedge0 hd K Y.2 hk (fwd_nat d k).symm mt'
      have O := K.out_xedge hd v hk mt'
      exact ⟨v, O.same hd v (by rw [lpe, eL]; omega), 1, 0, O, by rw [lpe, eL]; omega⟩
    · obtain ⟨k, rfl⟩ := Int.eq_ofNat_of_zero_le (Int.not_lt.1 hx)
      obtain ⟨j, rfl⟩ := Int.eq_ofNat_of_zero_le (Int.not_lt.1 hy)
      have hk : k < 4 * d.n := by omega
      have hj : j < 4 * d.n := by omega
      have hne : (k : Int) ≠ (j : Int) := fun e => by rw [if_neg (fun n => n e), if_neg hx] at hs; omega
      have hkj : k ≠ j := fun e => hne (by rw [e])
      have near : nearP d k j := Classical.byContradiction fun e => hnear ⟨by omega, by omega, hne, by rw [Int.toNat_natCast, Int.toNat_natCast]; exact e⟩
      have eL : (pkL d (k : Int) (j : Int) 0).toNat = d.lp := by unfold pkL; simp [hx, hy]
      have K := pk_pd hd (k : Int) (j : Int) 0 ov hn (by rw [eL]; omega)
      have mt' := mt
      unfold leadM at mt'
      rw [if_neg hx, if_neg hy, Int.toNat_natCast, Int.toNat_natCast] at mt'
      have v := K.edges hd hk hj (fwd_nat d k).symm (fwd_nat d j).symm hkj near.2 near.1 mt'
      have O := K.out_edges hd v hk hj hkj near.2 mt'
      exact ⟨v, O.same hd v (by rw [lpe, eL]; omega), 0, 0, O, by rw [lpe, eL]; omega⟩
  · have hxy : x = y := Classical.byContradiction fun e => hs0 (by rw [if_pos e] at hs; exact hs)
    subst hxy
    rw [if_neg (by simp)] at hs
    by_cases hx : x < 0
    · rw [if_pos hx] at hs
      have eM : pkM d x x sg ov = jn (jn (pk0 d x x ov) (pQ d x x ov 3) (pQ d x x ov 0)) (pP d x x ov 2) (pP d x x ov 3) := by unfold pkM; rw [if_pos ⟨hs0, hx⟩]
      rw [eM, pk0_l0, pQ_pp, pQ_pp, pP_pp, pP_pp] at mt
      rw [if_pos hx, if_neg (fun e => hs0 e.2)] at hneed
      have eL : (pkL d x x sg).toNat = d.lp - 1 := by unfold pkL; rw [if_pos ⟨hs0, hx⟩]; omega
      have K := pk_pd hd x x sg ov hn (by rw [eL]; omega)
      have v := K.self0 hd mt
      have O := K.out_self0 hd v mt
      exact ⟨v, O.same hd v (by rw [lpe, eL]; omega), 0, 1, O, by rw [lpe, eL]; omega⟩
    · rw [if_neg hx] at hs
      obtain ⟨k, rfl⟩ := Int.eq_ofNat_of_zero_le (Int.not_lt.1 hx)
      have hk : k < 4 * d.n := by omega
      have eL : (pkL d (k : Int) (k : Int) sg).toNat = d.lp := by unfold pkL; rw [if_neg (fun e => hx e.2), if_neg hs0]; omega
      have K := pk_pd hd (k : Int) (k : Int) sg ov hn (by rw [eL]; omega)
      rcases hs with rfl | rfl
      · have eM : pkM d (k : Int) (k : Int) 1 ov = jn (jn (jn (pk0 d (k : Int) (k : Int) ov) k (pP d (k : Int) (k : Int) ov 3)) (pQ d (k : Int) (k : Int) ov 3) (pQ d (k : Int) (k : Int) ov 0)) (pP d (k : Int) (k : Int) ov 2) (d.m k) := by
          unfold pkM; rw [if_neg (fun e => hx e.2), if_pos rfl, Int.toNat_natCast]
        rw [eM, pk0_l0, pQ_pp, pQ_pp, pP_pp, pP_pp] at mt
        have v := K.self1 hd hk (fwd_nat d k).symm mt
        have O := K.out_self1 hd v hk mt
        exact ⟨v, O.same hd v (by rw [lpe, eL]; omega), 0, 0, O, by rw [lpe, eL]; omega⟩
      · have eM : pkM d (k : Int) (k : Int) (-1) ov = jn (jn (jn (pk0 d (k : Int) (k : Int) ov) k (pQ d (k : Int) (k : Int) ov 0)) (pP d (k : Int) (k : Int) ov 2) (pP d (k : Int) (k : Int) ov 3)) (pQ d (k : Int) (k : Int) ov 3) (d.m k) := by
          unfold pkM; rw [if_neg (fun e => hx e.2), if_neg (by decide), if_pos rfl, Int.toNat_natCast]
        rw [eM, pk0_l0, pQ_pp, pQ_pp, pP_pp, pP_pp] at mt
        have v := K.self2 hd hk (fwd_nat d k).symm mt
        have O := K.out_self2 hd v hk mt
        exact ⟨v, O.same hd v (by rw [lpe, eL]; omega), 0, 0, O, by rw [lpe, eL]; omega⟩
/-- Every move that is applied keeps a diagram valid, and the number of components. -/
theorem ap_ok {d : Pl.Dg} (hd : Pl.Valid d) {m : Mv} (h : apC d m = 0) : Pl.Valid (apD d m) ∧ Pl.Same d (apD d m) := by
  obtain ⟨hk, hin, hc⟩ := apC_zero h
  obtain ⟨k, x, y, s, o⟩ := m
  simp only at hk hc
  have hk5 : k = 1 ∨ k = 2 ∨ k = 3 ∨ k = 4 ∨ k = 5 := by omega
  rcases hk5 with rfl | rfl | rfl | rfl | rfl
  · have hb : (-1 ≤ x ∧ x < 4 * d.n) ∧ (s = 1 ∨ s = -1) := by unfold inR at hin; simp at hin; exact ⟨⟨hin.1, hin.2.1⟩, hin.2.2.2⟩
    exact crl_ok hd hb.1 hb.2 hc
  · obtain ⟨c, rfl⟩ := Int.eq_ofNat_of_zero_le (show 0 ≤ x by unfold inR at hin; simp at hin; omega)
    have hcn : c < d.n := by unfold inR at hin; simp at hin; omega
    exact unD_ok hd hcn hc
  · have := pk_ok hd hin hc
    exact ⟨this.1, this.2.1⟩
  · obtain ⟨a, rfl⟩ := Int.eq_ofNat_of_zero_le (show 0 ≤ x by unfold inR at hin; simp at hin; omega)
    obtain ⟨b, rfl⟩ := Int.eq_ofNat_of_zero_le (show 0 ≤ y by unfold inR at hin; simp at hin; omega)
    have hab : a < b ∧ b < d.n := by unfold inR at hin; simp at hin; omega
    exact unpD_ok hd hab.1 hab.2 hc
  · obtain ⟨c, rfl⟩ := Int.eq_ofNat_of_zero_le (show 0 ≤ x by unfold inR at hin; simp at hin; omega)
    have hcn : c < 4 * d.n := by unfold inR at hin; simp at hin; omega
    have hc' : sldC d c = 0 := hc
    have ht : isT d c := Classical.byContradiction fun e => by unfold sldC at hc'; rw [if_neg e] at hc'; exact absurd hc' (by decide)
    exact sldD_ok hd hcn ht.1
end Go.Proofs.Ytobbepmlmbbamaa
end
